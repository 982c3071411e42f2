/- slices.Clone and proc's own: a state of one's own. -/
import Derived.Test.YtkhoelmbcmkhjaaP3
namespace Go.Proofs.Ytkhoelmbcmkhjaa
set_option maxRecDepth 100000

theorem IsL.own {η : AHeap} {r : Nat} {l J : List Int} (h : η r = some (.cells 1 (ints (l ++ J)))) : IsL η (.sl r 0 l.length) l := Or.inr (Or.inr ⟨r, 0, [], J, rfl, rfl, h⟩)
def NewL (η : AHeap) (n : Nat) (l : List Int) : AVal → AHeap → Nat → Prop := fun u η' n' => ∃ q, u = .sl q 0 l.length ∧ η' q = some (.cells 1 (ints l)) ∧ n ≤ q ∧ q < n' ∧ ∀ r, r < n → η' r = η r
theorem take_ints (I l J : List Int) : List.take l.length (List.drop I.length (ints (I ++ (l ++ J)))) = ints l := by simp [ints]
theorem ints_len (l : List Int) : (ints l).length = l.length := by simp [ints]
theorem ints_sc {l : List Int} : ∀ r ∈ ints l, ∀ c ∈ r, c.sc = true := by intro r hr c hc; simp [ints] at hr; obtain ⟨x, _, rfl⟩ := hr; simp at hc; subst hc; rfl
theorem clone_ac {η : AHeap} {n : Nat} {v : AVal} {l : List Int} (h : IsL η v l) (hl : l.length ≤ 17592186044416) : AC Try.prog 75 [v] η n (NewL η n l) := by
  refine AC.nilOwn 1 (by decide) ?_
  have fin : ∀ n' η', n ≤ n' → (∀ r, r < n → η' r = η r) → l = [] → NewL η n l (.sl n' 0 0) (upd η' n' (some (.cells 1 []))) (n' + 1) := fun n' η' h1 h2 h3 => by
    subst h3
    exact ⟨n', rfl, by rw [upd_eq]; rfl, h1, by omega, fun r hr => by rw [upd_ne (by omega)]; exact h2 r hr⟩
  have fin2 : ∀ o1 o2, NewL η n l (.sl (n + 1) 0 l.length) (upd (upd (upd η n o1) n o2) (n + 1) (some (.cells 1 (ints l)))) (n + 1 + 1) := fun _ _ => ⟨n + 1, rfl, upd_eq .., by omega, by omega, fun r hr => by rw [upd_ne (by omega), upd_ne (by omega), upd_ne (by omega)]⟩
  have hfl := ints_len l
  have hnil : ints l = [] → l = [] := fun h => by simpa [ints] using h
  rcases h with rfl | ⟨rfl, rfl⟩ | ⟨r, o, I, J, rfl, ho, hr⟩
  · refine AC.enter Try.func75 rfl Try.ntmps75 (by simp) ?_
    simp [nilcmp, anil, abuildS, afillP, chunk, appK, aappend, arows, hfl, tek, upd_eq, lenMax, hl]
    exact ⟨⟨ints_sc, by omega, resK.rt (Or.inl (fin2 _ _))⟩, fun e => resK.rt (Or.inr ⟨rfl, fin _ _ (Nat.le_refl _) (fun _ _ => rfl) (hnil e)⟩)⟩
  · refine AC.enter Try.func75 rfl Try.ntmps75 (by simp) ?_
    simp
    exact resK.rt (Or.inr ⟨rfl, fin _ _ (Nat.le_refl _) (fun _ _ => rfl) rfl⟩)
  · have ht := take_ints I l J
    rw [← ho] at ht
    have hlen : o + l.length ≤ I.length + (l.length + J.length) := by omega
    refine AC.fresh fun hf => ?_
    have hrn : r ≠ n := fun e => by have := hf r (by omega); rw [hr] at this; cases this
    refine AC.enter Try.func75 rfl Try.ntmps75 (by simp) ?_
    simp [nilcmp, anil, abuildS, afillP, chunk, appK, aappend, arows, upd_ne hrn, hr, ht, hlen, hfl, tek, upd_eq, lenMax, hl]
    exact ⟨⟨ints_sc, by omega, resK.rt (Or.inl (fin2 _ _))⟩, fun e => resK.rt (Or.inr ⟨rfl, fin _ _ (Nat.le_refl _) (fun _ _ => rfl) e⟩)⟩

def stA (s : Sta) (sv rv : AVal) : List AVal := [.int .i64 s.actor, .int .i64 s.pc, sv, rv, .bool s.waiting, .int .i64 s.till]
def NewS (η : AHeap) (n : Nat) (s : Sta) : AVal → AHeap → Nat → Prop := fun u η' n' => ∃ sr rr, u = .agg (stA s (.sl sr 0 s.stack.length) (.sl rr 0 s.regs.length)) ∧ η' sr = some (.cells 1 (ints s.stack)) ∧ η' rr = some (.cells 1 (ints s.regs)) ∧ n ≤ sr ∧ n ≤ rr ∧ sr ≠ rr ∧ sr < n' ∧ rr < n' ∧ ∀ r, r < n → η' r = η r
theorem IsL.keep {η η' : AHeap} {v : AVal} {l : List Int} {n : Nat} (h : IsL η v l) (hf : ∀ r, n ≤ r → η r = none) (hk : ∀ r, r < n → η' r = η r) : IsL η' v l := by
  rcases h with h | h | ⟨r, o, I, J, h1, h0, h2⟩
  · exact Or.inl h
  · exact Or.inr (Or.inl h)
  · exact Or.inr (Or.inr ⟨r, o, I, J, h1, h0, by rw [hk r (by rcases Nat.lt_or_ge r n with h | h; exact h; rw [hf r h] at h2; cases h2)]; exact h2⟩)
theorem own_ac {η : AHeap} {n : Nat} {s : Sta} {sv rv : AVal} (h1 : IsL η sv s.stack) (h2 : IsL η rv s.regs) (hl1 : s.stack.length ≤ 17592186044416) (hl2 : s.regs.length ≤ 17592186044416) : AC Try.prog 48 [.agg (stA s sv rv)] η n (NewS η n s) := by
  have s1 := h1.sc
  have s2 := h2.sc
  refine AC.fresh fun hf => ?_; refine AC.enter Try.func48 rfl Try.ntmps48 (by simp) ?_
  simp [stA, s1, s2]
  refine drawK.intro mixed [(0, []), (1, []), (3, []), (4, []), (2, [4]), (6, []), (5, []), (7, []), (8, []), (9, [])] (by kernel_rfl) ?_
  have hn : n ≠ n + 1 := by omega
  have f2 : ∀ o1 o2 r, n + 1 + 1 ≤ r → upd (upd η n o1) (n + 1) o2 r = none := fun o1 o2 r hr => by rw [upd_ne (by omega), upd_ne (by omega)]; exact hf r (by omega)
  have k2 : ∀ o1 o2 r, r < n → upd (upd η n o1) (n + 1) o2 r = η r := fun o1 o2 r hr => by rw [upd_ne (by omega), upd_ne (by omega)]
  simp [aload, afield, apart, upd_eq, upd_ne hn, s1, s2]
  refine ACK.use (clone_ac (l := s.stack) (h1.keep hf (k2 _ _)) hl1) ?_
  intro r η1 n1 ⟨q1, e1, a1, a2, a3, a4⟩
  subst e1
  have b0 := a4 n (by omega)
  have b1 := a4 (n + 1) (by omega)
  rw [upd_ne hn, upd_eq] at b0
  rw [upd_eq] at b1
  have c2 : ∀ r, n + 1 + 1 ≤ r → upd (upd η n (some (.cells 6 [stA s sv rv]))) (n + 1) (some (.cells 6 [[.int .i64 0, .int .i64 0, .nils, .nils, .bool false, .int .i64 0]])) r = none := f2 _ _
  have hr2 : IsL η1 rv s.regs := h2.keep hf fun r hr => by rw [a4 r (by omega)]; exact k2 _ _ r hr
  simp [lk_some, chkK, aload, afield, apart, b0, s1, s2]
  refine ACK.use (clone_ac (l := s.regs) hr2 hl2) ?_
  intro r η2 n2 ⟨q2, e2, d1, d2, d3, d4⟩
  subst e2
  have g0 := (d4 n (by omega)).trans b0
  have g1 := (d4 (n + 1) (by omega)).trans b1
  have g2 := (d4 q1 (by omega)).trans a1
  simp [lk_some, chkK, aload, afield, apart, g0, s1, s2, astore, upd_eq, upd_ne (Ne.symm hn), g1, upd_upd]
  exact resK.rt ⟨q1, q2, rfl, by rw [upd_ne (by omega), upd_ne (by omega)]; exact g2, by rw [upd_ne (by omega), upd_ne (by omega)]; exact d1, by omega, by omega, by omega, by omega, by omega, fun r hr => by
    rw [upd_ne (by omega), upd_ne (by omega), d4 r (by omega), a4 r (by omega)]; exact k2 _ _ r hr⟩
end Go.Proofs.Ytkhoelmbcmkhjaa
