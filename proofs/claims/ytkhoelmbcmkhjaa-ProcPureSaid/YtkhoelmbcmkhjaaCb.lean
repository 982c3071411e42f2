/- slices' functions over lists of types. -/
import Derived.Test.YtkhoelmbcmkhjaaCa
namespace Go.Proofs.Ytkhoelmbcmkhjaa
set_option maxRecDepth 100000

/-- a list in the heap as it was, and nothing turned -/
def PL (η : AHeap) (n : Nat) (l : List Int) : AVal → AHeap → Nat → Prop := fun r η' n' => IsL η r l ∧ η' = η ∧ n' = n
theorem IsL.nq {η : AHeap} {v : AVal} {l : List Int} (h : IsL η v l) : NQ η v := by
  rcases h with rfl | ⟨rfl, _⟩ | ⟨r, o, I, J, rfl, _, hr⟩
  · refine .rs _ _ fun row hr c hc => ?_
    simp [ints] at hr
    obtain ⟨x, _, rfl⟩ := hr
    simp at hc; subst hc; exact .int _ _
  · exact .nils
  · exact .sl _ _ _ (by rw [hr]; simp)
theorem ints_gnd (n : Nat) (η : AHeap) (fu : Nat) (l : List Int) : (ints l).map (fun row => row.map (gnd n η fu)) = ints l := by
  simp [ints]
/-- a list that a function hands back, whatever it made -/
theorem IsL.gnd {η η' : AHeap} {n : Nat} {v : AVal} {l : List Int} (h : IsL η' v l) (hk : ∀ r, r < n → η' r = η r) (hl : l.length ≤ lenMax) (fu : Nat) : IsL η (gnd n η' (fu + 1) v) l := by
  rcases h with rfl | ⟨rfl, rfl⟩ | ⟨r, o, I, J, rfl, ho, hr⟩
  · exact Or.inl (by simp)
  · exact Or.inr (Or.inl ⟨by simp, rfl⟩)
  · rcases Nat.lt_or_ge r n with g | g
    · rw [gnd_old _ _ g]
      exact Or.inr (Or.inr ⟨r, o, I, J, rfl, ho, by rw [← hk r g]; exact hr⟩)
    · rw [gnd_new g hr (by rw [ints_length]; simp; omega) hl]
      refine Or.inl ?_
      rw [ho, take_ints, ints_gnd]
theorem AC.list {P : Program} {f : FuncId} {args : List AVal} {η : AHeap} {n : Nat} {l : List Int} (hl : l.length ≤ lenMax) (h : AC P f args η n fun r η' _ => IsL η' r l ∧ ∀ x, x < n → η' x = η x) : AC P f args η n (PL η n l) :=
  (AC.ground (R := fun v => IsL η v l) 1 (h.mono fun _ _ _ ⟨h1, h2⟩ => ⟨h2, _, Ent.refl _, h1.gnd h2 hl 0⟩) fun _ hv => hv.nq).mono fun _ _ _ h => h

theorem cloneT_ac {η : AHeap} {n : Nat} {v : AVal} {l : List Int} (h : IsL η v l) (hl : l.length ≤ 17592186044416) : AC Try.prog 141 [v] η n (NewL η n l) := by
  refine AC.nilOwn 1 (by decide) ?_
  have fin : ∀ n' η', n ≤ n' → (∀ r, r < n → η' r = η r) → l = [] → NewL η n l (.sl n' 0 0) (upd η' n' (some (.cells 1 []))) (n' + 1) := fun n' η' h1 h2 h3 => by
    subst h3
    exact ⟨n', rfl, by rw [upd_eq]; rfl, h1, by omega, fun r hr => by rw [upd_ne (by omega)]; exact h2 r hr⟩
  have fin2 : ∀ o1 o2, NewL η n l (.sl (n + 1) 0 l.length) (upd (upd (upd η n o1) n o2) (n + 1) (some (.cells 1 (ints l)))) (n + 1 + 1) := fun _ _ => ⟨n + 1, rfl, upd_eq .., by omega, by omega, fun r hr => by rw [upd_ne (by omega), upd_ne (by omega), upd_ne (by omega)]⟩
  have hfl := ints_len l
  have hnil : ints l = [] → l = [] := fun h => by simpa [ints] using h
  rcases h with rfl | ⟨rfl, rfl⟩ | ⟨r, o, I, J, rfl, ho, hr⟩
  · refine AC.enter Try.func141 rfl Try.ntmps141 (by simp) ?_
    simp [nilcmp, anil, abuildS, afillP, chunk, appK, aappend, arows, hfl, tek, upd_eq, lenMax, hl]
    exact ⟨⟨ints_sc, by omega, resK.rt (Or.inl (fin2 _ _))⟩, fun e => resK.rt (Or.inr ⟨rfl, fin _ _ (Nat.le_refl _) (fun _ _ => rfl) (hnil e)⟩)⟩
  · refine AC.enter Try.func141 rfl Try.ntmps141 (by simp) ?_
    simp
    exact resK.rt (Or.inr ⟨rfl, fin _ _ (Nat.le_refl _) (fun _ _ => rfl) rfl⟩)
  · have ht := take_ints I l J
    rw [← ho] at ht
    have hlen : o + l.length ≤ I.length + (l.length + J.length) := by omega
    refine AC.fresh fun hf => ?_
    have hrn : r ≠ n := fun e => by have := hf r (by omega); rw [hr] at this; cases this
    refine AC.enter Try.func141 rfl Try.ntmps141 (by simp) ?_
    simp [nilcmp, anil, abuildS, afillP, chunk, appK, aappend, arows, upd_ne hrn, hr, ht, hlen, hfl, tek, upd_eq, lenMax, hl]
    exact ⟨⟨ints_sc, by omega, resK.rt (Or.inl (fin2 _ _))⟩, fun e => resK.rt (Or.inr ⟨rfl, fin _ _ (Nat.le_refl _) (fun _ _ => rfl) e⟩)⟩
theorem cloneL_ac {η : AHeap} {n : Nat} {v : AVal} {l : List Int} (h : IsL η v l) (hl : l.length ≤ 17592186044416) : AC Try.prog 141 [v] η n (PL η n l) :=
  AC.list hl ((cloneT_ac h hl).mono fun r η' n' ⟨q, e, h1, h2, h3, h4⟩ => by subst e; exact ⟨IsL.own1 rfl h1, h4⟩)

theorem equalT_ac {η : AHeap} {n : Nat} {v1 v2 : AVal} {l1 l2 : List Int} (h1 : IsL η v1 l1) (h2 : IsL η v2 l2) (hl : l1.length ≤ 17592186044416) : AC Try.prog 133 [v1, v2] η n (Rt (.bool (decide (l1 = l2))) η n) := by
  have z1 : ∀ η', alenT Try.prog 52 v1 η' = some (l1.length : Int) := h1.len (by simp)
  have z2 : ∀ η', alenT Try.prog 52 v2 η' = some (l2.length : Int) := h2.len (by simp)
  by_cases hn : l1.length = l2.length
  · have hn' : (l1.length : Int) = l2.length := by omega
    refine AC.enter Try.func133 rfl Try.ntmps133 (by simp) ?_
    simp [z1, z2, hn']
    refine loopK.inv [4, 5, 13, 14, 15, 16, 17, 18, 19, 20, 21, 22, 23, 24, 25] (fun k : Nat => k ≤ l1.length ∧ (l1.drop k = l2.drop k ↔ l1 = l2)) (fun k => [(13, .int .i64 k)]) (fun _ => η) (fun _ => n) (fun k => l1.length - k) 0 (by simp) (by simp) (by simp) (Nat.le_refl _) ?_
    intro k ⟨g1, g2⟩
    simp
    refine CondP.dec (fun h => ?_) (fun h => ?_)
    · have h' : k < l1.length := by omega
      obtain ⟨p1, a1, a2⟩ := h1.idx (P := Try.prog) (t := 52) (e := 76) (by simp) (by simp) (by simp) h'
      obtain ⟨p2, b1, b2⟩ := h2.idx (P := Try.prog) (t := 52) (e := 76) (by simp) (by simp) (by simp) (hn ▸ h' : k < l2.length)
      simp [h]
      refine drawK.intro mixed [(0, []), (1, []), (2, []), (3, []), (4, []), (5, []), (6, []), (7, []), (8, [])] (by kernel_rfl) ?_
      simp [a1, a2, b1, b2]
      refine CondP.ndec (fun h4 => ?_) (fun h4 => ?_)
      · simp [h4]
        rw [wrap_id (by omega) (by omega)]
        exact endK.intro (k + 1) ⟨by omega, (drop_eq_iff hn h' h4).symm.trans g2⟩ (by simp) (by repeat (first | exact Agree.mask _ _ | refine Agree.setf rfl ?_ | refine Agree.inner rfl ?_)) (AHeap.le_rfl _) (Nat.le_refl _) (show l1.length - (k + 1) < l1.length - k by omega)
      · simp [h4]
        refine resK.rt ⟨?_, rfl, rfl⟩
        have : ¬ l1 = l2 := fun e => h4 (by subst e; rfl)
        simp [this]
    · simp [h]
      refine resK.rt ⟨?_, rfl, rfl⟩
      have : l1 = l2 := g2.1 (by rw [List.drop_eq_nil_of_le (by omega), List.drop_eq_nil_of_le (by omega)])
      simp [this]
  · have hn' : ¬ (l1.length : Int) = l2.length := by omega
    refine AC.enter Try.func133 rfl Try.ntmps133 (by simp) ?_
    simp [z1, z2, hn']
    refine resK.rt ⟨?_, rfl, rfl⟩
    have : ¬ l1 = l2 := fun e => hn (by rw [e])
    simp [this]
theorem ksame_ac {η : AHeap} {n : Nat} {v1 v2 : AVal} {l1 l2 : List Int} (h1 : IsL η v1 l1) (h2 : IsL η v2 l2) (hl : l1.length ≤ 17592186044416) : AC Try.prog 90 [v1, v2] η n (Rt (.bool (decide (l1 = l2))) η n) := by
  refine AC.enter Try.func90 rfl Try.ntmps90 (by simp) ?_
  simp
  refine ACK.rt (equalT_ac h1 h2 hl) ?_
  simp
  exact resK.rt ⟨rfl, rfl, rfl⟩
theorem same02_ac {η : AHeap} {n : Nat} {v1 v2 : AVal} {l1 l2 : List Int} (h1 : IsL η v1 l1) (h2 : IsL η v2 l2) (hl : l1.length ≤ 17592186044416) : AC Try.prog 29 [v1, v2] η n (Rt (.bool (decide (l1 = l2))) η n) := by
  have z1 : ∀ η', alenT Try.prog 52 v1 η' = some (l1.length : Int) := h1.len (by simp)
  have z2 : ∀ η', alenT Try.prog 52 v2 η' = some (l2.length : Int) := h2.len (by simp)
  by_cases hn : l1.length = l2.length
  · have hn' : (l1.length : Int) = l2.length := by omega
    refine AC.enter Try.func29 rfl Try.ntmps29 (by simp) ?_
    simp [z1, z2, hn']
    refine loopK.inv [4, 5, 11, 12, 13, 14, 15, 16, 17, 18, 19, 20, 21, 22, 23, 24, 25] (fun k : Nat => k ≤ l1.length ∧ (l1.drop k = l2.drop k ↔ l1 = l2)) (fun k => [(5, .int .i64 k)]) (fun _ => η) (fun _ => n) (fun k => l1.length - k) 0 (by simp) (by simp) (by simp) (Nat.le_refl _) ?_
    intro k ⟨g1, g2⟩
    simp [z1]
    refine CondP.dec (fun h => ?_) (fun h => ?_)
    · have h' : k < l1.length := by omega
      obtain ⟨p1, a1, a2⟩ := h1.idx (P := Try.prog) (t := 52) (e := 76) (by simp) (by simp) (by simp) h'
      obtain ⟨p2, b1, b2⟩ := h2.idx (P := Try.prog) (t := 52) (e := 76) (by simp) (by simp) (by simp) (hn ▸ h' : k < l2.length)
      simp [h]
      refine drawK.intro mixed [(0, []), (1, []), (2, []), (3, []), (4, []), (5, []), (6, []), (7, []), (8, [])] (by kernel_rfl) ?_
      simp [a1, a2, b1, b2]
      refine CondP.ndec (fun h4 => ?_) (fun h4 => ?_)
      · simp [h4]
        rw [wrap_id (by omega) (by omega)]
        exact endK.intro (k + 1) ⟨by omega, (drop_eq_iff hn h' h4).symm.trans g2⟩ (by simp) (by repeat (first | exact Agree.mask _ _ | refine Agree.setf rfl ?_ | refine Agree.inner rfl ?_)) (AHeap.le_rfl _) (Nat.le_refl _) (show l1.length - (k + 1) < l1.length - k by omega)
      · simp [h4]
        refine resK.rt ⟨?_, rfl, rfl⟩
        have : ¬ l1 = l2 := fun e => h4 (by subst e; rfl)
        simp [this]
    · simp [h]
      refine resK.rt ⟨?_, rfl, rfl⟩
      have : l1 = l2 := g2.1 (by rw [List.drop_eq_nil_of_le (by omega), List.drop_eq_nil_of_le (by omega)])
      simp [this]
  · have hn' : ¬ (l1.length : Int) = l2.length := by omega
    refine AC.enter Try.func29 rfl Try.ntmps29 (by simp) ?_
    simp [z1, z2, hn']
    refine resK.rt ⟨?_, rfl, rfl⟩
    have : ¬ l1 = l2 := fun e => hn (by rw [e])
    simp [this]
end Go.Proofs.Ytkhoelmbcmkhjaa
