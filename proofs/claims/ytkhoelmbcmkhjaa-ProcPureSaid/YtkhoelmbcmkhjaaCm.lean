/- Layer 6 (check): names, pop, repeat. Layer 6 (check): send, behind. -/
import Derived.Test.YtkhoelmbcmkhjaaCk
namespace Go.Proofs.Ytkhoelmbcmkhjaa
set_option maxRecDepth 100000

theorem IsL.cut {P : Program} {t e : TypeId} (ht : telem P t = some e) (hz : tsize P e = some 1) {η : AHeap} {v : AVal} {l : List Int} (h : IsL η v l) {lo hi : Option AVal} {a b : Nat} (hb : abnd lo hi l.length = some (a, b)) (hab : a ≤ b) (hbl : b ≤ l.length) :
    ∃ u, asliceV P t v lo hi none η = some u ∧ IsL η u ((l.take b).drop a) := by
  rcases h with rfl | ⟨rfl, rfl⟩ | ⟨r, o, I, J, rfl, ho, hr⟩
  · refine ⟨.rs 1 (ints ((l.take b).drop a)), ?_, Or.inl rfl⟩
    simp [asliceV, ht, hz, hb]
    simp [ints]
  · have : a = 0 ∧ b = 0 := by simp at hbl; omega
    obtain ⟨rfl, rfl⟩ := this
    refine ⟨.nils, ?_, Or.inr (Or.inl ⟨rfl, rfl⟩)⟩
    simp at hb
    simp [asliceV, ht, hz, hb]
  · refine ⟨.sl r (o + a) (b - a), ?_, ?_⟩
    · simp [asliceV, ht, hz, hb, hr]
    · refine Or.inr (Or.inr ⟨r, o + a, I ++ l.take a, l.drop b ++ J, ?_, ?_, ?_⟩)
      · simp; omega
      · simp; omega
      · rw [hr]
        have : l = l.take a ++ ((l.take b).drop a ++ l.drop b) := by
          conv => lhs; rw [← List.take_append_drop a l]
          congr 1
          rw [← List.take_append_drop (b - a) (l.drop a), List.drop_drop, List.drop_take]
          simp; congr 2; omega
        conv => lhs; rw [this]
        simp
theorem IsL.cutLo {P : Program} {t e : TypeId} (ht : telem P t = some e) (hz : tsize P e = some 1) {η : AHeap} {v : AVal} {l : List Int} (h : IsL η v l) {k : IntKind} {x : Int} (h0 : 0 ≤ x) (hx : x ≤ l.length) :
    ∃ u, asliceV P t v (some (.int k x)) none none η = some u ∧ IsL η u (l.drop x.toNat) := by
  obtain ⟨u, h1, h2⟩ := h.cut ht hz (lo := some (.int k x)) (hi := none) (a := x.toNat) (b := l.length) (by simp [abnd, h0, hx]) (by omega) (Nat.le_refl _)
  exact ⟨u, h1, by simpa using h2⟩
theorem IsL.cutHi {P : Program} {t e : TypeId} (ht : telem P t = some e) (hz : tsize P e = some 1) {η : AHeap} {v : AVal} {l : List Int} (h : IsL η v l) {k : IntKind} {x : Int} (h0 : 0 ≤ x) (hx : x ≤ l.length) :
    ∃ u, asliceV P t v none (some (.int k x)) none η = some u ∧ IsL η u (l.take x.toNat) := by
  obtain ⟨u, h1, h2⟩ := h.cut ht hz (lo := none) (hi := some (.int k x)) (a := 0) (b := x.toNat) (by simp [abnd, h0, hx]) (by omega) (by omega)
  exact ⟨u, h1, by simpa using h2⟩
theorem IsL.cut1 {P : Program} {t e : TypeId} (ht : telem P t = some e) (hz : tsize P e = some 1) {η : AHeap} {v : AVal} {l : List Int} (h : IsL η v l) {k k' : IntKind} {x y : Int} (h0 : 0 ≤ x) (hx : x < l.length) (hy : y = x + 1) :
    ∃ u, asliceV P t v (some (.int k x)) (some (.int k' y)) none η = some u ∧ IsL η u [l.getD x.toNat 0] := by
  subst hy
  have e2 : (x + 1).toNat = x.toNat + 1 := by omega
  have e3 : x + 1 ≤ l.length := by omega
  have hxn : x.toNat < l.length := by omega
  obtain ⟨u, h1, h2⟩ := h.cut ht hz (lo := some (.int k x)) (hi := some (.int k' (x + 1))) (a := x.toNat) (b := x.toNat + 1) (by simp [abnd, e2, e3, show 0 ≤ x + 1 by omega, h0, show x ≤ x + 1 by omega]) (by omega) (by omega)
  refine ⟨u, h1, ?_⟩
  have : (l.take (x.toNat + 1)).drop x.toNat = [l.getD x.toNat 0] := by
    rw [List.drop_take, show x.toNat + 1 - x.toNat = 1 by omega, List.drop_eq_getElem_cons hxn, List.take_succ_cons, List.take_zero, List.getD_eq_getElem?_getD, List.getElem?_eq_getElem hxn, Option.getD_some]
  rwa [this] at h2

theorem lnames_ac {c : Lc} {v : AVal} {hs td : List Bool} {g : Nat} {η : AHeap} {n : Nat} (i : Int × Int) (hg : η g = some (.cells 408 [lookC c v hs td])) : AC Try.prog 138 [.ptr g 0 0, .agg [.int .i64 i.1, .int .i64 i.2]] η n (Rt (.bool (namesL c i)) η n) := by
  obtain ⟨op, a⟩ := i
  refine AC.pure (.bool _) ?_
  refine AC.fresh fun hf => ?_; refine AC.enter Try.func138 rfl Try.ntmps138 (by simp) ?_
  have le1 : ∀ o, η.le (upd η n o) := fun o => le_upd (AHeap.le_rfl _) (hf n (Nat.le_refl _))
  have hgn : g ≠ n := fun e => by subst e; rw [hf g (Nat.le_refl _)] at hg; cases hg
  have hg1 : ∀ o, (upd η n o) g = some (.cells 408 [lookC c v hs td]) := fun o => by rw [upd_ne hgn]; exact hg
  simp [aload, afield, apart, upd_eq]
  refine CondP.dec (fun h1 => ?_) (fun h1 => ?_)
  · simp [h1]
    refine drawK.intro mixed [(0, []), (1, []), (2, []), (3, []), (4, []), (5, []), (6, []), (7, []), (8, []), (9, [])] (by kernel_rfl) ?_
    simp [aload, afield, apart, upd_eq, hg1]
    exact resK.of (η' := η) (le1 _) _ (Nat.le_refl _) ⟨by simp [namesL, h1], rfl⟩
  simp [h1]
  refine CondP.dec (fun h2 => ?_) (fun h2 => ?_)
  · simp [h2]
    refine drawK.intro mixed [(0, []), (1, []), (2, []), (3, []), (4, []), (5, []), (6, []), (7, []), (8, []), (9, [])] (by kernel_rfl) ?_
    simp [aload, afield, apart, upd_eq, hg1]
    exact resK.of (η' := η) (le1 _) _ (Nat.le_refl _) ⟨by simp [namesL, h2], rfl⟩
  simp [h2]
  refine CondP.dec (fun h3 => ?_) (fun h3 => ?_)
  · simp [h3]
    refine drawK.intro mixed [(0, []), (1, []), (2, []), (3, []), (4, []), (5, []), (6, []), (7, []), (8, []), (9, [])] (by kernel_rfl) ?_
    simp [aload, afield, apart, upd_eq, hg1]
    exact resK.of (η' := η) (le1 _) _ (Nat.le_refl _) ⟨by simp [namesL, h3], rfl⟩
  simp [h3]
  refine CondP.dec (fun h4 => ?_) (fun h4 => ?_)
  · simp [h4]
    refine drawK.intro mixed [(0, []), (1, []), (2, []), (3, []), (4, []), (5, []), (6, []), (7, []), (8, []), (9, [])] (by kernel_rfl) ?_
    simp [aload, afield, apart, upd_eq, hg1]
    exact resK.of (η' := η) (le1 _) _ (Nat.le_refl _) ⟨by simp [namesL, h4], rfl⟩
  simp [h4]
  exact resK.of (η' := η) (le1 _) _ (Nat.le_refl _) ⟨by simp [namesL, h1, h2, h3, h4], rfl⟩

/-- a list of numbers and an error; the list counts when there is none -/
def PE (η : AHeap) (n : Nat) (l : List Int) (e : Int) : AVal → AHeap → Nat → Prop := fun r η' n' => (∃ v, r = .tup [v, .int .i64 e] ∧ IsL η v l) ∧ η' = η ∧ n' = n
theorem PE.of {η : AHeap} {n : Nat} {l : List Int} {e e' : Int} {v : AVal} (he : e' = e) (hv : IsL η v l) : PE η n l e (.tup [v, .int .i64 e']) η n := ⟨⟨v, by rw [he], hv⟩, rfl, rfl⟩
theorem IsL.nil' {η : AHeap} {l : List Int} (h : l = []) : IsL η .nils l := Or.inr (Or.inl ⟨rfl, h⟩)
theorem lpop_ac {η : AHeap} {n : Nat} {v1 v2 : AVal} {s w : List Int} (h1 : IsL η v1 s) (h2 : IsL η v2 w) (hl : s.length ≤ 17592186044416) (hl2 : w.length ≤ 17592186044416) : AC Try.prog 143 [v1, v2] η n (PE η n (popL s w).1 (popL s w).2) := by
  have z1 : ∀ η', alenT Try.prog 52 v1 η' = some (s.length : Int) := h1.len (by simp)
  have z2 : ∀ η', alenT Try.prog 52 v2 η' = some (w.length : Int) := h2.len (by simp)
  have e1 : IntKind.i64.wrap ((s.length : Int) - (w.length : Int)) = (s.length : Int) - (w.length : Int) := wrap_id (by omega) (by omega)
  refine AC.enter Try.func143 rfl Try.ntmps143 (by simp) ?_
  simp [z1, z2, e1]
  refine CondP.dec (fun h => ?_) (fun h => ?_)
  · have : s.length < w.length := by omega
    simp [h]
    exact resK.rt (PE.of (by simp [popL, this]) (IsL.nil' (by simp [popL, this])))
  · have hn : ¬ s.length < w.length := by omega
    have q0 : 0 ≤ (s.length : Int) - (w.length : Int) := by omega
    have q1 : (s.length : Int) - (w.length : Int) ≤ s.length := by omega
    have q2 : ((s.length : Int) - (w.length : Int)).toNat = s.length - w.length := by omega
    obtain ⟨u1, d1, d2⟩ := h1.cutLo (P := Try.prog) (t := 52) (e := 76) (by simp) (by simp) (k := .i64) q0 q1
    obtain ⟨u2, f1, f2⟩ := h1.cutHi (P := Try.prog) (t := 52) (e := 76) (by simp) (by simp) (k := .i64) q0 q1
    rw [q2] at d2 f2
    simp [h, d1]
    refine ACK.rt (ksame_ac d2 h2 (by simp; omega)) ?_
    by_cases h3 : s.drop (s.length - w.length) = w
    · simp [h3, f1]
      exact resK.rt (PE.of (by simp [popL, hn, h3]) (by simpa [popL, hn, h3] using f2))
    · simp [h3]
      exact resK.rt (PE.of (by simp [popL, hn, h3]) (IsL.nil' (by simp [popL, hn, h3])))
/-! ### repeat, of one or two -/
theorem bmul_ac (b : Int) (hb : b = 1 ∨ b = 2) (η : AHeap) (n : Nat) : AC Try.prog 149 [.int .u64 1, .int .u64 b] η n (Rt (.tup [.int .u64 0, .int .u64 b]) η n) := by
  rcases hb with rfl | rfl
  · refine AC.enter Try.func149 rfl Try.ntmps149 (by simp) ?_
    simp
    exact resK.rt ⟨by kernel_rfl, rfl, rfl⟩
  · refine AC.enter Try.func149 rfl Try.ntmps149 (by simp) ?_
    simp
    exact resK.rt ⟨by kernel_rfl, rfl, rfl⟩
theorem bmulU_ac (b : Int) (hb : b = 1 ∨ b = 2) (η : AHeap) (n : Nat) : AC Try.prog 147 [.int .u64 1, .int .u64 b] η n (Rt (.tup [.int .u64 0, .int .u64 b]) η n) := by
  refine AC.enter Try.func147 rfl Try.ntmps147 (by simp) ?_
  simp
  refine ACK.rt (bmul_ac b hb _ _) ?_
  simp
  exact resK.rt ⟨rfl, rfl, rfl⟩
theorem sRepeat_ac {η : AHeap} {n p : Nat} {t : Int} (c : Nat) (hc : c = 1 ∨ c = 2) (hp : η p = some (.cells 1 [[.int .i64 t]])) :
    AC Try.prog 146 [.sl p 0 1, .int .i64 c] η n (Rt (.rs 1 (ints (List.replicate c t))) η n) := by
  refine AC.listNew (by simp only [lenMax, List.length_replicate]; omega) ?_
  have e1 : ¬ ((c : Int) < 0) := by omega
  have e2 : IntKind.u64.wrap (c : Int) = c := by rw [IntKind.wrap_u64]; omega
  have e3 : IntKind.i64.wrap (c : Int) = c := wrap_id (by omega) (by omega)
  have e4 : ¬ (9223372036854775807 : Int) < c := by omega
  have e5 : IntKind.u64.wrap (1 : Int) = 1 := by rw [IntKind.wrap_u64]; omega
  refine AC.fresh fun hf => ?_; refine AC.enter Try.func146 rfl Try.ntmps146 (by simp) ?_
  simp [e1, aconv, e2, e5]
  refine ACK.rt (bmulU_ac _ (by omega) _ _) ?_
  simp [aconv, e3, e4]
  have b1 : 8 * (c : Int) ≤ 281474976710656 := by omega
  have b2 : (c : Int) ≤ 9223372036854775807 := by omega
  have hpn : p ≠ n := fun e => by subst e; rw [hf p (Nat.le_refl _)] at hp; cases hp
  simp [makeK, b1, b2]
  refine cpyK.own (e := 76) (z := 1) (e2 := 76) (by simp) (by simp) (by simp) (by omega) (news := [[.int .i64 t]]) (by simp [arows, upd_ne hpn, hp]) (by simp) (upd_eq ..) (by simp) ?_
  have em : min 1 c = 1 := by omega
  simp [em, upd_upd]
  have er : [AVal.int .i64 t] :: List.replicate (c - 1) [AVal.int .i64 0] = ints (List.replicate 1 t ++ List.replicate (c - 1) 0) := by simp [ints]
  rw [er]
  refine loopK.inv [8, 34, 35, 36, 37, 38, 39, 40, 41, 42, 43, 44, 45, 46] (fun k : Nat => k = 1 ∨ k = c) (fun k => [(8, .int .i64 k)]) (fun k => upd η n (some (.cells 1 (ints (List.replicate k t ++ List.replicate (c - k) 0))))) (fun _ => n + 1) (fun k => c - k) 1 (Or.inl rfl) (by simp) (AHeap.le_rfl _) (Nat.le_refl _) ?_
  intro k hk
  simp
  refine CondP.dec (fun h => ?_) (fun h => ?_)
  · have hk1 : k = 1 := by omega
    have hc2 : c = 2 := by omega
    subst hk1 hc2
    simp
    refine drawK.intro mixed [(0, []), (1, []), (2, []), (3, []), (4, []), (5, []), (6, []), (7, []), (8, []), (9, [])] (by kernel_rfl) ?_
    simp [asliceV, abnd, upd_eq]
    refine cpyK.own (e := 76) (z := 1) (e2 := 76) (by simp) (by simp) (by simp) (by omega) (news := [[.int .i64 t]]) (by simp [arows, upd_eq, ints]) (by simp) (upd_eq ..) (by simp) ?_
    have ew : IntKind.i64.wrap (2 : Int) = 2 := wrap_id (by omega) (by omega)
    simp [upd_upd, ew]
    exact endK.intro 2 (Or.inr rfl) (by simp) (by repeat (first | exact Agree.mask _ _ | refine Agree.setf rfl ?_ | refine Agree.inner rfl ?_)) (by simp [ints]) (Nat.le_refl _) (by omega)
  · have hk1 : k = c := by omega
    subst hk1
    simp
    refine resK.rt ⟨?_, fun x hx => upd_ne (by omega)⟩
    exact Or.inr ⟨n, [], by simp, by rw [upd_eq]; simp, Nat.le_refl _⟩
theorem ints_nr (l : List Int) : NR (.rs 1 (ints l)) := by
  refine .rs _ _ fun row hr c hc => ?_
  simp [ints] at hr
  obtain ⟨x, _, rfl⟩ := hr
  simp at hc; subst hc; exact .int _ _
theorem repeat_ac {η : AHeap} {n : Nat} (t : Int) (c : Nat) (hc : c = 1 ∨ c = 2) : AC Try.prog 145 [.int .i64 t, .int .i64 c] η n (Rt (.rs 1 (ints (List.replicate c t))) η n) := by
  refine AC.pure (ints_nr _) ?_
  refine AC.fresh fun hf => ?_; refine AC.enter Try.func145 rfl Try.ntmps145 (by simp) ?_
  simp [abuildS, afillP]
  refine ACK.rt (sRepeat_ac c hc (upd_eq ..)) ?_
  simp
  exact resK.of (η' := η) (le_upd (AHeap.le_rfl _) (hf _ (Nat.le_refl _))) _ (Nat.le_refl _) ⟨rfl, rfl⟩
theorem repeat1_ac {η : AHeap} {n : Nat} (t : Int) : AC Try.prog 145 [.int .i64 t, .int .i64 1] η n (Rt (.rs 1 (ints [t])) η n) := repeat_ac t 1 (Or.inl rfl)
theorem repeat2_ac {η : AHeap} {n : Nat} (t : Int) : AC Try.prog 145 [.int .i64 t, .int .i64 2] η n (Rt (.rs 1 (ints [t, t])) η n) := repeat_ac t 2 (Or.inr rfl)
/-! ### effect -/
def RoL (u : AVal) (l : List Int) : Prop := u = .rs 1 (ints l) ∨ (u = .nils ∧ l = [])
theorem RoL.isL {η : AHeap} {u : AVal} {l : List Int} (h : RoL u l) : IsL η u l := h.elim Or.inl fun h => Or.inr (Or.inl h)
theorem RoL.nr {u : AVal} {l : List Int} (h : RoL u l) : NR u := by
  rcases h with rfl | ⟨rfl, _⟩
  · exact ints_nr _
  · exact .nils
theorem rs_cut1 {l : List Int} {x : Int} {k k' : IntKind} {η : AHeap} (h0 : 0 ≤ x) (hx : x < l.length) : asliceV Try.prog 52 (.rs 1 (ints l)) (some (.int k x)) (some (.int k' (x + 1))) none η = some (.rs 1 (ints [l.getD x.toNat 0])) := by
  have hxn : x.toNat < l.length := by omega
  have e2 : (x + 1).toNat = x.toNat + 1 := by omega
  have hb : abnd (some (.int k x)) (some (.int k' (x + 1))) l.length = some (x.toNat, x.toNat + 1) := by simp [abnd, e2, show 0 ≤ x + 1 by omega, h0, show x ≤ x + 1 by omega, show x + 1 ≤ (l.length : Int) by omega]
  simp [asliceV, hb]
  have : (l.take (x.toNat + 1)).drop x.toNat = [l.getD x.toNat 0] := by
    rw [List.drop_take, show x.toNat + 1 - x.toNat = 1 by omega, List.drop_eq_getElem_cons hxn, List.take_succ_cons, List.take_zero, List.getD_eq_getElem?_getD, List.getElem?_eq_getElem hxn, Option.getD_some]
  rw [show List.drop x.toNat (List.take (x.toNat + 1) (ints l)) = ints ((l.take (x.toNat + 1)).drop x.toNat) by simp [ints], this]
  simp [ints]
def EffR (c : Lc) (i : Int × Int) (r : AVal) : Prop := ∃ u v, r = .tup [u, v] ∧ RoL u (effL c i).1 ∧ RoL v (effL c i).2
theorem effect_ac {c : Lc} {v : AVal} {hs td : List Bool} {g : Nat} {η : AHeap} {n : Nat} (i : Int × Int) (hg : η g = some (.cells 408 [lookC c v hs td])) (hA : 0 ≤ i.2 ∨ i.1 = 1) (hA2 : i.2 < 9223372036854775807 ∨ i.1 = 1) (hnm : namesL c i = true) (hk : c.k < 100) (hm : c.m.length < 100) :
    AC Try.prog 142 [.ptr g 0 0, .agg [.int .i64 i.1, .int .i64 i.2]] η n (fun r η' n' => EffR c i r ∧ η' = η ∧ n' = n) := by
  obtain ⟨op, a⟩ := i
  refine AC.reset ?_ fun r ⟨u, v, e, h1, h2⟩ => by subst e; exact .tup _ (by simp; exact ⟨h1.nr, h2.nr⟩)
  refine AC.fresh fun hf => ?_; refine AC.enter Try.func142 rfl Try.ntmps142 (by simp) ?_
  have hgn : g ≠ n := fun e => by subst e; rw [hf g (Nat.le_refl _)] at hg; cases hg
  have hg1 : ∀ o, (upd η n o) g = some (.cells 408 [lookC c v hs td]) := fun o => by rw [upd_ne hgn]; exact hg
  have fin : ∀ {fr : Nat → AVal} {nt : Nat} {o : Option AObj} {u v : AVal} {l1 l2 : List Int} {g}, effL c (op, a) = (l1, l2) → RoL u l1 → RoL v l2 → resK (some (.tup [u, v])) ⟨fr, nt, upd η n o, n + 1⟩ (fun r η' _ => EffR c (op, a) r ∧ η' = η) g :=
    fun he h1 h2 => resK.of (η' := η) (le_upd (AHeap.le_rfl _) (hf n (Nat.le_refl _))) _ (Nat.le_refl _) ⟨⟨_, _, rfl, by rw [he]; exact h1, by rw [he]; exact h2⟩, rfl⟩
  simp only at hA hA2
  have hreg : op = 4 ∨ op = 5 → a < c.own.regs.length := fun h => by simpa [namesL, h] using hnm
  have hspn : op = 19 → a < c.m.length := fun h => by simpa [namesL, h] using hnm
  have hrcv : op = 21 → a < c.own.tabs.length := fun h => by simpa [namesL, h] using hnm
  have ek : IntKind.i64.wrap (16 + (c.k : Int)) = 16 + (c.k : Int) := wrap_id (by omega) (by omega)
  simp [aload, afield, apart, upd_eq]
  refine CondP.dec (fun h1 => ?_) (fun h1 => ?_)
  · simp [h1]
    refine ACK.rt (repeat1_ac 1) ?_
    simp
    exact fin (l1 := []) (l2 := [1]) (by simp [effL, h1]) (Or.inr ⟨rfl, rfl⟩) (Or.inl rfl)
  simp [h1]
  replace hA : 0 ≤ a := by omega
  replace hA2 : a < 9223372036854775807 := by omega
  have ew : IntKind.i64.wrap (a + 1) = a + 1 := wrap_id (by omega) (by omega)
  refine CondP.dec (fun h2 => ?_) (fun h2 => ?_)
  · simp [h2]
    refine ACK.rt (repeat1_ac 2) ?_
    simp
    exact fin (l1 := []) (l2 := [2]) (by simp [effL, h2]) (Or.inr ⟨rfl, rfl⟩) (Or.inl rfl)
  simp [h2]
  refine CondP.dec (fun h3 => ?_) (fun h3 => ?_)
  · simp [h3]
    refine ACK.rt (repeat1_ac 2) ?_
    simp
    exact fin (l1 := []) (l2 := [2]) (by simp [effL, h3]) (Or.inr ⟨rfl, rfl⟩) (Or.inl rfl)
  simp [h3]
  refine CondP.dec (fun h4 => ?_) (fun h4 => ?_)
  · simp [h4]
    have e1 := fun y => rs_cut1 (k := .i64) (k' := .i64) (η := y) hA (hreg (Or.inl h4))
    refine drawK.intro mixed [(0, []), (1, []), (2, []), (3, []), (4, []), (5, []), (6, []), (7, []), (8, []), (9, []), (10, []), (11, [])] (by kernel_rfl) ?_
    simp [aload, afield, apart, upd_eq, hg1, ew, e1]
    exact fin (l1 := []) (l2 := [c.own.regs.getD a.toNat 0]) (by simp [effL, h4]) (Or.inr ⟨rfl, rfl⟩) (Or.inl rfl)
  simp [h4]
  refine CondP.dec (fun h5 => ?_) (fun h5 => ?_)
  · simp [h5]
    have e1 := fun y => rs_cut1 (k := .i64) (k' := .i64) (η := y) hA (hreg (Or.inr h5))
    refine drawK.intro mixed [(0, []), (1, []), (2, []), (3, []), (4, []), (5, []), (6, []), (7, []), (8, []), (9, []), (10, []), (11, [])] (by kernel_rfl) ?_
    simp [aload, afield, apart, upd_eq, hg1, ew, e1]
    exact fin (l1 := [c.own.regs.getD a.toNat 0]) (l2 := []) (by simp [effL, h5]) (Or.inl rfl) (Or.inr ⟨rfl, rfl⟩)
  simp [h5]
  by_cases h6 : 6 ≤ op ∧ op ≤ 10
  · simp [h6.1, h6.2]
    refine ACK.rt (repeat2_ac 1) ?_
    simp
    refine ACK.rt (repeat1_ac 1) ?_
    simp
    exact fin (l1 := [1, 1]) (l2 := [1]) (by simp [effL, h1, h2, h3, h4, h5, h6]) (Or.inl rfl) (Or.inl rfl)
  have h6' : ¬ (6 ≤ op ∧ op ≤ 10) := h6
  refine CondP.dec (fun h7 => ?_) (fun h7 => ?_)
  rotate_left
  · have q : ∀ x : Int, 6 ≤ x → ¬ op = x := fun x hx => by omega
    have w1 := q 11 (by omega); have w2 := q 12 (by omega); have w3 := q 13 (by omega); have w4 := q 14 (by omega); have w5 := q 15 (by omega); have w6 := q 17 (by omega); have w7 := q 18 (by omega); have w8 := q 19 (by omega); have w9 := q 23 (by omega); have wa := q 24 (by omega); have wb := q 21 (by omega)
    simp [h7, w1, w2, w3, w4, w5, w6, w7, w8, w9, wa]
    refine drawK.intro mixed [(0, []), (1, []), (2, []), (3, []), (4, []), (5, []), (6, []), (7, []), (8, []), (9, []), (10, []), (11, []), (12, []), (13, []), (14, []), (15, [])] (by kernel_rfl) ?_
    simp [wb]
    exact fin (l1 := []) (l2 := []) (by simp [effL, h1, h2, h3, h4, h5, h6, w1, w2, w3, w4, w5, w6, w7, w8, w9, wa, wb]) (Or.inr ⟨rfl, rfl⟩) (Or.inr ⟨rfl, rfl⟩)
  have h8 : ¬ op ≤ 10 := by omega
  simp [h7, h8]
  refine CondP.dec (fun h11 => ?_) (fun h11 => ?_)
  · simp [h11]
    refine ACK.rt (repeat2_ac 1) ?_
    simp
    refine ACK.rt (repeat1_ac 2) ?_
    simp
    exact fin (l1 := [1, 1]) (l2 := [2]) (by simp [effL, h11]) (Or.inl rfl) (Or.inl rfl)
  simp [h11]
  refine CondP.dec (fun h12 => ?_) (fun h12 => ?_)
  · simp [h12]
    refine ACK.rt (repeat2_ac 1) ?_
    simp
    refine ACK.rt (repeat1_ac 2) ?_
    simp
    exact fin (l1 := [1, 1]) (l2 := [2]) (by simp [effL, h12]) (Or.inl rfl) (Or.inl rfl)
  simp [h12]
  refine CondP.dec (fun h13 => ?_) (fun h13 => ?_)
  · simp [h13]
    refine ACK.rt (repeat1_ac 2) ?_
    simp
    refine ACK.rt (repeat1_ac 2) ?_
    simp
    exact fin (l1 := [2]) (l2 := [2]) (by simp [effL, h13]) (Or.inl rfl) (Or.inl rfl)
  simp [h13]
  refine CondP.dec (fun h14 => ?_) (fun h14 => ?_)
  · simp [h14]
    refine ACK.rt (repeat2_ac 2) ?_
    simp
    refine ACK.rt (repeat1_ac 2) ?_
    simp
    exact fin (l1 := [2, 2]) (l2 := [2]) (by simp [effL, h14]) (Or.inl rfl) (Or.inl rfl)
  simp [h14]
  refine CondP.dec (fun h15 => ?_) (fun h15 => ?_)
  · simp [h15]
    refine ACK.rt (repeat2_ac 2) ?_
    simp
    refine ACK.rt (repeat1_ac 2) ?_
    simp
    exact fin (l1 := [2, 2]) (l2 := [2]) (by simp [effL, h15]) (Or.inl rfl) (Or.inl rfl)
  simp [h15]
  refine CondP.dec (fun h17 => ?_) (fun h17 => ?_)
  · simp [h17]
    refine ACK.rt (repeat1_ac 2) ?_
    simp
    exact fin (l1 := [2]) (l2 := []) (by simp [effL, h17]) (Or.inl rfl) (Or.inr ⟨rfl, rfl⟩)
  simp [h17]
  refine CondP.dec (fun h18 => ?_) (fun h18 => ?_)
  · simp [h18]
    simp [aload, afield, apart, hg1, ek]
    refine ACK.rt (repeat1_ac _) ?_
    simp
    exact fin (l1 := []) (l2 := [16 + (c.k : Int)]) (by simp [effL, h18]) (Or.inr ⟨rfl, rfl⟩) (Or.inl rfl)
  simp [h18]
  refine CondP.dec (fun h19 => ?_) (fun h19 => ?_)
  · simp [h19]
    have hsp := hspn h19
    obtain ⟨j, rfl⟩ : ∃ j : Nat, a = (j : Int) := ⟨a.toNat, by omega⟩
    have hj : j < c.m.length := by omega
    have ej : IntKind.i64.wrap (16 + (j : Int)) = 16 + j := wrap_id (by omega) (by omega)
    refine drawK.intro mixed [(0, []), (1, []), (2, []), (3, []), (4, []), (5, []), (6, []), (7, []), (8, []), (9, []), (10, []), (11, []), (12, []), (13, [4, 6, 7, 9]), (14, []), (15, [])] (by kernel_rfl) ?_
    simp [aload, afield, apart, upd_eq, hg1, aindex, actsC, actC, hj, lk_some, chkK, ej]
    refine ACK.rt (repeat1_ac _) ?_
    simp [upd_eq, hg1, actsC, actC, hj]
    have ea : actr c.m (j : Int) = c.m[j] := by simp [actr, List.getD_eq_getElem?_getD, hj]
    rw [← ea]
    exact fin (l1 := (actr c.m (j : Int)).params) (l2 := [16 + (j : Int)]) (by simp [effL, h19]) (Or.inl rfl) (Or.inl rfl)
  simp [h19]
  refine CondP.dec (fun h23 => ?_) (fun h23 => ?_)
  · simp [h23]
    refine ACK.rt (repeat1_ac 1) ?_
    simp
    exact fin (l1 := [1]) (l2 := []) (by simp [effL, h23]) (Or.inl rfl) (Or.inr ⟨rfl, rfl⟩)
  simp [h23]
  refine CondP.dec (fun h24 => ?_) (fun h24 => ?_)
  · simp [h24]
    refine ACK.rt (repeat1_ac 1) ?_
    simp
    exact fin (l1 := [1]) (l2 := []) (by simp [effL, h24]) (Or.inl rfl) (Or.inr ⟨rfl, rfl⟩)
  simp [h24]
  by_cases h21 : op = 21
  · have hrc := hrcv h21
    obtain ⟨j, rfl⟩ : ∃ j : Nat, a = (j : Int) := ⟨a.toNat, by omega⟩
    have hj : j < c.own.tabs.length := by omega
    have et : tbl c.own (j : Int) = c.own.tabs[j] := by simp [tbl, List.getD_eq_getElem?_getD, hj]
    simp only [h21] at fin
    simp [h21]
    refine drawK.intro mixed [(0, []), (1, []), (2, []), (3, []), (4, []), (5, []), (6, []), (7, []), (8, []), (9, []), (10, []), (11, []), (12, []), (13, []), (14, []), (15, [])] (by kernel_rfl) ?_
    by_cases h0 : 0 ≤ c.own.tabs[j].tmo
    · simp [aload, afield, apart, upd_eq, hg1, aindex, tblsC, tblC, hj, h0]
      refine ACK.rt (repeat1_ac _) ?_
      simp
      exact fin (l1 := [1]) (l2 := []) (by simp [effL, et, h0]) (Or.inl rfl) (Or.inr ⟨rfl, rfl⟩)
    · simp [aload, afield, apart, upd_eq, hg1, aindex, tblsC, tblC, hj, h0]
      exact fin (l1 := []) (l2 := []) (by simp [effL, et, h0]) (Or.inr ⟨rfl, rfl⟩) (Or.inr ⟨rfl, rfl⟩)
  · refine drawK.intro mixed [(0, []), (1, []), (2, []), (3, []), (4, []), (5, []), (6, []), (7, []), (8, []), (9, []), (10, []), (11, []), (12, []), (13, []), (14, []), (15, [])] (by kernel_rfl) ?_
    simp [h21]
    exact fin (l1 := []) (l2 := []) (by simp [effL, h1, h2, h3, h4, h5, h6, h11, h12, h13, h14, h15, h17, h18, h19, h23, h24, h21]) (Or.inr ⟨rfl, rfl⟩) (Or.inr ⟨rfl, rfl⟩)

def TyOK (n : Nat) (s : List Int) : Prop := ∀ x ∈ s, rightT x n = true
theorem rightT_i64 {x : Int} {n : Nat} (h : rightT x n = true) : I64 x := by
  simp only [rightT, decide_eq_true_eq] at h; unfold I64; omega
theorem actT_of {x : Int} {n : Nat} (h : rightT x n = true) (h2 : (actT x).2 = true) : ∃ j : Nat, (actT x).1 = j ∧ j < n := by
  unfold actT at *
  split at h2
  · rename_i hh
    rw [if_pos hh]
    simp only [rightT, decide_eq_true_eq] at h
    exact ⟨(x - 16).toNat, by simp only; omega, by omega⟩
  · simp at h2
/-- a list and an error, whatever was made -/
theorem AC.listE {P : Program} {f : FuncId} {args : List AVal} {η : AHeap} {n : Nat} {l : List Int} {e : Int} (hl : l.length ≤ lenMax) (h : AC P f args η n fun r η' _ => (∃ v, r = .tup [v, .int .i64 e] ∧ IsL η' v l) ∧ ∀ x, x < n → η' x = η x) : AC P f args η n (PE η n l e) := by
  refine (AC.ground (R := fun r => ∃ u, r = .tup [u, .int .i64 e] ∧ IsL η u l) 2 (h.mono ?_) ?_).mono fun r η' n' h => h
  · rintro r η' n' ⟨⟨v, rfl, h1⟩, h2⟩
    exact ⟨h2, _, Ent.refl _, gnd n η' 1 v, by simp [gnd_tup], h1.gnd h2 hl 0⟩
  · rintro r ⟨u, rfl, h⟩
    exact .tup _ (by simp; exact ⟨h.nq, .int _ _⟩)
theorem ACK.pe {P : Program} {f : FuncId} {args : List AVal} {η : AHeap} {n : Nat} {l : List Int} {e : Int} {K : AVal → AHeap → Nat → Prop} {g : Tag K} (h : AC P f args η n (PE η n l e)) (hk : ∀ v, IsL η v l → K (.tup [v, .int .i64 e]) η n) : ACK P f args η n K g :=
  ACK.use h fun r η' n' ⟨⟨v, e1, h1⟩, e2, e3⟩ => by subst e1 e2 e3; exact hk v h1
theorem ACK.pl {P : Program} {f : FuncId} {args : List AVal} {η : AHeap} {n : Nat} {l : List Int} {K : AVal → AHeap → Nat → Prop} {g : Tag K} (h : AC P f args η n (PL η n l)) (hk : ∀ v, IsL η v l → K v η n) : ACK P f args η n K g :=
  ACK.use h fun r η' n' ⟨h1, e2, e3⟩ => by subst e2 e3; exact hk r h1
theorem sendL_len (c : Lc) (a : Int) (s : List Int) : (sendL c a s).1.length ≤ s.length := by
  unfold sendL; repeat' split
  all_goals simp
theorem send_ac {c : Lc} {v : AVal} {hs td : List Bool} {g : Nat} {η : AHeap} {n : Nat} {sv : AVal} {s : List Int} (i : Int × Int) (hg : η g = some (.cells 408 [lookC c v hs td])) (hA : 0 ≤ i.2) (h : IsL η sv s) (hT : TyOK c.m.length s) (hl : s.length ≤ 1000) :
    AC Try.prog 139 [.ptr g 0 0, .agg [.int .i64 i.1, .int .i64 i.2], sv] η n (PE η n (sendL c i.2 s).1 (sendL c i.2 s).2) := by
  obtain ⟨op, a⟩ := i
  simp only at hA
  have z1 : ∀ η', alenT Try.prog 52 sv η' = some (s.length : Int) := h.len (by simp)
  refine AC.listE (Nat.le_trans (sendL_len ..) (by simp only [lenMax]; omega)) ?_
  have e2 : IntKind.i64.wrap ((s.length : Int) - 2) = (s.length : Int) - 2 := wrap_id (by omega) (by omega)
  refine AC.fresh fun hf => ?_; refine AC.enter Try.func139 rfl Try.ntmps139 (by simp) ?_
  have hgn : g ≠ n := fun e => by subst e; rw [hf g (Nat.le_refl _)] at hg; cases hg
  have hg1 : ∀ o, (upd η n o) g = some (.cells 408 [lookC c v hs td]) := fun o => by rw [upd_ne hgn]; exact hg
  have hs' : ∀ o, IsL (upd η n o) sv s := fun o => h.keep hf fun r hr => upd_ne (by omega)
  have le1 : ∀ o, η.le (upd η n o) := fun o => le_upd (AHeap.le_rfl _) (hf n (Nat.le_refl _))
  have fin : ∀ {u : AVal} {l : List Int} {e : Int}, sendL c a s = (l, e) → IsL η u l → (∃ v, AVal.tup [u, .int .i64 e] = .tup [v, .int .i64 (sendL c a s).2] ∧ IsL η v (sendL c a s).1) ∧ ∀ x, x < n → η x = η x := fun he hu => ⟨⟨_, by rw [he], by rw [he]; exact hu⟩, fun _ _ => rfl⟩
  simp [z1]
  refine CondP.dec (fun h1 => ?_) (fun h1 => ?_)
  · have h1' : s.length < 2 := by omega
    simp [h1]
    exact resK.of (η' := η) (le1 _) _ (Nat.le_refl _) (fin (by simp [sendL, h1']) (IsL.nil' rfl))
  have h1' : ¬ s.length < 2 := by omega
  have hk : s.length - 2 < s.length := by omega
  have ek : (s.length : Int) - 2 = ((s.length - 2 : Nat) : Int) := by omega
  obtain ⟨p1, a1, a2⟩ := (hs' (some (.cells 2 [[.int .i64 op, .int .i64 a]]))).idx (P := Try.prog) (t := 52) (e := 76) (by simp) (by simp) (by simp) hk
  have hr := hT s[s.length - 2] (List.getElem_mem ..)
  have eg : s.getD (s.length - 2) 0 = s[s.length - 2] := by simp [List.getD_eq_getElem?_getD, hk]
  have e3 : IntKind.i64.wrap ((s.length - 2 : Nat) : Int) = ((s.length - 2 : Nat) : Int) := wrap_id (by omega) (by omega)
  simp [z1, h1, e3, ek, a1, a2]
  refine ACK.rt (kactor_ac _ _ _ (rightT_i64 hr)) ?_
  cases h2 : (actT s[s.length - 2]).2
  · simp
    exact resK.of (η' := η) (le1 _) _ (Nat.le_refl _) (fin (by simp only [sendL]; rw [if_neg h1', eg, if_pos h2]) (IsL.nil' rfl))
  obtain ⟨j, ej, hj⟩ := actT_of hr h2
  have ea : actr c.m (j : Int) = c.m[j] := by simp [actr, List.getD_eq_getElem?_getD, hj]
  simp [aload, afield, apart, upd_eq, hg1, ej, aindex, actsC, actC, hj]
  refine CondP.dec (fun h3 => ?_) (fun h3 => ?_)
  · obtain ⟨b, rfl⟩ : ∃ b : Nat, a = (b : Int) := ⟨a.toNat, by omega⟩
    have hb : b < c.m[j].msgs.length := by omega
    have le2 : ∀ o o', η.le (upd (upd η n o) (n + 1) o') := fun o o' => le_upd (le1 o) (hf _ (by omega))
    have hs2 : ∀ o o', IsL (upd (upd η n o) (n + 1) o') sv s := fun o o' => h.keep hf fun r hr => by rw [upd_ne (by omega), upd_ne (by omega)]
    obtain ⟨u, f1, f2⟩ := (hs2 (some (.cells 2 [[.int .i64 op, .int .i64 b]])) (some (.cells 1 [[.int .i64 c.m[j].msgs[b]]]))).cutHi (P := Try.prog) (t := 52) (e := 76) (by simp) (by simp) (k := .i64) (x := ((s.length - 2 : Nat) : Int)) (by omega) (by omega)
    simp [h3, aload, afield, apart, upd_eq, aindex, hb, abuildS, afillP, tek, chunk]
    have et : c.m[j].msgs.getD (b : Int).toNat 0 = c.m[j].msgs[b] := by simp [List.getD_eq_getElem?_getD, hb]
    have es : sendL c b s = (s.take (s.length - 2), if s.drop (s.length - 1) = [c.m[j].msgs[b]] then 0 else 10) := by simp only [sendL]; rw [if_neg h1', eg, if_neg (by simp [h2]), ej, ea, if_pos h3, et]
    refine ACK.pe (lpop_ac (w := [c.m[j].msgs[b]]) (hs2 _ _) (IsL.own1 rfl (upd_eq ..)) (by omega) (by simp)) fun w hw => ?_
    simp [z1, e3, ek, f1]
    refine resK.same ⟨⟨u, ?_, ?_⟩, fun x hx => by rw [upd_ne (by omega), upd_ne (by omega)]⟩ (Nat.le_refl _)
    · rw [es]
      have : ¬ s.length < 1 := by omega
      simp only [popL, List.length_cons, List.length_nil, Nat.zero_add, if_neg this]
      split <;> rfl
    · rw [es]; simpa using f2
  · simp [h3]
    exact resK.of (η' := η) (le1 _) _ (Nat.le_refl _) (fin (by simp only [sendL]; rw [if_neg h1', eg, if_neg (by simp [h2]), ej, ea, if_neg h3]) (IsL.nil' rfl))
def BE (η : AHeap) (n : Nat) (l : List Int) (e : Int) : AVal → AHeap → Nat → Prop := fun r η' n' => (∃ v, r = .tup [v, .int .i64 e] ∧ (e = 0 → IsL η v l)) ∧ η' = η ∧ n' = n
theorem popL_len (s w : List Int) : (popL s w).1.length ≤ s.length := by
  unfold popL; repeat' split
  all_goals simp
theorem ite_le1 {p : Prop} [Decidable p] {a b : Nat} (ha : a ≤ 1) (hb : b ≤ 1) : (if p then a else b) ≤ 1 := by split <;> assumption
theorem effL_len (c : Lc) (i : Int × Int) : (effL c i).2.length ≤ 1 := by
  simp only [effL, apply_ite Prod.snd, apply_ite List.length, List.length_cons, List.length_nil, Nat.zero_add]
  repeat' (refine ite_le1 (by decide) ?_)
  decide
theorem behL_len (c : Lc) (i : Int × Int) (s : List Int) : (behL c i s).1.length ≤ s.length + 1 := by
  have h1 := popL_len s (effL c i).1
  have h2 := effL_len c i
  have h3 := sendL_len c i.2 s
  unfold behL high
  by_cases a1 : namesL c i = false
  · simp [a1]
  by_cases a2 : i.1 = 20
  · simp [a1, a2]; omega
  by_cases a3 : i.1 = 22 ∨ i.1 = 25 ∨ i.1 = 26
  · simp only [if_neg a1, if_neg a2, if_pos a3]
    by_cases a4 : s = []
    · simp [a4]
    by_cases a5 : i.1 = 22 ∧ (actT (s.getLastD 0)).2 = false
    · simp only [if_neg a4, if_pos a5]; simp
    · simp only [if_neg a4, if_neg a5]; split <;> simp; omega
  · simp only [if_neg a1, if_neg a2, if_neg a3]; simp; omega
theorem behind22_ac {c : Lc} {v : AVal} {hs td : List Bool} {g : Nat} {η : AHeap} {n : Nat} {sv : AVal} {s : List Int} (a : Int) (hg : η g = some (.cells 408 [lookC c v hs td])) (h : IsL η sv s) (hT : TyOK c.m.length s) (hl : s.length ≤ 1000) :
    AC Try.prog 120 [.ptr g 0 0, .agg [.int .i64 22, .int .i64 a], sv] η n (PE η n (behL c (22, a) s).1 (behL c (22, a) s).2) := by
  have z1 : ∀ η', alenT Try.prog 52 sv η' = some (s.length : Int) := h.len (by simp)
  have hN : namesL c (22, a) = true := by simp [namesL]
  refine AC.listE (Nat.le_trans (behL_len ..) (by simp only [lenMax]; omega)) ?_
  refine AC.fresh fun hf => ?_; refine AC.enter Try.func120 rfl Try.ntmps120 (by simp) ?_
  have hgn : g ≠ n := fun e => by subst e; rw [hf g (Nat.le_refl _)] at hg; cases hg
  have hg1 : ∀ o, (upd η n o) g = some (.cells 408 [lookC c v hs td]) := fun o => by rw [upd_ne hgn]; exact hg
  have hs' : ∀ o, IsL (upd η n o) sv s := fun o => h.keep hf fun r hr => upd_ne (by omega)
  have ol : ∀ o x, x < n → upd η n o x = η x := fun o x hx => upd_ne (by omega)
  have fin : ∀ {u : AVal} {l : List Int} {e : Int} {η' : AHeap}, behL c (22, a) s = (l, e) → IsL η' u l → (∀ x, x < n → η' x = η x) → (∃ v, AVal.tup [u, .int .i64 e] = .tup [v, .int .i64 (behL c (22, a) s).2] ∧ IsL η' v (behL c (22, a) s).1) ∧ ∀ x, x < n → η' x = η x := fun he hu hx => ⟨⟨_, by rw [he], by rw [he]; exact hu⟩, hx⟩
  simp [aload, apart, upd_eq]
  refine ACK.rt (lnames_ac (22, a) (hg1 _)) ?_
  simp [hN, aload, afield, apart, upd_eq]
  simp [z1]
  refine CondP.dec (fun h1 => ?_) (fun h1 => ?_)
  · have h1' : s = [] := by simpa using h1
    simp [h1]
    exact resK.same (fin (by simp [behL, hN, h1']) (IsL.nil' rfl) (ol _)) (Nat.le_refl _)
  have h1' : ¬ s = [] := by simpa using h1
  have hk : s.length - 1 < s.length := by have := List.length_pos_iff.2 h1'; omega
  have ek : (s.length : Int) - 1 = ((s.length - 1 : Nat) : Int) := by omega
  have e3 : IntKind.i64.wrap ((s.length - 1 : Nat) : Int) = ((s.length - 1 : Nat) : Int) := wrap_id (by omega) (by omega)
  obtain ⟨p1, a1, a2⟩ := (hs' (some (.cells 2 [[.int .i64 22, .int .i64 a]]))).idx (P := Try.prog) (t := 52) (e := 76) (by simp) (by simp) (by simp) hk
  obtain ⟨u, f1, f2⟩ := (hs' (some (.cells 2 [[.int .i64 22, .int .i64 a]]))).cutHi (P := Try.prog) (t := 52) (e := 76) (by simp) (by simp) (k := .i64) (x := ((s.length - 1 : Nat) : Int)) (by omega) (by omega)
  have zu := f2.len (P := Try.prog) (t := 52) (by simp)
  have hr := hT s[s.length - 1] (List.getElem_mem ..)
  have eg : s.getLastD 0 = s[s.length - 1] := by rw [List.getLastD_eq_getLast?, List.getLast?_eq_getElem?, List.getElem?_eq_getElem hk, Option.getD_some]
  have ed : s.dropLast = s.take (s.length - 1) := List.dropLast_eq_take
  simp [h1, z1, e3, ek, a1, a2]
  refine ACK.rt (kactor_ac _ _ _ (rightT_i64 hr)) ?_
  cases h2 : (actT s[s.length - 1]).2
  · simp [aload, afield, apart, upd_eq]
    exact resK.same (fin (by simp only [behL]; rw [if_neg (by simp [hN]), if_neg (by omega), if_pos (by simp), if_neg h1', eg, if_pos ⟨trivial, h2⟩]) (IsL.nil' rfl) (ol _)) (Nat.le_refl _)
  · have eb : behL c (22, a) s = high (s.take (s.length - 1)) 0 := by simp only [behL]; rw [if_neg (by simp [hN]), if_neg (by omega), if_pos (by simp), if_neg h1', eg, if_neg (by simp [h2]), if_neg (by omega), ed]
    simp [aload, afield, apart, upd_eq, z1, e3, ek, f1, zu]
    refine CondP.dec (fun h4 => ?_) (fun h4 => ?_)
    · simp [h4]
      exact resK.same (fin (l := s.take (s.length - 1)) (by rw [eb, high, if_pos ⟨rfl, by simp; omega⟩]) (by simpa using f2) (ol _)) (Nat.le_refl _)
    · simp [h4]
      exact resK.same (fin (l := s.take (s.length - 1)) (by rw [eb, high, if_neg (by simp; omega)]) (by simpa using f2) (ol _)) (Nat.le_refl _)

theorem behind25_ac {c : Lc} {v : AVal} {hs td : List Bool} {g : Nat} {η : AHeap} {n : Nat} {sv : AVal} {s : List Int} (a : Int) (hg : η g = some (.cells 408 [lookC c v hs td])) (h : IsL η sv s) (hT : TyOK c.m.length s) (hl : s.length ≤ 1000) :
    AC Try.prog 120 [.ptr g 0 0, .agg [.int .i64 25, .int .i64 a], sv] η n (PE η n (behL c (25, a) s).1 (behL c (25, a) s).2) := by
  have z1 : ∀ η', alenT Try.prog 52 sv η' = some (s.length : Int) := h.len (by simp)
  have hN : namesL c (25, a) = true := by simp [namesL]
  refine AC.listE (Nat.le_trans (behL_len ..) (by simp only [lenMax]; omega)) ?_
  refine AC.fresh fun hf => ?_; refine AC.enter Try.func120 rfl Try.ntmps120 (by simp) ?_
  have hgn : g ≠ n := fun e => by subst e; rw [hf g (Nat.le_refl _)] at hg; cases hg
  have hg1 : ∀ o, (upd η n o) g = some (.cells 408 [lookC c v hs td]) := fun o => by rw [upd_ne hgn]; exact hg
  have hs' : ∀ o, IsL (upd η n o) sv s := fun o => h.keep hf fun r hr => upd_ne (by omega)
  have ol : ∀ o x, x < n → upd η n o x = η x := fun o x hx => upd_ne (by omega)
  have fin : ∀ {u : AVal} {l : List Int} {e : Int} {η' : AHeap}, behL c (25, a) s = (l, e) → IsL η' u l → (∀ x, x < n → η' x = η x) → (∃ v, AVal.tup [u, .int .i64 e] = .tup [v, .int .i64 (behL c (25, a) s).2] ∧ IsL η' v (behL c (25, a) s).1) ∧ ∀ x, x < n → η' x = η x := fun he hu hx => ⟨⟨_, by rw [he], by rw [he]; exact hu⟩, hx⟩
  simp [aload, apart, upd_eq]
  refine ACK.rt (lnames_ac (25, a) (hg1 _)) ?_
  simp [hN, aload, afield, apart, upd_eq]
  simp [z1]
  refine CondP.dec (fun h1 => ?_) (fun h1 => ?_)
  · have h1' : s = [] := by simpa using h1
    simp [h1]
    exact resK.same (fin (by simp [behL, hN, h1']) (IsL.nil' rfl) (ol _)) (Nat.le_refl _)
  have h1' : ¬ s = [] := by simpa using h1
  have hk : s.length - 1 < s.length := by have := List.length_pos_iff.2 h1'; omega
  have ek : (s.length : Int) - 1 = ((s.length - 1 : Nat) : Int) := by omega
  have e3 : IntKind.i64.wrap ((s.length - 1 : Nat) : Int) = ((s.length - 1 : Nat) : Int) := wrap_id (by omega) (by omega)
  obtain ⟨p1, a1, a2⟩ := (hs' (some (.cells 2 [[.int .i64 25, .int .i64 a]]))).idx (P := Try.prog) (t := 52) (e := 76) (by simp) (by simp) (by simp) hk
  obtain ⟨u, f1, f2⟩ := (hs' (some (.cells 2 [[.int .i64 25, .int .i64 a]]))).cutHi (P := Try.prog) (t := 52) (e := 76) (by simp) (by simp) (k := .i64) (x := ((s.length - 1 : Nat) : Int)) (by omega) (by omega)
  have zu := f2.len (P := Try.prog) (t := 52) (by simp)
  have hr := hT s[s.length - 1] (List.getElem_mem ..)
  have eg : s.getLastD 0 = s[s.length - 1] := by rw [List.getLastD_eq_getLast?, List.getLast?_eq_getElem?, List.getElem?_eq_getElem hk, Option.getD_some]
  have ed : s.dropLast = s.take (s.length - 1) := List.dropLast_eq_take
  simp [h1, z1, e3, ek, a1, a2]
  refine ACK.rt (kactor_ac _ _ _ (rightT_i64 hr)) ?_
  have eb : behL c (25, a) s = high (s.take (s.length - 1)) 0 := by simp only [behL]; rw [if_neg (by simp [hN]), if_neg (by omega), if_pos (by simp), if_neg h1', eg, if_neg (by omega), if_neg (by omega), ed]
  simp [aload, afield, apart, upd_eq, z1, e3, ek, f1, zu]
  refine CondP.dec (fun h4 => ?_) (fun h4 => ?_)
  · simp [h4]
    exact resK.same (fin (l := s.take (s.length - 1)) (by rw [eb, high, if_pos ⟨rfl, by simp; omega⟩]) (by simpa using f2) (ol _)) (Nat.le_refl _)
  · simp [h4]
    exact resK.same (fin (l := s.take (s.length - 1)) (by rw [eb, high, if_neg (by simp; omega)]) (by simpa using f2) (ol _)) (Nat.le_refl _)
theorem tk_all {α : Type} (f : Int → α) (s : List Int) : List.take s.length (s.map f) = s.map f := by rw [List.take_of_length_le (by simp)]
theorem behind26_ac {c : Lc} {v : AVal} {hs td : List Bool} {g : Nat} {η : AHeap} {n : Nat} {sv : AVal} {s : List Int} (a : Int) (hg : η g = some (.cells 408 [lookC c v hs td])) (h : IsL η sv s) (hT : TyOK c.m.length s) (hl : s.length ≤ 1000) :
    AC Try.prog 120 [.ptr g 0 0, .agg [.int .i64 26, .int .i64 a], sv] η n (PE η n (behL c (26, a) s).1 (behL c (26, a) s).2) := by
  have z1 : ∀ η', alenT Try.prog 52 sv η' = some (s.length : Int) := h.len (by simp)
  have hN : namesL c (26, a) = true := by simp [namesL]
  refine AC.listE (Nat.le_trans (behL_len ..) (by simp only [lenMax]; omega)) ?_
  refine AC.fresh fun hf => ?_; refine AC.enter Try.func120 rfl Try.ntmps120 (by simp) ?_
  have hgn : g ≠ n := fun e => by subst e; rw [hf g (Nat.le_refl _)] at hg; cases hg
  have hg1 : ∀ o, (upd η n o) g = some (.cells 408 [lookC c v hs td]) := fun o => by rw [upd_ne hgn]; exact hg
  have hs' : ∀ o, IsL (upd η n o) sv s := fun o => h.keep hf fun r hr => upd_ne (by omega)
  have ol : ∀ o x, x < n → upd η n o x = η x := fun o x hx => upd_ne (by omega)
  have fin : ∀ {u : AVal} {l : List Int} {e : Int} {η' : AHeap}, behL c (26, a) s = (l, e) → IsL η' u l → (∀ x, x < n → η' x = η x) → (∃ v, AVal.tup [u, .int .i64 e] = .tup [v, .int .i64 (behL c (26, a) s).2] ∧ IsL η' v (behL c (26, a) s).1) ∧ ∀ x, x < n → η' x = η x := fun he hu hx => ⟨⟨_, by rw [he], by rw [he]; exact hu⟩, hx⟩
  simp [aload, apart, upd_eq]
  refine ACK.rt (lnames_ac (26, a) (hg1 _)) ?_
  simp [hN, aload, afield, apart, upd_eq]
  simp [z1]
  refine CondP.dec (fun h1 => ?_) (fun h1 => ?_)
  · have h1' : s = [] := by simpa using h1
    simp [h1]
    exact resK.same (fin (by simp [behL, hN, h1']) (IsL.nil' rfl) (ol _)) (Nat.le_refl _)
  have h1' : ¬ s = [] := by simpa using h1
  have hk : s.length - 1 < s.length := by have := List.length_pos_iff.2 h1'; omega
  have ek : (s.length : Int) - 1 = ((s.length - 1 : Nat) : Int) := by omega
  have e3 : IntKind.i64.wrap ((s.length - 1 : Nat) : Int) = ((s.length - 1 : Nat) : Int) := wrap_id (by omega) (by omega)
  obtain ⟨p1, a1, a2⟩ := (hs' (some (.cells 2 [[.int .i64 26, .int .i64 a]]))).idx (P := Try.prog) (t := 52) (e := 76) (by simp) (by simp) (by simp) hk
  obtain ⟨u, f1, f2⟩ := (hs' (some (.cells 2 [[.int .i64 26, .int .i64 a]]))).cutHi (P := Try.prog) (t := 52) (e := 76) (by simp) (by simp) (k := .i64) (x := ((s.length - 1 : Nat) : Int)) (by omega) (by omega)
  have zu := f2.len (P := Try.prog) (t := 52) (by simp)
  have hr := hT s[s.length - 1] (List.getElem_mem ..)
  have eg : s.getLastD 0 = s[s.length - 1] := by rw [List.getLastD_eq_getLast?, List.getLast?_eq_getElem?, List.getElem?_eq_getElem hk, Option.getD_some]
  have ed : s.dropLast = s.take (s.length - 1) := List.dropLast_eq_take
  simp [h1, z1, e3, ek, a1, a2]
  refine ACK.rt (kactor_ac _ _ _ (rightT_i64 hr)) ?_
  have eb : behL c (26, a) s = high (s ++ [s[s.length - 1]]) 0 := by simp only [behL]; rw [if_neg (by simp [hN]), if_neg (by omega), if_pos (by simp), if_neg h1', eg, if_neg (by omega), if_pos (by simp)]
  simp [aload, afield, apart, upd_eq, z1, e3, ek, f1]
  refine ACK.use (cloneT_ac (hs' _) (by omega)).freshP ?_
  intro r η1 n1 ⟨⟨q, e1, hq, hq1, hq2, hk1⟩, hf1⟩
  subst e1
  have b1 : (s.length + 1) * 8 ≤ 140737488355328 := by omega
  have b2 : s.length + 1 ≤ 17592186044416 := by omega
  have hqn : q ≠ n1 := by omega
  have hk2 : ∀ o o' o'' x, x < n → (upd (upd (upd η1 n1 o) q o') (n1 + 1) o'') x = η x := fun o o' o'' x hx => by rw [upd_ne (by omega), upd_ne (by omega), upd_ne (by omega), hk1 x (by omega), upd_ne (by omega)]
  simp [abuildS, afillP, tek, chunk, appK, aappend, arows, upd_eq, upd_ne hqn, hq, ints_length, lenMax, b1, b2]
  refine CondP.dec (fun h4 => ?_) (fun h4 => ?_)
  · simp [h4]
    exact resK.same (fin (l := s ++ [s[s.length - 1]]) (by rw [eb, high, if_pos ⟨rfl, by simp; omega⟩]) (IsL.own1 (by simp) (by rw [upd_eq]; simp [ints, tk_all])) (hk2 _ _ _)) (Nat.le_refl _)
  · simp [h4]
    exact resK.same (fin (l := s ++ [s[s.length - 1]]) (by rw [eb, high, if_neg (by simp; omega)]) (IsL.own1 (by simp) (by rw [upd_eq]; simp [ints, tk_all])) (hk2 _ _ _)) (Nat.le_refl _)
theorem behind20_ac {c : Lc} {v : AVal} {hs td : List Bool} {g : Nat} {η : AHeap} {n : Nat} {sv : AVal} {s : List Int} (a : Int) (hA : 0 ≤ a) (hg : η g = some (.cells 408 [lookC c v hs td])) (h : IsL η sv s) (hT : TyOK c.m.length s) (hl : s.length ≤ 1000) :
    AC Try.prog 120 [.ptr g 0 0, .agg [.int .i64 20, .int .i64 a], sv] η n (PE η n (behL c (20, a) s).1 (behL c (20, a) s).2) := by
  have z1 : ∀ η', alenT Try.prog 52 sv η' = some (s.length : Int) := h.len (by simp)
  have hN : namesL c (20, a) = true := by simp [namesL]
  refine AC.listE (Nat.le_trans (behL_len ..) (by simp only [lenMax]; omega)) ?_
  refine AC.fresh fun hf => ?_; refine AC.enter Try.func120 rfl Try.ntmps120 (by simp) ?_
  have hgn : g ≠ n := fun e => by subst e; rw [hf g (Nat.le_refl _)] at hg; cases hg
  have hg1 : ∀ o, (upd η n o) g = some (.cells 408 [lookC c v hs td]) := fun o => by rw [upd_ne hgn]; exact hg
  have hs' : ∀ o, IsL (upd η n o) sv s := fun o => h.keep hf fun r hr => upd_ne (by omega)
  have ol : ∀ o x, x < n → upd η n o x = η x := fun o x hx => upd_ne (by omega)
  have fin : ∀ {u : AVal} {l : List Int} {e : Int} {η' : AHeap}, behL c (20, a) s = (l, e) → IsL η' u l → (∀ x, x < n → η' x = η x) → (∃ v, AVal.tup [u, .int .i64 e] = .tup [v, .int .i64 (behL c (20, a) s).2] ∧ IsL η' v (behL c (20, a) s).1) ∧ ∀ x, x < n → η' x = η x := fun he hu hx => ⟨⟨_, by rw [he], by rw [he]; exact hu⟩, hx⟩
  simp [aload, apart, upd_eq]
  refine ACK.rt (lnames_ac (20, a) (hg1 _)) ?_
  simp [hN, aload, afield, apart, upd_eq]
  refine ACK.pe (send_ac (20, a) (hg1 _) hA (hs' _) hT hl) fun u hu => ?_
  simp
  exact resK.same (fin (by simp only [behL]; rw [if_neg (by simp [hN])]; simp) hu (ol _)) (Nat.le_refl _)
theorem behindN_ac {c : Lc} {v : AVal} {hs td : List Bool} {g : Nat} {η : AHeap} {n : Nat} {sv : AVal} {s : List Int} (op a : Int) (hN : namesL c (op, a) = false) (hg : η g = some (.cells 408 [lookC c v hs td])) (h : IsL η sv s) (_ : TyOK c.m.length s) (hl : s.length ≤ 1000) :
    AC Try.prog 120 [.ptr g 0 0, .agg [.int .i64 op, .int .i64 a], sv] η n (PE η n (behL c (op, a) s).1 (behL c (op, a) s).2) := by
  have z1 : ∀ η', alenT Try.prog 52 sv η' = some (s.length : Int) := h.len (by simp)
  refine AC.listE (Nat.le_trans (behL_len ..) (by simp only [lenMax]; omega)) ?_
  refine AC.fresh fun hf => ?_; refine AC.enter Try.func120 rfl Try.ntmps120 (by simp) ?_
  have hgn : g ≠ n := fun e => by subst e; rw [hf g (Nat.le_refl _)] at hg; cases hg
  have hg1 : ∀ o, (upd η n o) g = some (.cells 408 [lookC c v hs td]) := fun o => by rw [upd_ne hgn]; exact hg
  have hs' : ∀ o, IsL (upd η n o) sv s := fun o => h.keep hf fun r hr => upd_ne (by omega)
  have ol : ∀ o x, x < n → upd η n o x = η x := fun o x hx => upd_ne (by omega)
  have fin : ∀ {u : AVal} {l : List Int} {e : Int} {η' : AHeap}, behL c (op, a) s = (l, e) → IsL η' u l → (∀ x, x < n → η' x = η x) → (∃ v, AVal.tup [u, .int .i64 e] = .tup [v, .int .i64 (behL c (op, a) s).2] ∧ IsL η' v (behL c (op, a) s).1) ∧ ∀ x, x < n → η' x = η x := fun he hu hx => ⟨⟨_, by rw [he], by rw [he]; exact hu⟩, hx⟩
  simp [aload, apart, upd_eq]
  refine ACK.rt (lnames_ac (op, a) (hg1 _)) ?_
  simp [hN]
  exact resK.same (fin (by simp only [behL]; rw [if_pos hN]) (IsL.nil' rfl) (ol _)) (Nat.le_refl _)
theorem ACK.eff {P : Program} {f : FuncId} {args : List AVal} {η : AHeap} {n : Nat} {c : Lc} {i : Int × Int} {K : AVal → AHeap → Nat → Prop} {g : Tag K} (h : AC P f args η n fun r η' n' => EffR c i r ∧ η' = η ∧ n' = n) (hk : ∀ u v, RoL u (effL c i).1 → RoL v (effL c i).2 → K (.tup [u, v]) η n) : ACK P f args η n K g :=
  ACK.use h fun r η' n' ⟨⟨u, v, e1, h1, h2⟩, e2, e3⟩ => by subst e1 e2 e3; exact hk u v h1 h2
theorem ite_len {p : Prop} [Decidable p] {a b k : Nat} (ha : a ≤ k) (hb : b ≤ k) : (if p then a else b) ≤ k := by split <;> assumption
theorem effL_tk (c : Lc) (i : Int × Int) (hp : ∀ k, (actr c.m k).params.length ≤ 16) : (effL c i).1.length ≤ 16 := by
  simp only [effL, apply_ite Prod.fst, apply_ite List.length, List.length_cons, List.length_nil, Nat.zero_add]
  repeat' (refine ite_len ?_ ?_)
  all_goals first | decide | exact hp _
theorem behindD_ac {c : Lc} {v : AVal} {hs td : List Bool} {g : Nat} {η : AHeap} {n : Nat} {sv : AVal} {s : List Int} (op a : Int) (hA : 0 ≤ a ∨ op = 1) (hA2 : a < 9223372036854775807 ∨ op = 1) (hN : namesL c (op, a) = true) (w20 : ¬ op = 20) (w22 : ¬ op = 22) (w25 : ¬ op = 25) (w26 : ¬ op = 26) (hk : c.k < 100) (hm : c.m.length < 100) (hp : ∀ k, (actr c.m k).params.length ≤ 16) (hg : η g = some (.cells 408 [lookC c v hs td])) (h : IsL η sv s) (_ : TyOK c.m.length s) (hl : s.length ≤ 1000) :
    AC Try.prog 120 [.ptr g 0 0, .agg [.int .i64 op, .int .i64 a], sv] η n (PE η n (behL c (op, a) s).1 (behL c (op, a) s).2) := by
  have z1 : ∀ η', alenT Try.prog 52 sv η' = some (s.length : Int) := h.len (by simp)
  refine AC.listE (Nat.le_trans (behL_len ..) (by simp only [lenMax]; omega)) ?_
  refine AC.fresh fun hf => ?_; refine AC.enter Try.func120 rfl Try.ntmps120 (by simp) ?_
  have hgn : g ≠ n := fun e => by subst e; rw [hf g (Nat.le_refl _)] at hg; cases hg
  have hg1 : ∀ o, (upd η n o) g = some (.cells 408 [lookC c v hs td]) := fun o => by rw [upd_ne hgn]; exact hg
  have hs' : ∀ o, IsL (upd η n o) sv s := fun o => h.keep hf fun r hr => upd_ne (by omega)
  have ol : ∀ o x, x < n → upd η n o x = η x := fun o x hx => upd_ne (by omega)
  have fin : ∀ {u : AVal} {l : List Int} {e : Int} {η' : AHeap}, behL c (op, a) s = (l, e) → IsL η' u l → (∀ x, x < n → η' x = η x) → (∃ v, AVal.tup [u, .int .i64 e] = .tup [v, .int .i64 (behL c (op, a) s).2] ∧ IsL η' v (behL c (op, a) s).1) ∧ ∀ x, x < n → η' x = η x := fun he hu hx => ⟨⟨_, by rw [he], by rw [he]; exact hu⟩, hx⟩
  simp [aload, apart, upd_eq]
  refine ACK.rt (lnames_ac (op, a) (hg1 _)) ?_
  simp [hN, aload, afield, apart, upd_eq]
  simp [w20, w22, w25, w26, aload, apart, upd_eq]
  refine ACK.eff (effect_ac (op, a) (hg1 _) hA hA2 hN hk hm) fun u v hu hv => ?_
  simp
  refine ACK.pe (lpop_ac (hs' _) hu.isL (by omega) (by have := effL_tk c (op, a) hp; omega)) fun w hw => ?_
  have wa := hw.ac
  have va := (hv.isL (η := η)).ac
  have ws := hw.sc
  have vs := (hv.isL (η := η)).sc
  simp [abuildS, afillP, tek, chunk, wa, va, ws, vs]
  have ol2 : ∀ o o' x, x < n → upd (upd η n o) (n + 1) o' x = η x := fun o o' x hx => by rw [upd_ne (by omega), upd_ne (by omega)]
  have hf1 : ∀ o r, n + 1 ≤ r → upd η n o r = none := fun o r hr => by rw [upd_ne (by omega)]; exact hf r (by omega)
  have hw2 : ∀ o', IsL (upd (upd η n (some (.cells 2 [[.int .i64 op, .int .i64 a]]))) (n + 1) o') w (popL s (effL c (op, a)).1).1 := fun o' => hw.keep (hf1 _) fun r hr => upd_ne (by omega)
  have hpl := popL_len s (effL c (op, a)).1
  have hel := effL_len c (op, a)
  have hc := concat_ac (η := upd (upd η n (some (.cells 2 [[.int .i64 op, .int .i64 a]]))) (n + 1) (some (.cells 1 [[w], [v]]))) (n := n + 1 + 1) (q := n + 1) (vs := [w, v]) (ls := [(popL s (effL c (op, a)).1).1, (effL c (op, a)).2]) (upd_eq ..) rfl (fun i h1 h2 => by
    match i, h1, h2 with
    | 0, _, _ => exact hw2 _
    | 1, _, _ => exact hv.isL) (by simp; omega) (by simp)
  have ef : ([(popL s (effL c (op, a)).1).1, (effL c (op, a)).2] : List (List Int)).flatten = (popL s (effL c (op, a)).1).1 ++ (effL c (op, a)).2 := by simp
  rw [ef] at hc
  have eb : behL c (op, a) s = high ((popL s (effL c (op, a)).1).1 ++ (effL c (op, a)).2) (popL s (effL c (op, a)).1).2 := by simp only [behL]; rw [if_neg (by simp [hN]), if_neg w20, if_neg (by simp [w22, w25, w26])]
  refine ACK.rt hc ?_
  generalize (popL s (effL c (op, a)).1).1 ++ (effL c (op, a)).2 = out at *
  generalize (popL s (effL c (op, a)).1).2 = e at *
  by_cases he : e = 0
  · simp [he, ints_length]
    refine CondP.dec (fun h4 => ?_) (fun h4 => ?_)
    · simp [h4]
      exact resK.same (fin (l := out) (by rw [eb, high, if_pos ⟨he, by omega⟩]) (Or.inl rfl) (ol2 _ _)) (Nat.le_refl _)
    · simp [h4]
      exact resK.same (fin (l := out) (by rw [eb, high, if_neg (by omega), he]) (Or.inl rfl) (ol2 _ _)) (Nat.le_refl _)
  · simp [he]
    exact resK.same (fin (l := out) (by rw [eb, high, if_neg (by omega)]) (Or.inl rfl) (ol2 _ _)) (Nat.le_refl _)
theorem lbehind_ac {c : Lc} {v : AVal} {hs td : List Bool} {g : Nat} {η : AHeap} {n : Nat} {sv : AVal} {s : List Int} (i : Int × Int) (hA : 0 ≤ i.2 ∨ i.1 = 1) (hA2 : i.2 < 9223372036854775807 ∨ i.1 = 1) (hk : c.k < 100) (hm : c.m.length < 100) (hp : ∀ k, (actr c.m k).params.length ≤ 16) (hg : η g = some (.cells 408 [lookC c v hs td])) (h : IsL η sv s) (hT : TyOK c.m.length s) (hl : s.length ≤ 1000) :
    AC Try.prog 120 [.ptr g 0 0, .agg [.int .i64 i.1, .int .i64 i.2], sv] η n (PE η n (behL c i s).1 (behL c i s).2) := by
  obtain ⟨op, a⟩ := i
  by_cases hN : namesL c (op, a) = false
  · exact behindN_ac op a hN hg h hT hl
  by_cases w20 : op = 20
  · subst w20; exact behind20_ac a (by simpa using hA) hg h hT hl
  by_cases w22 : op = 22
  · subst w22; exact behind22_ac a hg h hT hl
  by_cases w25 : op = 25
  · subst w25; exact behind25_ac a hg h hT hl
  by_cases w26 : op = 26
  · subst w26; exact behind26_ac a hg h hT hl
  · exact behindD_ac op a hA hA2 (by simpa using hN) w20 w22 w25 w26 hk hm hp hg h hT hl
end Go.Proofs.Ytkhoelmbcmkhjaa
