/- ContainsFunc; layers 2 and 5: lists of types, actors, modules that are right (printed by gen_cd.py). -/
import Derived.Test.YtkhoelmbcmkhjaaCc
namespace Go.Proofs.Ytkhoelmbcmkhjaa
set_option maxRecDepth 100000

/-- none of the first k -/
def NoneF {α : Type} (p : α → Bool) (l : List α) (k : Nat) : Prop := ∀ x ∈ l.take k, p x = false
theorem NoneF.zero {α : Type} (p : α → Bool) (l : List α) : NoneF p l 0 := fun x hx => by simp at hx
theorem NoneF.step {α : Type} {p : α → Bool} {l : List α} {k : Nat} (h : NoneF p l k) (hk : k < l.length) (hp : p l[k] = false) : NoneF p l (k + 1) := fun x hx => by
  rw [List.take_succ_eq_append_getElem hk, List.mem_append] at hx
  rcases hx with hx | hx
  · exact h x hx
  · simp at hx; rw [hx]; exact hp
theorem NoneF.all {α : Type} {p : α → Bool} {l : List α} {k : Nat} (h : NoneF p l k) (hk : l.length ≤ k) : l.any p = false := by
  rw [NoneF, List.take_of_length_le hk] at h
  rw [List.any_eq_false]
  exact fun x hx => by rw [h x hx]; simp

theorem indexT_ac {η : AHeap} {n : Nat} (l : List Int) (f : FuncId) (caps : List AVal) (p : Int → Bool) (hb : HB Try.prog f = true) (hp : ∀ x ∈ l, AC Try.prog f ([.int .i64 x] ++ caps) η n (Rt (.bool (p x)) η n)) (hl : l.length ≤ 17592186044416) :
    AC Try.prog 144 [.rs 1 (ints l), .func f [] caps] η n (fun r η' n' => (∃ i : Int, r = .int .i64 i ∧ (0 ≤ i ↔ l.any p = true)) ∧ η' = η ∧ n' = n) := by
  refine AC.enter Try.func144 rfl Try.ntmps144 (by simp) ?_
  simp
  refine loopK.inv [4, 5, 8, 9, 10, 11, 12, 13, 14, 15, 16, 17, 18] (fun k : Nat => k ≤ l.length ∧ NoneF p l k) (fun k => [(8, .int .i64 k)]) (fun _ => η) (fun _ => n) (fun k => l.length - k) 0 ⟨Nat.zero_le _, NoneF.zero p l⟩ (by simp) (by simp) (Nat.le_refl _) ?_
  intro k ⟨g1, g2⟩
  simp
  refine CondP.dec (fun h => ?_) (fun h => ?_)
  · have h' : k < l.length := by omega
    have hx := hp l[k] (List.getElem_mem ..)
    have ew : IntKind.i64.wrap ((k : Int) + 1) = (k : Int) + 1 := wrap_id (by omega) (by omega)
    simp [h', aindex, aload, apart, hb]
    refine ACK.rt hx ?_
    cases hpx : p l[k]
    · simp [ew]
      exact endK.intro (k + 1) ⟨by omega, g2.step h' hpx⟩ (by simp) (by repeat (first | exact Agree.mask _ _ | refine Agree.setf rfl ?_ | refine Agree.inner rfl ?_)) (AHeap.le_rfl _) (Nat.le_refl _) (show l.length - (k + 1) < l.length - k by omega)
    · simp
      exact resK.rt ⟨⟨_, rfl, by simp only [List.any_eq_true]; exact ⟨fun _ => ⟨l[k], List.getElem_mem .., hpx⟩, fun _ => by omega⟩⟩, rfl, rfl⟩
  · simp [h]
    exact resK.rt ⟨⟨_, rfl, by rw [g2.all (by omega)]; simp⟩, rfl, rfl⟩
theorem containsT_ac {η : AHeap} {n : Nat} (l : List Int) (f : FuncId) (caps : List AVal) (p : Int → Bool) (hb : HB Try.prog f = true) (hp : ∀ x ∈ l, AC Try.prog f ([.int .i64 x] ++ caps) η n (Rt (.bool (p x)) η n)) (hl : l.length ≤ 17592186044416) :
    AC Try.prog 124 [.rs 1 (ints l), .func f [] caps] η n (Rt (.bool (l.any p)) η n) := by
  refine AC.enter Try.func124 rfl Try.ntmps124 (by simp) ?_
  simp
  refine ACK.use (indexT_ac l f caps p hb hp hl) ?_
  rintro r η' n' ⟨⟨i, e1, h⟩, e2, e3⟩
  subst e1 e2 e3
  simp
  refine resK.rt ⟨?_, rfl, rfl⟩
  have : decide (0 ≤ i) = l.any p := by rw [Bool.eq_iff_iff, decide_eq_true_eq]; exact h
  rw [this]

theorem indexI_ac {η : AHeap} {n : Nat} (l : List (Int × Int)) (f : FuncId) (caps : List AVal) (p : (Int × Int) → Bool) (hb : HB Try.prog f = true) (hp : ∀ x ∈ l, AC Try.prog f ([.agg [.int .i64 x.1, .int .i64 x.2]] ++ caps) η n (Rt (.bool (p x)) η n)) (hl : l.length ≤ 17592186044416) :
    AC Try.prog 128 [.rs 2 (pairs l), .func f [] caps] η n (fun r η' n' => (∃ i : Int, r = .int .i64 i ∧ (0 ≤ i ↔ l.any p = true)) ∧ η' = η ∧ n' = n) := by
  refine AC.enter Try.func128 rfl Try.ntmps128 (by simp) ?_
  simp
  refine loopK.inv [4, 5, 8, 9, 10, 11, 12, 13, 14, 15, 16, 17, 18] (fun k : Nat => k ≤ l.length ∧ NoneF p l k) (fun k => [(8, .int .i64 k)]) (fun _ => η) (fun _ => n) (fun k => l.length - k) 0 ⟨Nat.zero_le _, NoneF.zero p l⟩ (by simp) (by simp) (Nat.le_refl _) ?_
  intro k ⟨g1, g2⟩
  simp
  refine CondP.dec (fun h => ?_) (fun h => ?_)
  · have h' : k < l.length := by omega
    have hx := hp l[k] (List.getElem_mem ..)
    have ew : IntKind.i64.wrap ((k : Int) + 1) = (k : Int) + 1 := wrap_id (by omega) (by omega)
    simp [h', aindex, aload, apart, hb]
    refine ACK.rt hx ?_
    cases hpx : p l[k]
    · simp [ew]
      exact endK.intro (k + 1) ⟨by omega, g2.step h' hpx⟩ (by simp) (by repeat (first | exact Agree.mask _ _ | refine Agree.setf rfl ?_ | refine Agree.inner rfl ?_)) (AHeap.le_rfl _) (Nat.le_refl _) (show l.length - (k + 1) < l.length - k by omega)
    · simp
      exact resK.rt ⟨⟨_, rfl, by simp only [List.any_eq_true]; exact ⟨fun _ => ⟨l[k], List.getElem_mem .., hpx⟩, fun _ => by omega⟩⟩, rfl, rfl⟩
  · simp [h]
    exact resK.rt ⟨⟨_, rfl, by rw [g2.all (by omega)]; simp⟩, rfl, rfl⟩
theorem containsI_ac {η : AHeap} {n : Nat} (l : List (Int × Int)) (f : FuncId) (caps : List AVal) (p : (Int × Int) → Bool) (hb : HB Try.prog f = true) (hp : ∀ x ∈ l, AC Try.prog f ([.agg [.int .i64 x.1, .int .i64 x.2]] ++ caps) η n (Rt (.bool (p x)) η n)) (hl : l.length ≤ 17592186044416) :
    AC Try.prog 84 [.rs 2 (pairs l), .func f [] caps] η n (Rt (.bool (l.any p)) η n) := by
  refine AC.enter Try.func84 rfl Try.ntmps84 (by simp) ?_
  simp
  refine ACK.use (indexI_ac l f caps p hb hp hl) ?_
  rintro r η' n' ⟨⟨i, e1, h⟩, e2, e3⟩
  subst e1 e2 e3
  simp
  refine resK.rt ⟨?_, rfl, rfl⟩
  have : decide (0 ≤ i) = l.any p := by rw [Bool.eq_iff_iff, decide_eq_true_eq]; exact h
  rw [this]

theorem indexB_ac {η : AHeap} {n : Nat} (l : List Tbl) (f : FuncId) (caps : List AVal) (p : Tbl → Bool) (hb : HB Try.prog f = true) (hp : ∀ x ∈ l, AC Try.prog f ([.agg (tblC x)] ++ caps) η n (Rt (.bool (p x)) η n)) (hl : l.length ≤ 17592186044416) :
    AC Try.prog 131 [.rs 2 (tblsC l), .func f [] caps] η n (fun r η' n' => (∃ i : Int, r = .int .i64 i ∧ (0 ≤ i ↔ l.any p = true)) ∧ η' = η ∧ n' = n) := by
  refine AC.enter Try.func131 rfl Try.ntmps131 (by simp) ?_
  simp
  refine loopK.inv [4, 5, 8, 9, 10, 11, 12, 13, 14, 15, 16, 17, 18] (fun k : Nat => k ≤ l.length ∧ NoneF p l k) (fun k => [(8, .int .i64 k)]) (fun _ => η) (fun _ => n) (fun k => l.length - k) 0 ⟨Nat.zero_le _, NoneF.zero p l⟩ (by simp) (by simp) (Nat.le_refl _) ?_
  intro k ⟨g1, g2⟩
  simp
  refine CondP.dec (fun h => ?_) (fun h => ?_)
  · have h' : k < l.length := by omega
    have hx := hp l[k] (List.getElem_mem ..)
    have ew : IntKind.i64.wrap ((k : Int) + 1) = (k : Int) + 1 := wrap_id (by omega) (by omega)
    simp [h', aindex, aload, apart, hb, tblC]
    refine ACK.rt hx ?_
    cases hpx : p l[k]
    · simp [ew]
      exact endK.intro (k + 1) ⟨by omega, g2.step h' hpx⟩ (by simp) (by repeat (first | exact Agree.mask _ _ | refine Agree.setf rfl ?_ | refine Agree.inner rfl ?_)) (AHeap.le_rfl _) (Nat.le_refl _) (show l.length - (k + 1) < l.length - k by omega)
    · simp
      exact resK.rt ⟨⟨_, rfl, by simp only [List.any_eq_true]; exact ⟨fun _ => ⟨l[k], List.getElem_mem .., hpx⟩, fun _ => by omega⟩⟩, rfl, rfl⟩
  · simp [h]
    exact resK.rt ⟨⟨_, rfl, by rw [g2.all (by omega)]; simp⟩, rfl, rfl⟩
theorem containsB_ac {η : AHeap} {n : Nat} (l : List Tbl) (f : FuncId) (caps : List AVal) (p : Tbl → Bool) (hb : HB Try.prog f = true) (hp : ∀ x ∈ l, AC Try.prog f ([.agg (tblC x)] ++ caps) η n (Rt (.bool (p x)) η n)) (hl : l.length ≤ 17592186044416) :
    AC Try.prog 87 [.rs 2 (tblsC l), .func f [] caps] η n (Rt (.bool (l.any p)) η n) := by
  refine AC.enter Try.func87 rfl Try.ntmps87 (by simp) ?_
  simp
  refine ACK.use (indexB_ac l f caps p hb hp hl) ?_
  rintro r η' n' ⟨⟨i, e1, h⟩, e2, e3⟩
  subst e1 e2 e3
  simp
  refine resK.rt ⟨?_, rfl, rfl⟩
  have : decide (0 ≤ i) = l.any p := by rw [Bool.eq_iff_iff, decide_eq_true_eq]; exact h
  rw [this]

def allT (l : List Int) (n : Int) : Bool := l.all fun t => rightT t n
theorem allT_cons (x : Int) (l : List Int) (n : Int) : allT (x :: l) n = (rightT x n && allT l n) := rfl
theorem all1_ac (t n : Int) (q : Nat) (η : AHeap) (m : Nat) (hq : η q = some (.cells 1 [[.int .i64 n]])) : AC Try.prog 125 [.int .i64 t, .ptr q 0 0] η m (Rt (.bool (!rightT t n)) η m) := by
  refine AC.enter Try.func125 rfl Try.ntmps125 (by simp) ?_
  simp [aload, apart, hq]
  refine ACK.rt (kright_ac _ _ _ _) ?_
  simp
  exact resK.rt ⟨rfl, rfl, rfl⟩
theorem any_not {α : Type} (l : List α) (p : α → Bool) : (!l.any fun x => !p x) = l.all p := by
  induction l with
  | nil => rfl
  | cons x l ih => simp [← ih]
theorem kall_ac {η : AHeap} {m : Nat} (l : List Int) (n : Int) (hl : l.length ≤ 17592186044416) : AC Try.prog 82 [.rs 1 (ints l), .int .i64 n] η m (Rt (.bool (allT l n)) η m) := by
  refine AC.pure (.bool _) ?_
  refine AC.fresh fun hf => ?_; refine AC.enter Try.func82 rfl Try.ntmps82 (by simp) ?_
  simp
  refine ACK.rt (containsT_ac l 125 [.ptr m 0 0] (fun t => !rightT t n) (by simp) (fun x _ => all1_ac x n m _ _ (upd_eq ..)) hl) ?_
  simp
  refine resK.of (η' := η) (le_upd (AHeap.le_rfl _) (hf m (Nat.le_refl _))) _ (Nat.le_refl _) ⟨?_, rfl⟩
  have := any_not l fun t => rightT t n
  simp at this
  simp [allT, this]
theorem all02_ac {η : AHeap} {m : Nat} (l : List Int) (n : Int) (hl : l.length ≤ 17592186044416) : AC Try.prog 91 [.rs 1 (ints l), .int .i64 n] η m (Rt (.bool (allT l n)) η m) := by
  refine AC.enter Try.func91 rfl Try.ntmps91 (by simp) ?_
  simp
  refine loopK.inv [4, 5, 6, 7, 8, 9, 10, 11, 12, 13, 14, 15, 16, 17, 18] (fun k : Nat => k ≤ l.length ∧ allT l n = allT (l.drop k) n) (fun k => [(5, .int .i64 k)]) (fun _ => η) (fun _ => m) (fun k => l.length - k) 0 (by simp) (by simp) (by simp) (Nat.le_refl _) ?_
  intro k ⟨g1, g2⟩
  simp
  refine CondP.dec (fun h => ?_) (fun h => ?_)
  · have h' : k < l.length := by omega
    have ew : IntKind.i64.wrap ((k : Int) + 1) = (k : Int) + 1 := wrap_id (by omega) (by omega)
    rw [List.drop_eq_getElem_cons h', allT_cons] at g2
    simp [h', aindex, aload, apart]
    refine ACK.rt (right02_ac _ _ _ _) ?_
    cases hr : rightT l[k] n
    · simp
      refine resK.rt ⟨?_, rfl, rfl⟩
      rw [g2, hr]; rfl
    · simp [ew]
      exact endK.intro (k + 1) ⟨by omega, by rw [g2, hr]; rfl⟩ (by simp) (by repeat (first | exact Agree.mask _ _ | refine Agree.setf rfl ?_ | refine Agree.inner rfl ?_)) (AHeap.le_rfl _) (Nat.le_refl _) (show l.length - (k + 1) < l.length - k by omega)
  · simp [h]
    refine resK.rt ⟨?_, rfl, rfl⟩
    rw [g2, List.drop_eq_nil_of_le (by omega)]; rfl
theorem place_ac (a e : Int) (η : AHeap) (m : Nat) : AC Try.prog 132 [.int .i64 a, .int .i64 e] η m (Rt (.bool (decide (0 ≤ a ∧ a < e))) η m) := by
  refine AC.enter Try.func132 rfl Try.ntmps132 (by simp) ?_
  simp
  repeat' (refine CondP.dec (fun h => ?_) (fun h => ?_) <;> simp [h])
  all_goals exact resK.rt ⟨by simp [*], rfl, rfl⟩
def clauseOK (c : Int × Int) : Bool := decide (0 ≤ c.1 ∧ c.1 < 8 ∧ 0 ≤ c.2 ∧ c.2 < 200)
def tableOK (t : Tbl) : Bool := t.cls.all clauseOK && decide (t.tmo = -1 ∨ (0 ≤ t.tmo ∧ t.tmo < 200))
theorem table_ac (t : Tbl) (η : AHeap) (m : Nat) (hl : t.cls.length ≤ 17592186044416) : AC Try.prog 89 [.agg (tblC t)] η m (Rt (.bool (tableOK t)) η m) := by
  refine AC.pure (.bool _) ?_
  refine AC.fresh fun hf => ?_; refine AC.enter Try.func89 rfl Try.ntmps89 (by simp) ?_
  simp [tblC, aload, afield, apart, upd_eq]
  refine loopK.inv [2, 4, 8, 9, 10, 11, 12, 13, 14, 15, 16, 17, 18, 19, 20, 21, 22] (fun x : Nat × Nat => x.1 ≤ t.cls.length ∧ m + 1 ≤ x.2 ∧ t.cls.all clauseOK = (t.cls.drop x.1).all clauseOK) (fun x => [(8, .int .i64 x.1)]) (fun _ => upd η m (some (.cells 2 [tblC t]))) (fun x => x.2) (fun x => t.cls.length - x.1) (0, m + 1) (by simp) (by simp) (by simp [tblC]) (Nat.le_refl _) ?_
  intro ⟨k, q⟩ ⟨g1, g2, g3⟩
  simp only at g1 g2 g3
  simp
  have hmq : m ≠ q := by omega
  have hq0 : upd η m (some (.cells 2 [tblC t])) q = none := by rw [upd_ne (Ne.symm hmq)]; exact hf q (by omega)
  have hup : ∀ o, (upd η m (some (.cells 2 [tblC t]))).le (upd (upd η m (some (.cells 2 [tblC t]))) q o) := fun o => le_upd (AHeap.le_rfl _) hq0
  have hle : ∀ o, η.le (upd (upd η m (some (.cells 2 [tblC t]))) q o) := fun o => fun r o' hr => hup o r o' (le_upd (AHeap.le_rfl _) (hf m (Nat.le_refl _)) r o' hr)
  refine CondP.dec (fun h => ?_) (fun h => ?_)
  · have h' : k < t.cls.length := by omega
    have ew : IntKind.i64.wrap ((k : Int) + 1) = (k : Int) + 1 := wrap_id (by omega) (by omega)
    rw [List.drop_eq_getElem_cons h', List.all_cons] at g3
    simp [h', aindex, aload, apart, afield, astore, upd_eq, upd_upd]
    refine ACK.rt (place_ac _ _ _ _) ?_
    by_cases c1 : 0 ≤ t.cls[k].1 ∧ t.cls[k].1 < 8
    · simp [c1, aload, apart, afield, upd_eq]
      refine ACK.rt (place_ac _ _ _ _) ?_
      by_cases c2 : 0 ≤ t.cls[k].2 ∧ t.cls[k].2 < 200
      · simp [c2, ew]
        exact endK.intro (k + 1, q + 1) ⟨by omega, by omega, by rw [g3]; simp [clauseOK, c1, c2]⟩ (by simp) (by repeat (first | exact Agree.mask _ _ | refine Agree.setf rfl ?_ | refine Agree.inner rfl ?_)) (hup _) (Nat.le_refl _) (show t.cls.length - (k + 1) < t.cls.length - k by omega)
      · have e : (decide (0 ≤ t.cls[k].2) && decide (t.cls[k].2 < 200)) = false := by simp; omega
        simp [e]
        refine resK.of (η' := η) (hle _) _ (Nat.le_refl _) ⟨?_, rfl⟩
        have : clauseOK t.cls[k] = false := by simp only [clauseOK, decide_eq_false_iff_not]; omega
        simp [tableOK, g3, this]
    · have e : (decide (0 ≤ t.cls[k].1) && decide (t.cls[k].1 < 8)) = false := by simp; omega
      simp [e]
      refine resK.of (η' := η) (hle _) _ (Nat.le_refl _) ⟨?_, rfl⟩
      have : clauseOK t.cls[k] = false := by simp only [clauseOK, decide_eq_false_iff_not]; omega
      simp [tableOK, g3, this]
  · have ha : t.cls.all clauseOK = true := by rw [g3, List.drop_eq_nil_of_le (by omega)]; rfl
    have le1 : η.le (upd η m (some (.cells 2 [tblC t]))) := le_upd (AHeap.le_rfl _) (hf m (Nat.le_refl _))
    simp [h, aload, apart, afield, upd_eq, tblC]
    refine CondP.dec (fun h1 => ?_) (fun h1 => ?_)
    · simp [h1]
      exact resK.of (η' := η) (le_upd (AHeap.le_rfl _) (hf m (Nat.le_refl _))) _ (Nat.le_refl _) ⟨by simp [tableOK, ha, h1], rfl⟩
    · simp [h1, aload, apart, afield, upd_eq]
      refine ACK.rt (place_ac _ _ _ _) ?_
      simp
      exact resK.of (η' := η) (le_upd (AHeap.le_rfl _) (hf m (Nat.le_refl _))) _ (Nat.le_refl _) ⟨by simp [tableOK, ha, h1], rfl⟩
end Go.Proofs.Ytkhoelmbcmkhjaa
