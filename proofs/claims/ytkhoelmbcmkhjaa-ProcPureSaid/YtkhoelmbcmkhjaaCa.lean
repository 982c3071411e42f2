/- Layers 2, 4, 5 on numbers: types, instructions (and the reference's). -/
import Derived.Test.YtkhoelmbcmkhjaaLj
import Derived.Test.YtkhoelmbcmkhjaaAq
namespace Go.Proofs.Ytkhoelmbcmkhjaa
set_option maxRecDepth 100000

def rightT (t n : Int) : Bool := decide (t = 1 ∨ t = 2 ∨ (16 ≤ t ∧ t < 16 + min (max n 0) 8))
theorem kright_ac (t n : Int) (η : AHeap) (m : Nat) : AC Try.prog 126 [.int .i64 t, .int .i64 n] η m (Rt (.bool (rightT t n)) η m) := by
  have e : IntKind.i64.wrap (16 + min (max n 0) 8) = 16 + min (max n 0) 8 := wrap_id (by omega) (by omega)
  refine AC.enter Try.func126 rfl Try.ntmps126 (by simp) ?_
  simp
  refine CondP.dec (fun h1 => ?_) (fun h1 => ?_)
  · simp [h1]

    exact resK.rt ⟨by simp [rightT, h1], rfl, rfl⟩
  simp [h1]
  refine CondP.dec (fun h2 => ?_) (fun h2 => ?_)
  · simp [h2]
    exact resK.rt ⟨by simp [rightT, h2], rfl, rfl⟩
  simp [h2]
  refine CondP.dec (fun h3 => ?_) (fun h3 => ?_)
  · simp [h3, e]
    exact resK.rt ⟨by simp [rightT, h1, h2, h3], rfl, rfl⟩
  · simp [h3]
    exact resK.rt ⟨by simp [rightT, h1, h2, h3], rfl, rfl⟩
def actT (t : Int) : Int × Bool := if rightT t 8 = true ∧ 16 ≤ t then (t - 16, true) else (0, false)
theorem kactor_ac (t : Int) (η : AHeap) (m : Nat) (ht : I64 t) : AC Try.prog 140 [.int .i64 t] η m (Rt (.tup [.int .i64 (actT t).1, .bool (actT t).2]) η m) := by
  unfold I64 at ht
  refine AC.enter Try.func140 rfl Try.ntmps140 (by simp) ?_
  simp
  refine CondP.dec (fun h1 => ?_) (fun h1 => ?_)
  · simp [h1]
    have : ¬ (16 : Int) ≤ t := by omega
    exact resK.rt ⟨by simp [actT, this], rfl, rfl⟩
  · have h1' : (16 : Int) ≤ t := by omega
    have e : IntKind.i64.wrap (t - 16) = t - 16 := wrap_id (by omega) (by omega)
    simp [h1]
    refine ACK.rt (kright_ac _ _ _ _) ?_
    cases h2 : rightT t 8
    · simp
      exact resK.rt ⟨by simp [actT, h2], rfl, rfl⟩
    · simp [e]
      exact resK.rt ⟨by simp [actT, h2, h1'], rfl, rfl⟩
theorem right02_ac (t n : Int) (η : AHeap) (m : Nat) : AC Try.prog 123 [.int .i64 t, .int .i64 n] η m (Rt (.bool (rightT t n)) η m) := by
  refine AC.enter Try.func123 rfl Try.ntmps123 (by simp) ?_
  simp
  refine CondP.dec (fun h1 => ?_) (fun h1 => ?_)
  · simp [h1]
    exact resK.rt ⟨by simp [rightT, h1], rfl, rfl⟩
  simp [h1]
  refine CondP.dec (fun h2 => ?_) (fun h2 => ?_)
  · simp [h2]
    exact resK.rt ⟨by simp [rightT, h2], rfl, rfl⟩
  simp [h2]
  refine loopK.inv [4, 5, 12, 13, 14, 15, 16, 17, 18, 19, 20, 21, 22, 23, 24] (fun k : Nat => k ≤ 8 ∧ (k : Int) ≤ max n 0 ∧ ¬ (16 ≤ t ∧ t < 16 + k)) (fun k => [(5, .int .i64 k)]) (fun _ => η) (fun _ => m) (fun k => 8 - k) 0 (by simp; omega) (by simp) (by simp) (Nat.le_refl _) ?_
  intro k ⟨g1, g2, g3⟩
  simp
  have e : IntKind.i64.wrap (16 + (k : Int)) = 16 + k := wrap_id (by omega) (by omega)
  have e' : IntKind.i64.wrap ((k : Int) + 1) = k + 1 := wrap_id (by omega) (by omega)
  refine CondP.dec (fun h3 => ?_) (fun h3 => ?_)
  · simp [h3]
    refine CondP.dec (fun h4 => ?_) (fun h4 => ?_)
    · simp [h4, e]
      refine CondP.dec (fun h5 => ?_) (fun h5 => ?_)
      · simp [h5]
        refine resK.rt ⟨?_, rfl, rfl⟩
        have : rightT t n = true := by simp only [rightT, decide_eq_true_eq]; omega
        simp [this]
      · simp [h5, e']
        exact endK.intro (k + 1) ⟨by omega, by omega, by omega⟩ (by simp) (by repeat (first | exact Agree.mask _ _ | refine Agree.setf rfl ?_ | refine Agree.inner rfl ?_)) (AHeap.le_rfl _) (Nat.le_refl _) (show 8 - (k + 1) < 8 - k by omega)
    · simp [h4]
      refine resK.rt ⟨?_, rfl, rfl⟩
      have : rightT t n = false := by simp only [rightT, decide_eq_false_iff_not]; omega
      simp [this]
  · simp [h3]
    refine resK.rt ⟨?_, rfl, rfl⟩
    have : rightT t n = false := by simp only [rightT, decide_eq_false_iff_not]; omega
    simp [this]
theorem actor02_ac (t : Int) (η : AHeap) (m : Nat) (ht : I64 t) : AC Try.prog 81 [.int .i64 t] η m (Rt (.tup [.int .i64 (actT t).1, .bool (actT t).2]) η m) := by
  unfold I64 at ht
  refine AC.enter Try.func81 rfl Try.ntmps81 (by simp) ?_
  simp
  refine ACK.rt (right02_ac _ _ _ _) ?_
  cases h2 : rightT t 8
  · simp
    exact resK.rt ⟨by simp [actT, h2], rfl, rfl⟩
  · simp
    refine CondP.dec (fun h1 => ?_) (fun h1 => ?_)
    · simp [h1]
      have : ¬ (16 : Int) ≤ t := by omega
      exact resK.rt ⟨by simp [actT, this], rfl, rfl⟩
    · have h1' : (16 : Int) ≤ t := by omega
      have e : IntKind.i64.wrap (t - 16) = t - 16 := wrap_id (by omega) (by omega)
      simp [h1, e]
      exact resK.rt ⟨by simp [actT, h2, h1'], rfl, rfl⟩
def countI (op : Int) : Int := if op = 4 ∨ op = 5 then 16 else if op = 16 ∨ op = 17 then 200 else if op = 19 then 8 else if op = 20 then 8 else if op = 21 then 8 else 0
theorem icount_ac (op : Int) (η : AHeap) (m : Nat) : AC Try.prog 130 [.int .i64 op] η m (Rt (.int .i64 (countI op)) η m) := by
  refine AC.enter Try.func130 rfl Try.ntmps130 (by simp) ?_
  simp
  repeat' (refine CondP.dec (fun h => ?_) (fun h => ?_) <;> simp [h])
  all_goals exact resK.rt ⟨by simp [countI, *], rfl, rfl⟩
theorem ihas_ac (op : Int) (η : AHeap) (m : Nat) : AC Try.prog 129 [.int .i64 op] η m (Rt (.bool (decide (op = 1 ∨ 0 < countI op))) η m) := by
  refine AC.enter Try.func129 rfl Try.ntmps129 (by simp) ?_
  simp
  refine CondP.dec (fun h => ?_) (fun h => ?_)
  · simp [h]
    exact resK.rt ⟨by simp [h], rfl, rfl⟩
  · simp [h]
    refine ACK.rt (icount_ac _ _ _) ?_
    simp
    exact resK.rt ⟨by simp [h], rfl, rfl⟩
def rightI (i : Int × Int) : Bool := decide (0 ≤ i.1 ∧ i.1 ≤ 26 ∧ (i.1 = 1 ∨ (countI i.1 = 0 ∧ i.2 = 0) ∨ (0 < countI i.1 ∧ 0 ≤ i.2 ∧ i.2 < countI i.1)))
theorem iright_ac (i : Int × Int) (η : AHeap) (m : Nat) : AC Try.prog 86 [.agg [.int .i64 i.1, .int .i64 i.2]] η m (Rt (.bool (rightI i)) η m) := by
  obtain ⟨op, a⟩ := i
  refine AC.pure (.bool _) ?_
  have hc : 0 ≤ countI op := by unfold countI; repeat' split
                                all_goals omega
  refine AC.fresh fun hf => ?_; refine AC.enter Try.func86 rfl Try.ntmps86 (by simp) ?_
  have le1 : ∀ o, η.le (upd η m o) := fun o => le_upd (AHeap.le_rfl _) (hf m (Nat.le_refl _))
  simp [aload, afield, apart, upd_eq]
  refine CondP.dec (fun h1 => ?_) (fun h1 => ?_)
  · simp [h1]
    have : ¬ 0 ≤ op := by omega
    exact resK.of (η' := η) (le1 _) _ (Nat.le_refl _) (by simp [rightI, this])
  simp [h1, aload, afield, apart, upd_eq]
  refine CondP.dec (fun h2 => ?_) (fun h2 => ?_)
  · simp [h2]
    have : ¬ op ≤ 26 := by omega
    exact resK.of (η' := η) (le1 _) _ (Nat.le_refl _) (by simp [rightI, this])
  have hr : 0 ≤ op ∧ op ≤ 26 := by omega
  simp [h2, aload, afield, apart, upd_eq]
  refine CondP.dec (fun h3 => ?_) (fun h3 => ?_)
  · simp [h3]
    exact resK.of (η' := η) (le1 _) _ (Nat.le_refl _) (by simp [rightI, h3])
  simp [h3, aload, afield, apart, upd_eq]
  refine ACK.rt (ihas_ac _ _ _) ?_
  by_cases h4 : 0 < countI op
  · simp [h3, h4]
    refine drawK.intro mixed [(0, []), (1, []), (2, []), (3, []), (4, []), (5, []), (6, []), (7, []), (8, [5]), (9, []), (10, []), (11, [])] (by kernel_rfl) ?_
    simp [aload, afield, apart, upd_eq]
    refine CondP.dec (fun h5 => ?_) (fun h5 => ?_)
    · simp [h5, aload, afield, apart, upd_eq]
      refine ACK.rt (icount_ac _ _ _) ?_
      simp [lk_some, chkK, upd_eq]
      refine resK.of (η' := η) (le1 _) _ (Nat.le_refl _) ⟨?_, rfl⟩
      have : rightI (op, a) = decide (a < countI op) := by
        simp only [rightI]; exact decide_eq_decide.2 (by omega)
      simp [this]
    · simp [h5]
      refine resK.of (η' := η) (le1 _) _ (Nat.le_refl _) ⟨?_, rfl⟩
      have : rightI (op, a) = false := by
        simp only [rightI, decide_eq_false_iff_not]; omega
      simp [this]
  · simp [h3, h4, aload, afield, apart, upd_eq]
    refine resK.of (η' := η) (le1 _) _ (Nat.le_refl _) ⟨?_, rfl⟩
    have : rightI (op, a) = decide (a = 0) := by
      simp only [rightI]; exact decide_eq_decide.2 (by omega)
    simp [this]
theorem is04_ac (op : Int) (η : AHeap) (m : Nat) : AC Try.prog 40 [.int .i64 op] η m (Rt (.bool (decide (0 ≤ op ∧ op ≤ 26))) η m) := by
  refine AC.enter Try.func40 rfl Try.ntmps40 (by simp) ?_
  simp
  repeat' (refine CondP.dec (fun h => ?_) (fun h => ?_) <;> simp [h])
  all_goals exact resK.rt ⟨by simp [*], rfl, rfl⟩
def mostI (op : Int) : Int := if op = 1 then -2 else if op = 4 ∨ op = 5 then 15 else if op = 16 ∨ op = 17 then 199 else if op = 19 then 7 else if op = 20 then 7 else if op = 21 then 7 else -1
theorem most04_ac (op : Int) (η : AHeap) (m : Nat) : AC Try.prog 134 [.int .i64 op] η m (Rt (.int .i64 (mostI op)) η m) := by
  refine AC.enter Try.func134 rfl Try.ntmps134 (by simp) ?_
  simp
  repeat' (refine CondP.dec (fun h => ?_) (fun h => ?_) <;> simp [h])
  all_goals exact resK.rt ⟨by simp [mostI, *], rfl, rfl⟩
theorem right04_ac (i : Int × Int) (η : AHeap) (m : Nat) : AC Try.prog 92 [.agg [.int .i64 i.1, .int .i64 i.2]] η m (Rt (.bool (rightI i)) η m) := by
  obtain ⟨op, a⟩ := i
  refine AC.pure (.bool _) ?_
  have hc : op = 1 ∨ (mostI op = -1 ∧ countI op = 0) ∨ (mostI op = countI op - 1 ∧ 0 < countI op) := by
    unfold countI mostI; repeat' split
    all_goals omega
  have h1' : op = 1 ↔ mostI op = -2 := by
    unfold mostI; repeat' split
    all_goals omega
  refine AC.fresh fun hf => ?_; refine AC.enter Try.func92 rfl Try.ntmps92 (by simp) ?_
  have le1 : ∀ o, η.le (upd η m o) := fun o => le_upd (AHeap.le_rfl _) (hf m (Nat.le_refl _))
  simp [aload, afield, apart, upd_eq]
  refine ACK.rt (is04_ac _ _ _) ?_
  by_cases h1 : 0 ≤ op ∧ op ≤ 26
  · simp [h1, aload, afield, apart, upd_eq]
    refine ACK.rt (most04_ac _ _ _) ?_
    simp
    refine CondP.dec (fun h2 => ?_) (fun h2 => ?_)
    · simp [h2]
      refine resK.of (η' := η) (le1 _) _ (Nat.le_refl _) ⟨?_, rfl⟩
      have : rightI (op, a) = true := by simp only [rightI, decide_eq_true_eq]; omega
      simp [this]
    simp [h2]
    refine CondP.dec (fun h3 => ?_) (fun h3 => ?_)
    · simp [h3, aload, afield, apart, upd_eq]
      refine resK.of (η' := η) (le1 _) _ (Nat.le_refl _) ⟨?_, rfl⟩
      have : rightI (op, a) = decide (a = 0) := by
        simp only [rightI]; exact decide_eq_decide.2 (by omega)
      simp [this]
    simp [h3, aload, afield, apart, upd_eq]
    refine CondP.dec (fun h4 => ?_) (fun h4 => ?_)
    · simp [h4, aload, afield, apart, upd_eq]
      refine resK.of (η' := η) (le1 _) _ (Nat.le_refl _) ⟨?_, rfl⟩
      have : rightI (op, a) = decide (a ≤ mostI op) := by
        simp only [rightI]; exact decide_eq_decide.2 (by omega)
      simp [this]
    · simp [h4]
      refine resK.of (η' := η) (le1 _) _ (Nat.le_refl _) ⟨?_, rfl⟩
      have : rightI (op, a) = false := by simp only [rightI, decide_eq_false_iff_not]; omega
      simp [this]
  · simp [h1]
    refine resK.of (η' := η) (le1 _) _ (Nat.le_refl _) ⟨?_, rfl⟩
    have : rightI (op, a) = false := by simp only [rightI, decide_eq_false_iff_not]; omega
    simp [this]
end Go.Proofs.Ytkhoelmbcmkhjaa
