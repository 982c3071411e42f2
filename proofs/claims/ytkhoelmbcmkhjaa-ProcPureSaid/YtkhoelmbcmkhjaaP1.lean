/- Functions on numbers. -/
import Derived.Test.YtkhoelmbcmkhjaaP0
import Derived.Test.YtkhoelmbcmkhjaaTy
import Derived.Test.YtkhoelmbcmkhjaaNa
namespace Go.Proofs.Ytkhoelmbcmkhjaa

theorem names_ac (a n : Int) (η : AHeap) (m : Nat) : AC Try.prog 74 [.int .i64 a, .int .i64 n] η m (Rt (.bool (decide (0 ≤ a ∧ a < n))) η m) := by
  refine AC.enter Try.func74 rfl Try.ntmps74 (by simp) ?_
  simp
  refine CondP.dec (fun h => ?_) (fun h => ?_) <;> simp [h] <;> exact resK.rt (by simp [Rt, h])
def clipF (n : Int) : Int := min (max n 0) 1099511627776
theorem clip_ac (a : Int) (η : AHeap) (m : Nat) : AC Try.prog 94 [.int .i64 a] η m (Rt (.int .i64 (clipF a)) η m) := by
  refine AC.enter Try.func94 rfl Try.ntmps94 (by simp) ?_
  simp
  exact resK.rt ⟨rfl, rfl, rfl⟩
def dueF (u now : Int) : Bool := decide (0 ≤ u ∧ u ≤ clipF now)
theorem due_ac (u now : Int) (η : AHeap) (m : Nat) : AC Try.prog 66 [.int .i64 u, .int .i64 now] η m (Rt (.bool (dueF u now)) η m) := by
  refine AC.enter Try.func66 rfl Try.ntmps66 (by simp) ?_
  simp
  refine CondP.dec (fun h => ?_) (fun h => ?_)
  · simp [h]
    refine ACK.rt (clip_ac _ _ _) ?_
    simp
    exact resK.rt (by simp [Rt, h, dueF])
  · simp [h]
    exact resK.rt (by simp [Rt, h, dueF])
def truthF (b : Bool) : Int := if b then 1 else 0
theorem truth_ac (b : Bool) (η : AHeap) (m : Nat) : AC Try.prog 51 [.bool b] η m (Rt (.int .i64 (truthF b)) η m) := by
  refine AC.enter Try.func51 rfl Try.ntmps51 (by simp) ?_
  simp
  cases b <;> simp <;> exact resK.rt ⟨rfl, rfl, rfl⟩
def divF (op a b : Int) : Int × Int := if b = 0 then (0, 15) else if op = 9 then (IntKind.i64.wrap (a.tdiv b), 0) else (a.tmod b, 0)
theorem wrap_neg1 {a : Int} (_ : I64 a) : IntKind.i64.wrap (0 - a) = IntKind.i64.wrap (a.tdiv (-1)) := by rw [Int.tdiv_neg, Int.tdiv_one, Int.zero_sub]
theorem divide_ac (op a b : Int) (η : AHeap) (m : Nat) (_ : op = 9 ∨ op = 10) : AC Try.prog 50 [.int .i64 op, .int .i64 a, .int .i64 b] η m (Rt (.tup [.int .i64 (divF op a b).1, .int .i64 (divF op a b).2]) η m) := by
  refine AC.enter Try.func50 rfl Try.ntmps50 (by simp) ?_
  simp
  refine CondP.dec (fun h => ?_) (fun h => ?_)
  · simp [h]
    exact resK.rt (by simp [Rt, h, divF])
  · simp [h]
    refine CondP.dec (fun h1 => ?_) (fun h1 => ?_)
    · subst h1
      simp
      refine CondP.dec (fun h2 => ?_) (fun h2 => ?_)
      · simp [h2]
        exact resK.rt (by simp [Rt, h2, divF, Int.tdiv_neg])
      · simp [h2]
        exact resK.rt (by simp [Rt, h2, divF, Int.tmod_neg])
    · simp [h1]
      refine CondP.dec (fun h2 => ?_) (fun h2 => ?_)
      · simp [h2, h]
        exact resK.rt (by simp [Rt, h2, divF, h])
      · simp [h2, h]
        exact resK.rt (by simp [Rt, h2, divF, h])
def orB (a b : Int) : Bool := !decide (bitF .or .i64 a b = 0)
def twoF (op a b : Int) : Int × Int :=
  if op = 6 then (IntKind.i64.wrap (a + b), 0) else if op = 7 then (IntKind.i64.wrap (a - b), 0) else if op = 8 then (IntKind.i64.wrap (a * b), 0) else if op = 9 ∨ op = 10 then divF op a b
  else if op = 11 then (truthF (decide (a < b)), 0) else if op = 12 then (truthF (decide (a = b)), 0) else if op = 14 then (truthF (decide (a ≠ 0 ∧ b ≠ 0)), 0) else if op = 15 then (truthF (orB a b), 0) else (0, 9)
theorem orB_eq {a b : Int} (ha : I64 a) (hb : I64 b) : orB a b = decide (a ≠ 0 ∨ b ≠ 0) := by
  unfold orB
  have := or_zero a b ha hb
  by_cases hx : bitF .or .i64 a b = 0
  · have h2 := this.1 hx
    rw [hx]; simp [h2.1, h2.2]
  · have hn : a ≠ 0 ∨ b ≠ 0 := by omega
    simp [hx, hn]
theorem two_ac (op a b : Int) (η : AHeap) (m : Nat) : AC Try.prog 22 [.int .i64 op, .int .i64 a, .int .i64 b] η m (Rt (.tup [.int .i64 (twoF op a b).1, .int .i64 (twoF op a b).2]) η m) := by
  refine AC.enter Try.func22 rfl Try.ntmps22 (by simp) ?_
  simp
  refine CondP.dec (fun h => ?_) (fun h6 => ?_)
  · subst h; simp; exact resK.rt (by simp [Rt, twoF])
  simp [h6]
  refine CondP.dec (fun h => ?_) (fun h7 => ?_)
  · subst h; simp; exact resK.rt (by simp [Rt, twoF])
  simp [h7]
  refine CondP.dec (fun h => ?_) (fun h8 => ?_)
  · subst h; simp; exact resK.rt (by simp [Rt, twoF])
  simp [h8]
  have hd : ∀ (hop : op = 9 ∨ op = 10), twoF op a b = divF op a b := fun hop => by rcases hop with h | h <;> subst h <;> simp [twoF]
  refine CondP.dec (fun h => ?_) (fun h9 => ?_)
  · have := hd (Or.inl h)
    simp [h]
    refine ACK.rt (divide_ac 9 a b η m (Or.inl rfl)) ?_
    subst h
    simp
    exact resK.rt (by simp [Rt, this])
  simp [h9]
  refine CondP.dec (fun h => ?_) (fun h10 => ?_)
  · have := hd (Or.inr h)
    simp [h]
    refine ACK.rt (divide_ac 10 a b η m (Or.inr rfl)) ?_
    subst h
    simp
    exact resK.rt (by simp [Rt, this])
  simp [h10]
  refine CondP.dec (fun h => ?_) (fun h11 => ?_)
  · subst h; simp
    refine ACK.rt (truth_ac _ _ _) ?_
    simp; exact resK.rt (by simp [Rt, twoF])
  simp [h11]
  refine CondP.dec (fun h => ?_) (fun h12 => ?_)
  · subst h; simp
    refine ACK.rt (truth_ac _ _ _) ?_
    simp; exact resK.rt (by simp [Rt, twoF])
  simp [h12]
  refine CondP.dec (fun h => ?_) (fun h14 => ?_)
  · subst h; simp
    refine CondP.ndec (fun h => ?_) (fun h => ?_)
    · simp [h]
      refine ACK.rt (truth_ac _ _ _) ?_
      simp; exact resK.rt (by simp [Rt, twoF, h])
    · simp [h]
      refine ACK.rt (truth_ac _ _ _) ?_
      simp; exact resK.rt (by simp [Rt, twoF, h])
  simp [h14]
  refine CondP.dec (fun h => ?_) (fun h15 => ?_)
  · subst h; simp
    refine ACK.rt (truth_ac _ _ _) ?_
    simp; exact resK.rt (by simp [Rt, twoF, orB])
  simp [h15]
  exact resK.rt (by simp [Rt, twoF, *])
end Go.Proofs.Ytkhoelmbcmkhjaa
