/- The reference's arithmetic: callboyref03. ref15: what its helpers compute; messages compared. ref15: takes, Copied, states and effects compared; ref13: messages compared. ref15: a receive. -/
import Derived.Test.YtkhoelmbcmkhjaaP1
import Derived.Test.YtkhoelmbcmkhjaaPv
import Derived.Test.YtkhoelmbcmkhjaaAq
import Derived.Test.YtkhoelmbcmkhjaaCv
namespace Go.Proofs.Ytkhoelmbcmkhjaa
open Go.RowKit (wrap64)
set_option maxRecDepth 100000

theorem wr64 (n : Int) : wrap64 n = IntKind.i64.wrap n := by rw [IntKind.wrap_i64]; unfold wrap64; rfl
theorem truth03_ac (b : Bool) (η : AHeap) (m : Nat) : AC Try.prog 44 [.bool b] η m (Rt (.int .i64 (truthF b)) η m) := by
  refine AC.enter Try.func44 rfl Try.ntmps44 (by simp) ?_
  simp
  cases b <;> simp <;> exact resK.rt ⟨rfl, rfl, rfl⟩
theorem size03_ac (a : Int) (η : AHeap) (m : Nat) (ha : I64 a) : AC Try.prog 73 [.int .i64 a] η m (Rt (.int .u64 (absI a)) η m) := by
  unfold I64 at ha
  refine AC.enter Try.func73 rfl Try.ntmps73 (by simp) ?_
  simp
  refine CondP.dec (fun h => ?_) (fun h => ?_)
  · have e : IntKind.u64.wrap (IntKind.u64.wrap (IntKind.i64.wrap (0 - IntKind.i64.wrap (a + 1))) + 1) = absI a := by
      simp only [IntKind.wrap_i64, IntKind.wrap_u64]; unfold absI; rw [if_pos h]; omega
    simp at e
    simp [h, aconv, e]
    exact resK.rt ⟨rfl, rfl, rfl⟩
  · have e : IntKind.u64.wrap a = absI a := by simp only [IntKind.wrap_u64]; unfold absI; rw [if_neg h]; omega
    simp [h, aconv, e]
    exact resK.rt ⟨rfl, rfl, rfl⟩
theorem signed03_ac (n : Int) (b : Bool) (η : AHeap) (m : Nat) (h0 : 0 ≤ n) (h1 : n < 18446744073709551616) : AC Try.prog 72 [.int .u64 n, .bool b] η m (Rt (.int .i64 (sgnF n b)) η m) := by
  have h2 := negU_eq n h0 h1
  unfold negU at h2
  rw [wr64, wr64] at h2
  refine AC.enter Try.func72 rfl Try.ntmps72 (by simp) ?_
  simp
  cases b
  · simp [aconv]
    exact resK.rt ⟨by simp [sgnF, wr64], rfl, rfl⟩
  · have e : bitF .xor .u64 (if IntKind.u64.signed = true then -1 else IntKind.u64.max) n = bitF .xor .u64 IntKind.u64.max n := by simp [IntKind.signed]
    simp [aconv]
    exact resK.rt ⟨by simp [sgnF, wr64, ← h2, e], rfl, rfl⟩
theorem product03_ac (a b : Nat) (η : AHeap) (m : Nat) (_ : a < 18446744073709551616) (hb : b < 18446744073709551616) : AC Try.prog 71 [.int .u64 a, .int .u64 b] η m (Rt (.int .u64 ((a * b % 18446744073709551616 : Nat) : Int)) η m) := by
  refine AC.enter Try.func71 rfl Try.ntmps71 (by simp) ?_
  simp
  refine loopK.inv [5, 6, 7, 8, 9, 10, 11, 12, 13, 14, 15, 16, 17, 18, 19, 20, 21, 22] (fun k : Nat => k ≤ 64) (fun k => [(5, .int .u64 ((a * (b % 2 ^ k) % 18446744073709551616 : Nat) : Int)), (6, .int .i64 k)]) (fun _ => η) (fun _ => m) (fun k => 64 - k) 0 (by simp) (by simp [Nat.mod_one]) (by simp) (Nat.le_refl _) ?_
  intro k hk
  simp
  refine CondP.dec (fun h => ?_) (fun h => ?_)
  · have hk' : k < 64 := by omega
    have e1 : IntKind.u64.wrap (k : Int) = k := by rw [IntKind.wrap_u64]; omega
    have e2 : min k IntKind.u64.bits = k := by simp only [IntKind.bits]; omega
    have e3 : (b : Int).fdiv (2 ^ k) = (b : Int) / 2 ^ k := Int.fdiv_eq_ediv_of_nonneg _ (Int.le_of_lt (Int.pow_pos (by omega)))
    have ew : IntKind.i64.wrap ((k : Int) + 1) = (k : Int) + 1 := wrap_id (by omega) (by omega)
    simp [h, aconv, e1, e2, e3]
    refine CondP.dec (fun h4 => ?_) (fun h4 => ?_)
    · have hp := prod_odd (a := a) (b := b) (k := k) (by simpa using h4)
      simp at hp
      simp [h4, aconv, e1, e2, ew, hp]
      exact endK.intro (k + 1) (show k + 1 ≤ 64 by omega) (by simp) (by repeat (first | exact Agree.mask _ _ | refine Agree.setf rfl ?_ | refine Agree.inner rfl ?_)) (AHeap.le_rfl _) (Nat.le_refl _) (show 64 - (k + 1) < 64 - k by omega)
    · have hp := prod_even (a := a) (b := b) (k := k) (by simpa using h4)
      simp at hp
      simp [h4, ew]
      exact endK.intro (k + 1) (show k + 1 ≤ 64 by omega) (by simp [hp]) (by repeat (first | exact Agree.mask _ _ | refine Agree.setf rfl ?_ | refine Agree.inner rfl ?_)) (AHeap.le_rfl _) (Nat.le_refl _) (show 64 - (k + 1) < 64 - k by omega)
  · have : k = 64 := by omega
    subst this
    simp
    refine resK.rt ⟨?_, rfl, rfl⟩
    have : ((b : Int) % 18446744073709551616) = b := by omega
    rw [this]
theorem two03_ac (op a b : Int) (η : AHeap) (m : Nat) (ha : I64 a) (hb : I64 b) (hop : 6 ≤ op ∧ op ≤ 15 ∧ op ≠ 13) : AC Try.prog 46 [.int .i64 op, .int .i64 a, .int .i64 b] η m (Rt (.tup [.int .i64 (twoF op a b).1, .int .i64 (twoF op a b).2]) η m) := by
  have hA := absI_bd a ha
  have hB := absI_bd b hb
  by_cases h6 : op = 6
  · subst h6
    have e := add_natU a b
    rw [wr64, wr64] at e
    refine AC.enter Try.func46 rfl Try.ntmps46 (by simp) ?_
    simp [aconv, e]
    exact resK.rt (by simp [Rt, twoF])
  by_cases h7 : op = 7
  · subst h7
    have e := sub_natU a b
    rw [wr64, wr64] at e
    refine AC.enter Try.func46 rfl Try.ntmps46 (by simp) ?_
    simp [aconv, e]
    exact resK.rt (by simp [Rt, twoF])
  by_cases h8 : op = 8
  · subst h8
    have e := mul_natU a b
    rw [wr64, wr64] at e
    refine AC.enter Try.func46 rfl Try.ntmps46 (by simp) ?_
    simp [aconv, natU_eq]
    refine ACK.rt (product03_ac _ _ _ _ (natU_lt a) (natU_lt b)) ?_
    simp [aconv]
    simp at e
    exact resK.rt (by simp [Rt, twoF, e])
  by_cases h9 : op = 9
  · subst h9
    by_cases hz : b = 0
    · subst hz
      refine AC.enter Try.func46 rfl Try.ntmps46 (by simp) ?_
      simp
      exact resK.rt (by simp [Rt, twoF, divF])
    · have hz2 : absI b ≠ 0 := by unfold absI; split <;> omega
      have hd : absI a / absI b ≤ 9223372036854775808 := by
        have := Int.ediv_le_self (absI b) hA.1; omega
      have hd0 : 0 ≤ absI a / absI b := Int.ediv_nonneg hA.1 hB.1
      have e1 : IntKind.u64.wrap ((absI a).tdiv (absI b)) = absI a / absI b := by
        rw [Int.tdiv_eq_ediv_of_nonneg hA.1, IntKind.wrap_u64]; omega
      have e2 := sgn_quo a b hz
      rw [wr64] at e2
      refine AC.enter Try.func46 rfl Try.ntmps46 (by simp) ?_
      simp [hz]
      refine ACK.rt (size03_ac _ _ _ ha) ?_
      simp
      refine ACK.rt (size03_ac _ _ _ hb) ?_
      simp [hz2, e1, aeqB]
      refine ACK.rt (signed03_ac _ _ _ _ hd0 (by omega)) ?_
      simp
      exact resK.rt (by simp [Rt, twoF, divF, hz, e2])
  by_cases h10 : op = 10
  · subst h10
    by_cases hz : b = 0
    · subst hz
      refine AC.enter Try.func46 rfl Try.ntmps46 (by simp) ?_
      simp
      exact resK.rt (by simp [Rt, twoF, divF])
    · have hz2 : absI b ≠ 0 := by unfold absI; split <;> omega
      have hm0 : 0 ≤ absI a % absI b := Int.emod_nonneg _ hz2
      have hm1 : absI a % absI b < absI b := Int.emod_lt_of_pos _ (by omega)
      have e1 : (absI a).tmod (absI b) = absI a % absI b := by rw [Int.tmod_eq_emod_of_nonneg hA.1]
      have e2 := sgn_rem a b hz ha
      refine AC.enter Try.func46 rfl Try.ntmps46 (by simp) ?_
      simp [hz]
      refine ACK.rt (size03_ac _ _ _ ha) ?_
      simp
      refine ACK.rt (size03_ac _ _ _ hb) ?_
      simp [hz2, e1]
      refine ACK.rt (signed03_ac _ _ _ _ hm0 (by omega)) ?_
      simp
      exact resK.rt (by simp [Rt, twoF, divF, hz, e2])
  by_cases h11 : op = 11
  · subst h11
    have t1 : bitF .xor .u64 (IntKind.u64.wrap a) 9223372036854775808 = a + 9223372036854775808 := topU_eq a ha
    have t2 : bitF .xor .u64 (IntKind.u64.wrap b) 9223372036854775808 = b + 9223372036854775808 := topU_eq b hb
    refine AC.enter Try.func46 rfl Try.ntmps46 (by simp) ?_
    simp [aconv, t1, t2]
    refine ACK.rt (truth03_ac _ _ _) ?_
    simp
    exact resK.rt (by simp [Rt, twoF])
  by_cases h12 : op = 12
  · subst h12
    have t3 := xorU_zero a b ha hb
    refine AC.enter Try.func46 rfl Try.ntmps46 (by simp) ?_
    simp [aconv]
    refine ACK.rt (truth03_ac _ _ _) ?_
    simp
    have : decide (bitF BinOp.xor IntKind.u64 (IntKind.u64.wrap a) (IntKind.u64.wrap b) = 0) = decide (a = b) := by rw [← t3]; rfl
    exact resK.rt (by simp [Rt, twoF, this])
  by_cases h14 : op = 14
  · subst h14
    refine AC.enter Try.func46 rfl Try.ntmps46 (by simp) ?_
    simp
    refine CondP.ndec (fun h => ?_) (fun h => ?_)
    · simp [h]
      refine ACK.rt (truth03_ac _ _ _) ?_
      simp
      exact resK.rt (by simp [Rt, twoF, h])
    · simp [h]
      refine ACK.rt (truth03_ac _ _ _) ?_
      simp
      exact resK.rt (by simp [Rt, twoF, h])
  · have : op = 15 := by omega
    subst this
    have ho := orB_eq ha hb
    refine AC.enter Try.func46 rfl Try.ntmps46 (by simp) ?_
    simp
    refine CondP.ndec (fun h => ?_) (fun h => ?_)
    · simp [h]
      refine ACK.rt (truth03_ac _ _ _) ?_
      simp
      exact resK.rt (by simp only [Rt, twoF]; rw [ho]; simp [h])
    · simp [h]
      refine ACK.rt (truth03_ac _ _ _) ?_
      simp
      exact resK.rt (by simp only [Rt, twoF]; rw [ho]; simp [h])
end Go.Proofs.Ytkhoelmbcmkhjaa
namespace Go.Proofs.Ytkhoelmbcmkhjaa
set_option maxRecDepth 100000

theorem tick15_ac (a : Int) (η : AHeap) (m : Nat) : AC Try.prog 68 [.int .i64 a] η m (Rt (.int .i64 (clipF a)) η m) := by
  refine AC.enter Try.func68 rfl Try.ntmps68 (by simp) ?_
  simp
  exact resK.rt (by simp [Rt, clipF])
def clauseF : List (Int × Int) → Int → Int
  | [], _ => -1
  | c :: r, tag => if c.1 = tag then c.2 else clauseF r tag
theorem clause15_ac (t : Tbl) (tag : Int) (η : AHeap) (m : Nat) (hl : t.cls.length ≤ 17592186044416) : AC Try.prog 70 [.agg (tblC t), .int .i64 tag] η m (Rt (.int .i64 (clauseF t.cls tag)) η m) := by
  refine AC.pure (.int _ _) ?_
  refine AC.fresh fun hf => ?_; refine AC.enter Try.func70 rfl Try.ntmps70 (by simp) ?_
  simp [tblC]
  refine loopK.inv [4, 5, 6, 7, 8, 9, 10, 11, 12, 13, 14, 15, 16, 17, 18, 19, 20, 21, 22, 23, 24, 25, 26] (fun k : Nat => k ≤ t.cls.length ∧ clauseF (t.cls.drop k) tag = clauseF t.cls tag) (fun k => [(5, .int .i64 k)]) (fun _ => upd η m (some (.cells 2 [tblC t]))) (fun _ => m + 1) (fun k => t.cls.length - k) 0 (by simp) (by simp) (by simp [tblC, AHeap.le]) (by simp) ?_
  intro k ⟨h1, h3⟩
  simp [aload, afield, apart, upd_eq, tblC]
  refine CondP.dec (fun h => ?_) (fun h => ?_)
  · have hd : t.cls.drop k = t.cls[k] :: t.cls.drop (k + 1) := List.drop_eq_getElem_cons h
    rw [hd, clauseF] at h3
    simp [h, aindex, aload, afield, apart, upd_eq]
    refine CondP.dec (fun h4 => ?_) (fun h4 => ?_)
    · rw [if_pos h4] at h3
      simp [h, h4, aindex, aload, afield, apart, upd_eq]
      refine resK.of (η' := η) (by simp [le_upd_iff, hf]) _ (Nat.le_refl _) ?_
      simp [← h3]
    · rw [if_neg h4] at h3
      simp [h4]
      rw [wrap_id (by omega) (by omega)]
      exact endK.intro (k + 1) ⟨by omega, h3⟩ (by simp) (by repeat (first | exact Agree.mask _ _ | refine Agree.setf rfl ?_ | refine Agree.inner rfl ?_)) (AHeap.le_rfl _) (Nat.le_refl _) (show t.cls.length - (k + 1) < t.cls.length - k by omega)
  · simp [h]
    refine resK.of (η' := η) (by simp [le_upd_iff, hf]) _ (Nat.le_refl _) ?_
    have : t.cls.drop k = [] := List.drop_eq_nil_of_le (by omega)
    rw [this, clauseF] at h3
    simp [← h3]
def foundF (cls : List (Int × Int)) : List (Int × Int) → Nat → Int
  | [], _ => -1
  | m :: r, i => if (toF cls m.1).2 = true then (i : Int) else foundF cls r (i + 1)
theorem found_match (cls : List (Int × Int)) : ∀ (box : List (Int × Int)) (i : Nat), if (matchF cls box i).2.2 = true then 0 ≤ foundF cls box i ∧ foundF cls box i = (matchF cls box i).1 ∧ i ≤ (foundF cls box i).toNat ∧ (foundF cls box i).toNat < i + box.length ∧ (matchF cls box i).2.1 = clauseF cls (box.getD ((foundF cls box i).toNat - i) (0, 0)).1 else foundF cls box i = -1
  | [], i => by simp [matchF, foundF]
  | m :: r, i => by
    have ih := found_match cls r (i + 1)
    have hc : ∀ cls : List (Int × Int), (toF cls m.1).2 = true → (toF cls m.1).1 = clauseF cls m.1 := fun cls => by
      induction cls with
      | nil => simp [toF]
      | cons c l ih => unfold toF clauseF; split <;> simp_all
    unfold matchF foundF
    by_cases h : (toF cls m.1).2 = true
    · simp [h, hc cls h]
    · simp only [h, Bool.false_eq_true, if_false]
      have e : ((i + 1 : Nat) : Int) = (i : Int) + 1 := by omega
      rw [e] at ih
      split at ih
      · rename_i h2
        rw [if_pos h2]
        obtain ⟨a1, a2, a3, a4, a5⟩ := ih
        refine ⟨a1, a2, by omega, by simp; omega, ?_⟩
        obtain ⟨j, hj⟩ : ∃ j, (foundF cls r (i + 1)).toNat - i = j + 1 := ⟨(foundF cls r (i + 1)).toNat - i - 1, by omega⟩
        have hj2 : (foundF cls r (i + 1)).toNat - (i + 1) = j := by omega
        rw [hj2] at a5
        rw [hj, a5]; rfl
      · rename_i h2
        rw [if_neg h2]; exact ih
theorem toF_drop {cls : List (Int × Int)} {tag : Int} {k : Nat} (h : k < cls.length) (hn : ¬ cls[k].1 = tag) (h2 : (toF (cls.drop k) tag).2 = (toF cls tag).2) : (toF (cls.drop (k + 1)) tag).2 = (toF cls tag).2 := by
  rw [List.drop_eq_getElem_cons h, toF, if_neg hn] at h2; exact h2
theorem found15_ac (t : Tbl) (box : List (Int × Int)) (η : AHeap) (m : Nat) (hl : t.cls.length ≤ 17592186044416) (hb : box.length ≤ 17592186044416) : AC Try.prog 69 [.agg (tblC t), .rs 2 (pairs box)] η m (Rt (.int .i64 (foundF t.cls box 0)) η m) := by
  refine AC.pure (.int _ _) ?_
  refine AC.fresh fun hf => ?_; refine AC.enter Try.func69 rfl Try.ntmps69 (by simp) ?_
  simp [tblC]
  refine loopK.inv [4, 5, 6, 7, 8, 9, 10, 11, 12, 13, 14, 15, 16, 17, 18, 19, 20, 21, 22, 23, 24, 25, 26, 27, 28, 29, 30, 31, 32] (fun k : Nat => k ≤ box.length ∧ foundF t.cls (box.drop k) k = foundF t.cls box 0) (fun k => [(5, .int .i64 k)]) (fun _ => upd η m (some (.cells 2 [tblC t]))) (fun _ => m + 1) (fun k => box.length - k) 0 (by simp) (by simp) (by simp [tblC, AHeap.le]) (by simp) ?_
  intro k ⟨h1, h3⟩
  simp
  refine CondP.dec (fun h => ?_) (fun h => ?_)
  · have hd : box.drop k = box[k] :: box.drop (k + 1) := List.drop_eq_getElem_cons h
    rw [hd, foundF] at h3
    simp [h]
    refine loopK.inv [4, 6, 13, 14, 15, 16, 17, 18, 19, 20, 21, 22, 23, 24, 25, 26, 27, 28, 29, 30, 31, 32] (fun j : Nat => j ≤ t.cls.length ∧ (toF (t.cls.drop j) box[k].1).2 = (toF t.cls box[k].1).2) (fun j => [(6, .int .i64 j)]) (fun _ => upd η m (some (.cells 2 [tblC t]))) (fun _ => m + 1) (fun j => t.cls.length - j) 0 (by simp) (by simp) (by simp [tblC, AHeap.le]) (by simp) ?_
    intro j ⟨g1, g3⟩
    simp [aload, afield, apart, upd_eq, tblC]
    refine CondP.dec (fun g => ?_) (fun g => ?_)
    · simp [g]
      refine drawK.intro mixed [(0, []), (1, []), (2, []), (3, []), (4, []), (5, []), (6, []), (7, []), (8, []), (9, []), (10, []), (11, [])] (by kernel_rfl) ?_
      simp [h, g, aindex, aload, afield, apart, upd_eq]
      refine CondP.dec (fun g4 => ?_) (fun g4 => ?_)
      · have e : (toF t.cls box[k].1).2 = true := by
          rw [← g3, List.drop_eq_getElem_cons g, toF, if_pos g4]
        rw [if_pos e] at h3
        simp [g4]
        refine resK.of (η' := η) (by simp [le_upd_iff, hf]) _ (Nat.le_refl _) ?_
        simp [← h3]
      · simp [g4]
        rw [wrap_id (by omega) (by omega)]
        exact endK.intro (j + 1) ⟨by omega, toF_drop g g4 g3⟩ (by simp) (by repeat (first | exact Agree.mask _ _ | refine Agree.setf rfl ?_ | refine Agree.inner rfl ?_)) (AHeap.le_rfl _) (Nat.le_refl _) (show t.cls.length - (j + 1) < t.cls.length - j by omega)
    · have e : (toF t.cls box[k].1).2 = false := by
        rw [← g3, List.drop_eq_nil_of_le (by omega)]; rfl
      rw [if_neg (by simp [e])] at h3
      simp [g]
      rw [wrap_id (by omega) (by omega)]
      exact endK.intro (k + 1) ⟨by omega, h3⟩ (by simp) (by repeat (first | exact Agree.mask _ _ | refine Agree.setf rfl ?_ | refine Agree.inner rfl ?_)) (AHeap.le_rfl _) (Nat.le_refl _) (show box.length - (k + 1) < box.length - k by omega)
  · simp [h]
    refine resK.of (η' := η) (by simp [le_upd_iff, hf]) _ (Nat.le_refl _) ?_
    have : box.drop k = [] := List.drop_eq_nil_of_le (by omega)
    rw [this, foundF] at h3
    simp [← h3]
def cntF (m : List Actr) (a : Actr) (op : Int) : Int := if op = 4 ∨ op = 5 then a.regs.length else if op = 19 then m.length else if op = 21 then a.tabs.length else -1
theorem count15_ac (m : List Actr) (a : Actr) (op : Int) (η : AHeap) (n : Nat) : AC Try.prog 41 [modV m, .agg (actC a), .int .i64 op] η n (Rt (.int .i64 (cntF m a op)) η n) := by
  refine AC.pure (.int _ _) ?_
  refine AC.fresh fun hf => ?_; refine AC.enter Try.func41 rfl Try.ntmps41 (by simp) ?_
  have le2 : ∀ o o', η.le (upd (upd η n o) (n + 1) o') := fun o o' => le_upd (le_upd (AHeap.le_rfl _) (hf n (Nat.le_refl _))) (hf _ (by omega))
  simp [modV, actC]
  repeat' (refine CondP.dec (fun h => ?_) (fun h => ?_) <;> simp [h, aload, afield, apart, upd_eq, upd_ne])
  all_goals exact resK.of (η' := η) (le2 _ _) _ (Nat.le_refl _) ⟨by simp [cntF, *], rfl⟩
def isOne (op : Int) : Prop := op = 5 ∨ op = 13 ∨ op = 17 ∨ op = 22 ∨ op = 23 ∨ op = 24 ∨ op = 25 ∨ op = 26
instance (op : Int) : Decidable (isOne op) := by unfold isOne; infer_instance
def isBin (op : Int) : Prop := (6 ≤ op ∧ op ≤ 12) ∨ op = 14 ∨ op = 15 ∨ op = 20
instance (op : Int) : Decidable (isBin op) := by unfold isBin; infer_instance
def tkF (m : List Actr) (s : Sta) (i : Int × Int) : Nat := if isOne i.1 then 1 else if isBin i.1 then 2 else if i.1 = 19 then (actr m i.2).params.length else if i.1 = 21 ∧ s.waiting = false ∧ 0 ≤ (tbl (actr m s.actor) i.2).tmo then 1 else 0
def ptF (op : Int) : Nat := if op = 1 ∨ op = 2 ∨ op = 3 ∨ op = 4 ∨ op = 13 ∨ op = 18 ∨ (6 ≤ op ∧ op ≤ 12) ∨ op = 14 ∨ op = 15 then 1 else if op = 26 then 2 else 0
theorem puts15_ac (i : Int × Int) (η : AHeap) (n : Nat) : AC Try.prog 43 [.agg [.int .i64 i.1, .int .i64 i.2]] η n (Rt (.int .i64 (ptF i.1)) η n) := by
  obtain ⟨op, a⟩ := i
  refine AC.pure (.int _ _) ?_
  refine AC.fresh fun hf => ?_; refine AC.enter Try.func43 rfl Try.ntmps43 (by simp) ?_
  have le1 : ∀ o, η.le (upd η n o) := fun o => le_upd (AHeap.le_rfl _) (hf n (Nat.le_refl _))
  simp [aload, afield, apart, upd_eq]
  repeat' (refine CondP.dec (fun h => ?_) (fun h => ?_) <;> simp [h])
  all_goals refine resK.of (η' := η) (le1 _) _ (Nat.le_refl _) ⟨?_, rfl⟩
  all_goals first | (simp [ptF, *]; done) | skip
  all_goals (have e : ptF op = 0 := (by unfold ptF; rw [if_neg (by omega), if_neg (by omega)]); simp [e])
end Go.Proofs.Ytkhoelmbcmkhjaa
namespace Go.Proofs.Ytkhoelmbcmkhjaa
set_option maxRecDepth 100000

theorem takes15_ac (m : List Actr) (s : Sta) (i : Int × Int) (η : AHeap) (n : Nat) {sv rv : AVal} {η0 : AHeap} (k1 : IsL η0 sv s.stack) (k2 : IsL η0 rv s.regs) (h19 : i.1 = 19 → 0 ≤ i.2 ∧ i.2 < m.length) (h21 : i.1 = 21 → 0 ≤ s.actor ∧ s.actor < m.length ∧ 0 ≤ i.2 ∧ i.2 < (actr m s.actor).tabs.length) :
    AC Try.prog 42 [modV m, .agg (stC s sv rv), .agg [.int .i64 i.1, .int .i64 i.2]] η n (Rt (.int .i64 (tkF m s i)) η n) := by
  obtain ⟨op, a⟩ := i
  simp only at h19 h21
  refine AC.pure (.int _ _) ?_
  have zs1 := k1.sc
  have zs2 := k2.sc
  have zd1 := k1.ac
  have zd2 := k2.ac
  by_cases c19 : op = 19
  · obtain ⟨a0, a1⟩ := h19 c19
    obtain ⟨j, rfl⟩ : ∃ j : Nat, a = j := ⟨a.toNat, by omega⟩
    have hj : j < m.length := by omega
    have ea : actr m (j : Int) = m[j] := by simp [actr, List.getD_eq_getElem?_getD, hj]
    subst c19
    refine AC.fresh fun hf => ?_; refine AC.enter Try.func42 rfl Try.ntmps42 (by simp) ?_
    simp [modV, stC, aload, afield, apart, upd_apply, zs1, zs2, Nat.add_assoc, aindex, hj, actC]
    exact resK.of (η' := η) (le_old hf fun r hr => by simp only [upd_apply]; repeat rw [if_neg (by omega)]) _ (Nat.le_refl _) ⟨by simp [tkF, isOne, isBin, ea], rfl⟩
  by_cases c21 : op = 21
  · obtain ⟨b0, b1, a0, a1⟩ := h21 c21
    obtain ⟨sa, sp, ss, sr, sw, su⟩ := s
    simp only at b0 b1 a0 a1 k1 k2
    obtain ⟨j, rfl⟩ : ∃ j : Nat, a = j := ⟨a.toNat, by omega⟩
    obtain ⟨k, rfl⟩ : ∃ k : Nat, sa = k := ⟨sa.toNat, by omega⟩
    have hk : k < m.length := by omega
    have ea : actr m (k : Int) = m[k] := by simp [actr, List.getD_eq_getElem?_getD, hk]
    rw [ea] at a1
    have hj : j < m[k].tabs.length := by omega
    have et : tbl m[k] (j : Int) = m[k].tabs[j] := by simp [tbl, List.getD_eq_getElem?_getD, hj]
    have et2 : tkF m ⟨k, sp, ss, sr, sw, su⟩ (21, j) = if sw = false ∧ 0 ≤ m[k].tabs[j].tmo then 1 else 0 := by simp [tkF, isOne, isBin, ea, et]
    subst c21
    cases sw
    · refine AC.fresh fun hf => ?_; refine AC.enter Try.func42 rfl Try.ntmps42 (by simp) ?_
      simp [modV, stC, aload, afield, apart, upd_apply, zs1, zs2, Nat.add_assoc]
      refine drawK.intro mixed [(0, []), (1, []), (2, []), (3, []), (4, []), (5, []), (6, []), (7, []), (8, []), (9, []), (10, []), (11, []), (12, []), (13, []), (14, []), (15, []), (16, []), (17, [])] (by kernel_rfl) ?_
      simp [aload, afield, apart, upd_apply, aindex, hk, hj, actC, tblC]
      refine CondP.dec (fun h => ?_) (fun h => ?_)
      · simp [h]
        exact resK.of (η' := η) (le_old hf fun r hr => by simp only [upd_apply]; repeat rw [if_neg (by omega)]) _ (Nat.le_refl _) ⟨by rw [et2]; simp [h], rfl⟩
      · simp [h]
        exact resK.of (η' := η) (le_old hf fun r hr => by simp only [upd_apply]; repeat rw [if_neg (by omega)]) _ (Nat.le_refl _) ⟨by rw [et2]; simp [h], rfl⟩
    · refine AC.fresh fun hf => ?_; refine AC.enter Try.func42 rfl Try.ntmps42 (by simp) ?_
      simp [modV, stC, aload, afield, apart, upd_apply, zs1, zs2, Nat.add_assoc]
      refine drawK.intro mixed [(0, []), (1, []), (2, []), (3, []), (4, []), (5, []), (6, []), (7, []), (8, []), (9, []), (10, []), (11, []), (12, []), (13, []), (14, []), (15, []), (16, []), (17, [])] (by kernel_rfl) ?_
      simp [aload, afield, apart, upd_apply]
      exact resK.of (η' := η) (le_old hf fun r hr => by simp only [upd_apply]; repeat rw [if_neg (by omega)]) _ (Nat.le_refl _) ⟨by rw [et2]; simp, rfl⟩
  · refine AC.fresh fun hf => ?_; refine AC.enter Try.func42 rfl Try.ntmps42 (by simp) ?_
    simp [modV, stC, aload, afield, apart, upd_apply, zs1, zs2, Nat.add_assoc]
    repeat' (refine CondP.dec (fun h => ?_) (fun h => ?_) <;> simp [h, c19, c21])
    all_goals refine resK.of (η' := η) (le_old hf fun r hr => by simp only [upd_apply]; repeat rw [if_neg (by omega)]) _ (Nat.le_refl _) ⟨?_, rfl⟩
    all_goals first | (simp [tkF, isOne, isBin, *]; done) | skip
    all_goals (unfold tkF; rw [if_neg (by simp only [isOne]; omega), if_neg (by simp only [isBin]; omega), if_neg c19, if_neg (fun h => c21 h.1)]; rfl)
theorem copied15_ac {η : AHeap} {n : Nat} {s : Sta} {sv rv : AVal} (h1 : IsL η sv s.stack) (h2 : IsL η rv s.regs) (hl1 : s.stack.length ≤ 17592186044416) (hl2 : s.regs.length ≤ 17592186044416) : AC Try.prog 15 [.agg (stC s sv rv)] η n (NewS η n s) := by
  have s1 := h1.sc
  have s2 := h2.sc
  have d1 := h1.ac
  have d2 := h2.ac
  refine AC.fresh fun hf => ?_; refine AC.enter Try.func15 rfl Try.ntmps15 (by simp) ?_
  have r1 : ∀ o1 o2, arows 1 sv (upd (upd η n o1) (n + 1) o2) = some (ints s.stack) := fun o1 o2 => (h1.keep hf fun r hr => by simp only [upd_apply]; repeat rw [if_neg (by omega)]).rows
  have r2 : ∀ o1 o2 o3, arows 1 rv (upd (upd (upd η n o1) (n + 1) o2) (n + 2) o3) = some (ints s.regs) := fun o1 o2 o3 => (h2.keep hf fun r hr => by simp only [upd_apply]; repeat rw [if_neg (by omega)]).rows
  have b1 : s.stack.length * 8 ≤ 140737488355328 := by omega
  have b2 : s.regs.length * 8 ≤ 140737488355328 := by omega
  simp [stC, s1, s2, Nat.add_assoc]
  refine drawK.intro mixed [(0, []), (1, []), (2, []), (3, []), (4, []), (5, []), (7, []), (8, []), (10, []), (11, []), (12, []), (13, []), (6, [1, 3, 8, 11, 13]), (9, [1, 3, 11, 13]), (14, []), (15, [])] (by kernel_rfl) ?_
  simp [aload, afield, apart, upd_apply, appK, aappend, lenMax, r1, r2, b1, b2, hl1, hl2, lk_some, chkK, abuild, aplace, afillP, astore, Nat.add_assoc]
  refine ⟨ints_sc, ints_sc, ?_⟩
  exact resK.rt ⟨n + 2, n + 3, rfl, by simp [upd_apply], by simp [upd_apply], by omega, by omega, by omega, by omega, by omega, fun r hr => by simp only [upd_apply]; repeat rw [if_neg (by omega)]⟩
def sameS (s t : Sta) : Bool := decide (s.actor = t.actor ∧ s.pc = t.pc ∧ s.waiting = t.waiting ∧ s.till = t.till ∧ s.stack = t.stack ∧ s.regs = t.regs)
theorem sameS_eq (s t : Sta) : sameS s t = true ↔ s = t := by
  obtain ⟨⟩ := s; obtain ⟨⟩ := t
  simp only [sameS, decide_eq_true_eq, Sta.mk.injEq]
  constructor <;> (rintro ⟨h1, h2, h3, h4, h5, h6⟩; exact ⟨h1, h2, by assumption, by assumption, by assumption, by assumption⟩)
theorem same15_ac {η : AHeap} {n : Nat} {s t : Sta} {sv rv tv uv : AVal} (h1 : IsL η sv s.stack) (h2 : IsL η rv s.regs) (h3 : IsL η tv t.stack) (h4 : IsL η uv t.regs) (hl1 : s.stack.length ≤ 17592186044416) (hl2 : s.regs.length ≤ 17592186044416) :
    AC Try.prog 17 [.agg (stC s sv rv), .agg (stC t tv uv)] η n (Rt (.bool (sameS s t)) η n) := by
  refine AC.pure (.bool _) ?_
  have s1 := h1.sc
  have s2 := h2.sc
  have s3 := h3.sc
  have s4 := h4.sc
  have d1 := h1.ac
  have d2 := h2.ac
  have d3 := h3.ac
  have d4 := h4.ac
  refine AC.fresh fun hf => ?_; refine AC.enter Try.func17 rfl Try.ntmps17 (by simp) ?_
  have fin : ∀ o1 o2, η.le (upd (upd η n o1) (n + 1) o2) := fun _ _ => le_old hf fun r hr => by simp only [upd_apply]; repeat rw [if_neg (by omega)]
  have kp : ∀ {v l}, IsL η v l → ∀ o1 o2, IsL (upd (upd η n o1) (n + 1) o2) v l := fun h o1 o2 => h.keep hf fun r hr => by simp only [upd_apply]; repeat rw [if_neg (by omega)]
  simp [stC, aload, afield, apart, upd_apply, s1, s2, s3, s4, Nat.add_assoc]
  refine CondP.dec (fun c1 => ?_) (fun c1 => ?_)
  rotate_left
  · simp [c1]
    exact resK.of (η' := η) (fin _ _) _ (Nat.le_refl _) ⟨by simp [sameS, c1], rfl⟩
  simp [c1, aload, afield, apart, upd_apply]
  refine CondP.dec (fun c2 => ?_) (fun c2 => ?_)
  rotate_left
  · simp [c2]
    exact resK.of (η' := η) (fin _ _) _ (Nat.le_refl _) ⟨by simp [sameS, c2], rfl⟩
  simp [c2, aload, afield, apart, upd_apply]
  by_cases c3 : s.waiting = t.waiting
  rotate_left
  · have : (s.waiting == t.waiting) = false := by simpa using c3
    simp [aeqB, this]
    exact resK.of (η' := η) (fin _ _) _ (Nat.le_refl _) ⟨by simp [sameS, c3], rfl⟩
  simp [c3, aeqB, aload, afield, apart, upd_apply]
  refine CondP.dec (fun c4 => ?_) (fun c4 => ?_)
  rotate_left
  · simp [c4]
    exact resK.of (η' := η) (fin _ _) _ (Nat.le_refl _) ⟨by simp [sameS, c4], rfl⟩
  simp [c4, aload, afield, apart, upd_apply]
  refine ACK.rt (sameLongs_ac (kp h1 _ _) (kp h3 _ _) hl1) ?_
  by_cases c5 : s.stack = t.stack
  rotate_left
  · simp [c5]
    exact resK.of (η' := η) (fin _ _) _ (Nat.le_refl _) ⟨by simp [sameS, c5], rfl⟩
  simp [c5, aload, afield, apart, upd_apply]
  refine ACK.rt (sameLongs_ac (kp h2 _ _) (kp h4 _ _) hl2) ?_
  simp
  exact resK.of (η' := η) (fin _ _) _ (Nat.le_refl _) ⟨by simp [sameS, c1, c2, c3, c4, c5], rfl⟩
def sameE (a b : Eff) : Bool := decide (a.kind = b.kind ∧ a.dest = b.dest ∧ (a.msg.1 = b.msg.1 ∧ a.msg.2 = b.msg.2) ∧ a.actor = b.actor ∧ a.n = b.n ∧ (a.reason.1 = b.reason.1 ∧ a.reason.2 = b.reason.2) ∧ a.taken = b.taken ∧ a.args = b.args)
theorem sameE_rfl (a : Eff) : sameE a a = true := by simp [sameE]
theorem sameE15_ac {η : AHeap} {n : Nat} {a b : Eff} {av bv : AVal} (h1 : IsL η av a.args) (h2 : IsL η bv b.args) (hl1 : a.args.length ≤ 17592186044416) :
    AC Try.prog 20 [.agg (effC a av), .agg (effC b bv)] η n (Rt (.bool (sameE a b)) η n) := by
  refine AC.pure (.bool _) ?_
  have s1 := h1.sc
  have s2 := h2.sc
  have d1 := h1.ac
  have d2 := h2.ac
  obtain ⟨ak, ad, ⟨am1, am2⟩, aa, aar, an, ⟨ar1, ar2⟩, at'⟩ := a
  obtain ⟨bk, bd, ⟨bm1, bm2⟩, ba, bar, bn, ⟨br1, br2⟩, bt⟩ := b
  simp only at h1 h2 hl1
  refine AC.fresh fun hf => ?_; refine AC.enter Try.func20 rfl Try.ntmps20 (by simp) ?_
  have fin : ∀ o1 o2, η.le (upd (upd η n o1) (n + 1) o2) := fun _ _ => le_old hf fun r hr => by simp only [upd_apply]; repeat rw [if_neg (by omega)]
  have kp : ∀ {v l}, IsL η v l → ∀ o1 o2, IsL (upd (upd η n o1) (n + 1) o2) v l := fun h o1 o2 => h.keep hf fun r hr => by simp only [upd_apply]; repeat rw [if_neg (by omega)]
  simp [effC, aload, afield, apart, upd_apply, s1, s2, Nat.add_assoc]
  refine CondP.dec (fun c1 => ?_) (fun c1 => ?_)
  rotate_left
  · simp [c1]
    exact resK.of (η' := η) (fin _ _) _ (Nat.le_refl _) ⟨by simp [sameE, c1], rfl⟩
  simp [c1, aload, afield, apart, upd_apply]
  refine CondP.dec (fun c2 => ?_) (fun c2 => ?_)
  rotate_left
  · simp [c2]
    exact resK.of (η' := η) (fin _ _) _ (Nat.le_refl _) ⟨by simp [sameE, c2], rfl⟩
  simp [c2, aload, afield, apart, upd_apply, aeqS2 fields_msg]
  refine CondP.intro (fun c3 => ?_) (fun c3 => ?_)
  rotate_left
  · have nc3 : ¬ (am1 = bm1 ∧ am2 = bm2) := by simpa using c3
    simp [c3]
    exact resK.of (η' := η) (fin _ _) _ (Nat.le_refl _) ⟨by simp [sameE]; intros; exact absurd ⟨by assumption, by assumption⟩ nc3, rfl⟩
  have c3 : am1 = bm1 ∧ am2 = bm2 := by simpa using c3
  simp [c3.1, c3.2, aload, afield, apart, upd_apply]
  refine CondP.dec (fun c4 => ?_) (fun c4 => ?_)
  rotate_left
  · simp [c4]
    exact resK.of (η' := η) (fin _ _) _ (Nat.le_refl _) ⟨by simp [sameE, c4], rfl⟩
  simp [c4, aload, afield, apart, upd_apply]
  refine CondP.dec (fun c5 => ?_) (fun c5 => ?_)
  rotate_left
  · simp [c5]
    exact resK.of (η' := η) (fin _ _) _ (Nat.le_refl _) ⟨by simp [sameE, c5], rfl⟩
  simp [c5, aload, afield, apart, upd_apply, aeqS2 fields_reason]
  refine CondP.intro (fun c6 => ?_) (fun c6 => ?_)
  rotate_left
  · have nc6 : ¬ (ar1 = br1 ∧ ar2 = br2) := by simpa using c6
    simp [c6]
    exact resK.of (η' := η) (fin _ _) _ (Nat.le_refl _) ⟨by simp [sameE]; intros; exact absurd ⟨by assumption, by assumption⟩ nc6, rfl⟩
  have c6 : ar1 = br1 ∧ ar2 = br2 := by simpa using c6
  simp [c6.1, c6.2, aload, afield, apart, upd_apply]
  refine CondP.dec (fun c7 => ?_) (fun c7 => ?_)
  rotate_left
  · simp [c7]
    exact resK.of (η' := η) (fin _ _) _ (Nat.le_refl _) ⟨by simp [sameE, c7], rfl⟩
  simp [c7, aload, afield, apart, upd_apply]
  refine ACK.rt (sameLongs_ac (kp h1 _ _) (kp h2 _ _) hl1) ?_
  simp
  exact resK.of (η' := η) (fin _ _) _ (Nat.le_refl _) ⟨by simp [sameE, c1, c2, c3, c4, c5, c6, c7], rfl⟩
theorem drop_ne {α : Type} {a b : List α} (hn : a.length = b.length) {k : Nat} (h : k < a.length) : (a.drop k = b.drop k) ↔ (a[k] = b[k]'(hn ▸ h) ∧ a.drop (k + 1) = b.drop (k + 1)) := by
  rw [List.drop_eq_getElem_cons h, List.drop_eq_getElem_cons (hn ▸ h : k < b.length), List.cons.injEq]
theorem same13_ac {η : AHeap} {n : Nat} (a b : List (Int × Int)) (hl : a.length ≤ 17592186044416) : AC Try.prog 18 [.rs 2 (pairs a), .rs 2 (pairs b)] η n (Rt (.bool (decide (a = b))) η n) := by
  by_cases hn : a.length = b.length
  rotate_left
  · have : ¬ a = b := fun e => hn (by rw [e])
    have hn' : ¬ (a.length : Int) = b.length := by omega
    refine AC.enter Try.func18 rfl Try.ntmps18 (by simp) ?_
    simp [hn']
    refine resK.rt ⟨?_, rfl, rfl⟩
    simp [this]
  refine AC.enter Try.func18 rfl Try.ntmps18 (by simp) ?_
  simp [hn]
  refine loopK.inv [4, 5, 11, 12, 13, 14, 15, 16, 17, 18, 19, 20, 21, 22, 23, 24, 25] (fun k : Nat => k ≤ b.length ∧ (a.drop k = b.drop k ↔ a = b)) (fun k => [(5, .int .i64 k)]) (fun _ => η) (fun _ => n) (fun k => b.length - k) 0 (by simp) (by simp) (by simp) (by simp) ?_
  intro k ⟨g1, g2⟩
  simp [hn]
  refine CondP.dec (fun h => ?_) (fun h => ?_)
  · have ha : k < a.length := by omega
    have hd := drop_ne hn ha
    simp [h]
    refine drawK.intro mixed [(0, []), (1, []), (2, []), (3, []), (4, []), (5, []), (6, []), (7, []), (8, [])] (by kernel_rfl) ?_
    simp [aindex, aload, apart, ha, h, aeqS2 fields_msg]
    refine CondP.intro (fun h4 => ?_) (fun h4 => ?_)
    rotate_left
    · have h4 : a[k].1 = b[k].1 ∧ a[k].2 = b[k].2 := by simpa using h4
      have h5 : a[k] = b[k] := Prod.ext h4.1 h4.2
      simp [h4.1, h4.2]
      rw [wrap_id (by omega) (by omega)]
      exact endK.intro (k + 1) ⟨by omega, by rw [← g2, hd]; simp [h5]⟩ (by simp) (by repeat (first | exact Agree.mask _ _ | refine Agree.setf rfl ?_ | refine Agree.inner rfl ?_)) (AHeap.le_rfl _) (Nat.le_refl _) (show b.length - (k + 1) < b.length - k by omega)
    · have h5 : ¬ a = b := fun e => by
        have := (hd.1 (g2.2 e)).1
        simp [this] at h4
      simp [h4]
      exact resK.rt ⟨by simp [h5], rfl, rfl⟩
  · simp [h]
    refine resK.rt ⟨?_, rfl, rfl⟩
    have : a = b := g2.1 (by rw [List.drop_eq_nil_of_le (by omega), List.drop_eq_nil_of_le (by omega)])
    simp [this]
end Go.Proofs.Ytkhoelmbcmkhjaa
namespace Go.Proofs.Ytkhoelmbcmkhjaa
set_option maxRecDepth 100000

/-- what a receive comes to, of a state whose ticks were taken -/
def clk15 (t : Tbl) (s : Sta) (n now : Int) : Int := if s.waiting = true then s.till else if 0 ≤ t.tmo then clipF (clipF now + clipF n) else -1
def recv15 (t : Tbl) (s : Sta) (n now : Int) (box : List (Int × Int)) : Sta × Eff × Int :=
  if 0 ≤ foundF t.cls box 0 then
    (if 16 ≤ s.stack.length then (sta0, eff0, 12)
    else (⟨s.actor, clauseF t.cls (box.getD (foundF t.cls box 0).toNat (0, 0)).1, s.stack ++ [(box.getD (foundF t.cls box 0).toNat (0, 0)).2], s.regs, false, -1⟩, { eff0 with taken := foundF t.cls box 0 }, 0))
  else if dueF (clk15 t s n now) now = true then (⟨s.actor, t.tmo, s.stack, s.regs, false, -1⟩, { eff0 with taken := -1 }, 0)
  else (⟨s.actor, s.pc, s.stack, s.regs, true, clk15 t s n now⟩, { eff0 with kind := 6, n := clk15 t s n now, taken := -1 }, 0)
theorem stepF_go {m : List Actr} {self : Int} {s : Sta} {now : Int} {box : List (Int × Int)} {A : Actr} {i : Int × Int} (h : soundF m s = true) (hA : actr m s.actor = A) (hi : ins A s.pc = i) :
    stepF m self s now box = stepG ⟨m, A, i.1, i.2, self, now, box⟩ ⟨⟨s.actor, IntKind.i64.wrap (s.pc + 1), s.stack, s.regs, s.waiting, s.till⟩, { eff0 with taken := -1 }, 0⟩ := by
  unfold stepF wc0 wx0 Wx.setpc
  rw [if_pos h, hA, hi]
theorem gets_eq {z : Wx} {t : Tbl} {now : Int} {box : List (Int × Int)} (h0 : z.err = 0) (he : z.eff = { eff0 with taken := -1 }) : stepEnd (z.gets t now box) =
    if 0 ≤ foundF t.cls box 0 then
      (if 16 ≤ z.s.stack.length then (sta0, eff0, 12)
      else (⟨z.s.actor, clauseF t.cls (box.getD (foundF t.cls box 0).toNat (0, 0)).1, z.s.stack ++ [(box.getD (foundF t.cls box 0).toNat (0, 0)).2], z.s.regs, false, -1⟩, { eff0 with taken := foundF t.cls box 0 }, 0))
    else if dueF z.s.till now = true then (⟨z.s.actor, t.tmo, z.s.stack, z.s.regs, false, -1⟩, { eff0 with taken := -1 }, 0)
    else (⟨z.s.actor, z.s.pc, z.s.stack, z.s.regs, true, z.s.till⟩, { eff0 with kind := 6, n := z.s.till, taken := -1 }, 0) := by
  have hf := found_match t.cls box 0
  rw [show ((0 : Nat) : Int) = 0 from rfl] at hf
  unfold Wx.gets
  by_cases hm : (matchF t.cls box 0).2.2 = true
  · rw [if_pos hm] at hf
    obtain ⟨f1, f2, _, _, f5⟩ := hf
    rw [Nat.sub_zero] at f5
    rw [if_pos hm, if_pos f1]
    unfold Wx.took Wx.push
    by_cases hl : 16 ≤ z.s.stack.length
    · rw [if_pos hl, if_pos hl]
      simp [Wx.goes, Wx.fail, h0, stepEnd]
    · rw [if_neg hl, if_neg hl]
      simp [Wx.goes, h0, stepEnd, he, f2, f5]
  · rw [if_neg hm] at hf
    rw [if_neg hm, hf, if_neg (show ¬ (0 : Int) ≤ -1 by decide)]
    by_cases hd : dueF z.s.till now = true
    · rw [if_pos hd, if_pos hd]
      simp [Wx.goes, h0, stepEnd, he]
    · rw [if_neg hd, if_neg hd]
      simp [Wx.waits, h0, stepEnd, he]
theorem stepG_21 {m : List Actr} {A : Actr} {a self now : Int} {box : List (Int × Int)} {sa pc su : Int} {st args sr : List Int} {sw : Bool} (h : 0 ≤ a ∧ a < A.tabs.length) (ha : args.length = if sw = false ∧ 0 ≤ (tbl A a).tmo then 1 else 0) :
    stepG ⟨m, A, 21, a, self, now, box⟩ ⟨⟨sa, pc, st ++ args, sr, sw, su⟩, { eff0 with taken := -1 }, 0⟩ = recv15 (tbl A a) ⟨sa, IntKind.i64.wrap (pc - 1), st, sr, sw, su⟩ (args.headD 0) now box := by
  have et : A.tabs.getD a.toNat noTbl = tbl A a := rfl
  unfold stepG
  rw [if_neg (by simp [isTwo])]
  simp only [deedOf, deedL, workF]
  simp
  rw [Wx.recv, if_pos h, et]
  unfold Wx.clock Wx.stays
  cases sw
  · rw [if_neg (by simp)]
    by_cases ht : 0 ≤ (tbl A a).tmo
    · rw [if_pos ⟨rfl, ht⟩] at ha
      obtain ⟨x, rfl⟩ := List.length_eq_one_iff.1 ha
      rw [if_pos ht, gets_eq (by simp [Wx.till, Wx.pop]) (by simp [Wx.till, Wx.pop])]
      simp [recv15, clk15, ht, Wx.till, Wx.pop, Wx.top]
    · rw [if_neg (fun h => ht h.2)] at ha
      have := List.length_eq_zero_iff.1 ha
      subst this
      rw [if_neg ht, gets_eq (by simp [Wx.till]) (by simp [Wx.till])]
      simp [recv15, clk15, ht, Wx.till]
  · rw [if_neg (by simp)] at ha
    have := List.length_eq_zero_iff.1 ha
    subst this
    rw [if_pos rfl, gets_eq rfl rfl]
    simp [recv15, clk15]
theorem foundF_bd (cls : List (Int × Int)) (box : List (Int × Int)) : foundF cls box 0 = -1 ∨ ∃ k : Nat, foundF cls box 0 = k ∧ k < box.length := by
  have h := found_match cls box 0
  split at h
  · obtain ⟨a1, _, _, a4, _⟩ := h
    exact Or.inr ⟨(foundF cls box 0).toNat, by omega, by omega⟩
  · exact Or.inl h
/-- a state and an effect, their lists from n on -/
def StepF (n : Nat) (s : Sta) (e : Eff) (err : Int) : AVal → AHeap → Nat → Prop := fun r η' _ => ∃ sv rv av, r = .tup [.agg (stC s sv rv), .agg (effC e av), .int .i64 err] ∧ FL n η' sv s.stack ∧ FL n η' rv s.regs ∧ FL n η' av e.args
theorem FL.nil' (n : Nat) (η : AHeap) : FL n η .nils [] := Or.inr (Or.inl ⟨rfl, rfl⟩)
theorem clip_add (a b : Int) : IntKind.i64.wrap (clipF a + clipF b) = clipF a + clipF b := wrap_id (by unfold clipF; omega) (by unfold clipF; omega)
theorem recv15_ac (t : Tbl) (s : Sta) (n now : Int) (box : List (Int × Int)) (η : AHeap) (N m q u : Nat) (J : List Int) (hq : η q = some (.cells 1 (ints (s.stack ++ J)))) (hu : η u = some (.cells 1 (ints s.regs))) (hqu : q ≠ u) (hN : N ≤ m) (hNq : N ≤ q) (hNu : N ≤ u) (hl : t.cls.length ≤ 17592186044416) (hb : box.length ≤ 17592186044416) (hs : s.stack.length ≤ 16) :
    AC Try.prog 45 [.agg (tblC t), .agg (stC s (.sl q 0 s.stack.length) (.sl u 0 s.regs.length)), .int .i64 n, .int .i64 now, .rs 2 (pairs box)] η m (fun r η' n' => StepF N (recv15 t s n now box).1 (recv15 t s n now box).2.1 (recv15 t s n now box).2.2 r η' n' ∧ m ≤ n' ∧ ∀ r, r < m → r ≠ q → η' r = η r) := by
  have hfn := fun η n => found15_ac t box η n hl hb
  have hcl := fun tag η n => clause15_ac t tag η n hl
  simp only [tblC] at hfn hcl
  have hfb := foundF_bd t.cls box
  obtain ⟨sa, sp, ss, sr, sw, su⟩ := s
  simp only at hq hu hs
  have b1 : ss.length < 16 → (ss.length + 1) * 8 ≤ 140737488355328 := fun h => by omega
  have b2 : ss.length ≤ 17592186044415 := by omega
  have et : List.take ss.length (ints (ss ++ J)) = ints ss := by rw [show ints (ss ++ J) = ints ss ++ ints J by simp [ints]]; exact List.take_left' (by simp)
  refine AC.fresh fun hf => ?_
  have hqm : q < m := by
    rcases Nat.lt_or_ge q m with h | h
    · exact h
    · rw [hf q h] at hq; cases hq
  have hum : u < m := by
    rcases Nat.lt_or_ge u m with h | h
    · exact h
    · rw [hf u h] at hu; cases hu
  have hq1 : q ≠ m := by omega
  have hq2 : q ≠ m + 1 := by omega
  have hq3 : q ≠ m + 2 := by omega
  have hq4 : q ≠ m + 3 := by omega
  have hq5 : q ≠ m + 4 := by omega
  have hr2 : ¬ m + 1 = q := by omega
  have hr3 : ¬ m = q := by omega
  have hr4 : ¬ m + 2 = q := by omega
  have hr5 : ¬ m + 3 = q := by omega
  have hu1 : u ≠ m := by omega
  have hu2 : u ≠ m + 1 := by omega
  have hu3 : u ≠ m + 2 := by omega
  have hu4 : u ≠ m + 3 := by omega
  have hu5 : u ≠ m + 4 := by omega
  have hu6 : u ≠ m + 5 := by omega
  have hq6 : q ≠ m + 5 := by omega
  have huq : u ≠ q := fun e => hqu e.symm
  cases sw
  · by_cases ht : 0 ≤ t.tmo
    · refine AC.enter Try.func45 rfl Try.ntmps45 (by simp) ?_
      simp [stC, tblC, aload, afield, apart, upd_apply, Nat.add_assoc, astore, ht]
      refine ACK.rt (tick15_ac _ _ _) ?_
      simp
      refine ACK.rt (tick15_ac _ _ _) ?_
      simp [clip_add]
      refine ACK.rt (tick15_ac _ _ _) ?_
      simp [aload, afield, apart, upd_apply, astore, upd_upd]
      refine ACK.rt (hfn _ _) ?_
      simp
      have ek0 : clk15 t ⟨sa, sp, ss, sr, false, su⟩ n now = clipF (clipF now + clipF n) := by simp [clk15, ht]
      refine CondP.dec (fun c1 => ?_) (fun c1 => ?_)
      · obtain ⟨k, ek, hk⟩ : ∃ k : Nat, foundF t.cls box 0 = k ∧ k < box.length := by
          rcases hfb with h | h
          · omega
          · exact h
        simp [ek, aload, afield, apart, upd_apply]
        refine CondP.dec (fun c2 => ?_) (fun c2 => ?_)
        · have e : recv15 t ⟨sa, sp, ss, sr, false, su⟩ n now box = (sta0, eff0, 12) := by unfold recv15; rw [if_pos c1, if_pos (show 16 ≤ ss.length by omega)]
          rw [e]
          simp [aload, apart, upd_apply, abuild, aplace, afillP, astore]
          exact resK.rt ⟨⟨.nils, .nils, .nils, rfl, FL.nil' _ _, FL.nil' _ _, FL.nil' _ _⟩, by omega, fun r hr hr2 => by simp only [upd_apply]; repeat rw [if_neg (by omega)]⟩
        · have e : recv15 t ⟨sa, sp, ss, sr, false, su⟩ n now box = (⟨sa, clauseF t.cls box[k].1, ss ++ [box[k].2], sr, false, -1⟩, { eff0 with taken := k }, 0) := by
            have e1 : box.getD k (0, 0) = box[k] := by simp [List.getD_eq_getElem?_getD, hk]
            unfold recv15; rw [if_pos c1, if_neg (show ¬ 16 ≤ ss.length by omega), ek, Int.toNat_natCast, e1]
          have b3 := b1 (by omega)
          rw [e]
          simp
          refine drawK.intro mixed [(0, []), (1, []), (2, []), (3, []), (4, []), (5, []), (6, []), (7, [1]), (8, []), (9, []), (10, [])] (by kernel_rfl) ?_
          simp [aload, afield, apart, upd_apply, Nat.add_assoc, aindex, hk, abuildS, afillP, tek, chunk, appK, aappend, arows, hq, hq1, hq2, hq3, hq4, hq5, lenMax, lk_some, chkK, b3, b2, et, hr2, astore]
          refine drawK.intro mixed [(0, []), (1, []), (2, []), (3, []), (4, []), (5, []), (6, []), (7, []), (8, [])] (by kernel_rfl) ?_
          simp [aload, afield, apart, upd_apply, aindex, hk, hr3]
          refine ACK.rt (hcl _ _ _) ?_
          simp [aload, afield, apart, upd_apply, astore, upd_upd, abuild, aplace, afillP, hr4, hr5]
          refine resK.rt ⟨⟨.sl (m + 5) 0 (ss.length + 1), .sl u 0 sr.length, .nils, rfl, FL.own (by omega) (by simp) (by simp [upd_apply, ints]), FL.own hNu rfl ?_, FL.nil' _ _⟩, by omega, fun r hr hr2 => by simp only [upd_apply]; repeat rw [if_neg (by omega)]⟩
          simp [upd_apply, hu1, hu2, hu3, hu4, hu5, hu6, huq, hu]
      · simp [c1]
        refine drawK.intro mixed [(0, []), (1, []), (2, []), (3, []), (4, []), (5, []), (6, []), (7, [5]), (8, []), (9, [])] (by kernel_rfl) ?_
        simp [aload, afield, apart, upd_apply]
        refine CondP.dec (fun c3 => ?_) (fun c3 => ?_)
        · simp [c3, aload, afield, apart, upd_apply]
          refine ACK.rt (tick15_ac _ _ _) ?_
          simp [lk_some, chkK, upd_apply]
          refine CondP.dec (fun c4 => ?_) (fun c4 => ?_)
          · have e : recv15 t ⟨sa, sp, ss, sr, false, su⟩ n now box = (⟨sa, t.tmo, ss, sr, false, -1⟩, { eff0 with taken := -1 }, 0) := by
              unfold recv15; rw [if_neg c1, ek0, if_pos (by simp only [dueF, decide_eq_true_eq]; omega)]
            rw [e]
            simp [c4, aload, afield, apart, upd_apply, astore, upd_upd]
            simp [aload, apart, upd_apply, astore, abuild, aplace, afillP]
            refine resK.rt ⟨⟨.sl q 0 ss.length, .sl u 0 sr.length, .nils, rfl, Or.inr (Or.inr ⟨q, 0, [], J, hNq, rfl, rfl, ?_⟩), FL.own hNu rfl ?_, FL.nil' _ _⟩, by omega, fun r hr hr2 => by simp only [upd_apply]; repeat rw [if_neg (by omega)]⟩
            · simp [upd_apply, hq1, hq2, hq3, hq4, hq]
            · simp [upd_apply, hu1, hu2, hu3, hu4, hu]
          · have e : recv15 t ⟨sa, sp, ss, sr, false, su⟩ n now box = (⟨sa, sp, ss, sr, true, clipF (clipF now + clipF n)⟩, { eff0 with kind := 6, n := clipF (clipF now + clipF n), taken := -1 }, 0) := by
              unfold recv15; rw [if_neg c1, ek0, if_neg (by simp only [dueF, decide_eq_true_eq]; omega)]
            rw [e]
            simp [afield, upd_apply, astore, upd_upd, c4]
            refine drawK.intro mixed [(0, []), (1, []), (2, []), (3, []), (4, [2]), (5, []), (6, [])] (by kernel_rfl) ?_
            simp [lk_some, chkK, aload, afield, apart, upd_apply, astore, abuild, aplace, afillP]
            refine resK.rt ⟨⟨.sl q 0 ss.length, .sl u 0 sr.length, .nils, rfl, Or.inr (Or.inr ⟨q, 0, [], J, hNq, rfl, rfl, ?_⟩), FL.own hNu rfl ?_, FL.nil' _ _⟩, by omega, fun r hr hr2 => by simp only [upd_apply]; repeat rw [if_neg (by omega)]⟩
            · simp [upd_apply, hq1, hq2, hq3, hq4, hq]
            · simp [upd_apply, hu1, hu2, hu3, hu4, hu]
        · have e : recv15 t ⟨sa, sp, ss, sr, false, su⟩ n now box = (⟨sa, sp, ss, sr, true, clipF (clipF now + clipF n)⟩, { eff0 with kind := 6, n := clipF (clipF now + clipF n), taken := -1 }, 0) := by
            unfold recv15; rw [if_neg c1, ek0, if_neg (by simp only [dueF, decide_eq_true_eq]; omega)]
          rw [e]
          simp [afield, upd_apply, astore, upd_upd, c3]
          refine drawK.intro mixed [(0, []), (1, []), (2, []), (3, []), (4, [2]), (5, []), (6, [])] (by kernel_rfl) ?_
          simp [lk_some, chkK, aload, afield, apart, upd_apply, astore, abuild, aplace, afillP]
          refine resK.rt ⟨⟨.sl q 0 ss.length, .sl u 0 sr.length, .nils, rfl, Or.inr (Or.inr ⟨q, 0, [], J, hNq, rfl, rfl, ?_⟩), FL.own hNu rfl ?_, FL.nil' _ _⟩, by omega, fun r hr hr2 => by simp only [upd_apply]; repeat rw [if_neg (by omega)]⟩
          · simp [upd_apply, hq1, hq2, hq3, hq4, hq]
          · simp [upd_apply, hu1, hu2, hu3, hu4, hu]
    · refine AC.enter Try.func45 rfl Try.ntmps45 (by simp) ?_
      simp [stC, tblC, aload, afield, apart, upd_apply, Nat.add_assoc, astore, ht]
      refine ACK.rt (hfn _ _) ?_
      simp
      have ek0 : clk15 t ⟨sa, sp, ss, sr, false, su⟩ n now = -1 := by simp [clk15, ht]
      refine CondP.dec (fun c1 => ?_) (fun c1 => ?_)
      · obtain ⟨k, ek, hk⟩ : ∃ k : Nat, foundF t.cls box 0 = k ∧ k < box.length := by
          rcases hfb with h | h
          · omega
          · exact h
        simp [ek, aload, afield, apart, upd_apply]
        refine CondP.dec (fun c2 => ?_) (fun c2 => ?_)
        · have e : recv15 t ⟨sa, sp, ss, sr, false, su⟩ n now box = (sta0, eff0, 12) := by unfold recv15; rw [if_pos c1, if_pos (show 16 ≤ ss.length by omega)]
          rw [e]
          simp [aload, apart, upd_apply, abuild, aplace, afillP, astore]
          exact resK.rt ⟨⟨.nils, .nils, .nils, rfl, FL.nil' _ _, FL.nil' _ _, FL.nil' _ _⟩, by omega, fun r hr hr2 => by simp only [upd_apply]; repeat rw [if_neg (by omega)]⟩
        · have e : recv15 t ⟨sa, sp, ss, sr, false, su⟩ n now box = (⟨sa, clauseF t.cls box[k].1, ss ++ [box[k].2], sr, false, -1⟩, { eff0 with taken := k }, 0) := by
            have e1 : box.getD k (0, 0) = box[k] := by simp [List.getD_eq_getElem?_getD, hk]
            unfold recv15; rw [if_pos c1, if_neg (show ¬ 16 ≤ ss.length by omega), ek, Int.toNat_natCast, e1]
          have b3 := b1 (by omega)
          rw [e]
          simp
          refine drawK.intro mixed [(0, []), (1, []), (2, []), (3, []), (4, []), (5, []), (6, []), (7, [1]), (8, []), (9, []), (10, [])] (by kernel_rfl) ?_
          simp [aload, afield, apart, upd_apply, Nat.add_assoc, aindex, hk, abuildS, afillP, tek, chunk, appK, aappend, arows, hq, hq1, hq2, hq3, hq4, hq5, lenMax, lk_some, chkK, b3, b2, et, hr2, astore]
          refine drawK.intro mixed [(0, []), (1, []), (2, []), (3, []), (4, []), (5, []), (6, []), (7, []), (8, [])] (by kernel_rfl) ?_
          simp [aload, afield, apart, upd_apply, aindex, hk, hr3]
          refine ACK.rt (hcl _ _ _) ?_
          simp [aload, afield, apart, upd_apply, astore, upd_upd, abuild, aplace, afillP, hr4, hr5]
          refine resK.rt ⟨⟨.sl (m + 5) 0 (ss.length + 1), .sl u 0 sr.length, .nils, rfl, FL.own (by omega) (by simp) (by simp [upd_apply, ints]), FL.own hNu rfl ?_, FL.nil' _ _⟩, by omega, fun r hr hr2 => by simp only [upd_apply]; repeat rw [if_neg (by omega)]⟩
          simp [upd_apply, hu1, hu2, hu3, hu4, hu5, hu6, huq, hu]
      · simp [c1]
        refine drawK.intro mixed [(0, []), (1, []), (2, []), (3, []), (4, []), (5, []), (6, []), (7, [5]), (8, []), (9, [])] (by kernel_rfl) ?_
        simp [aload, afield, apart, upd_apply]
        have e : recv15 t ⟨sa, sp, ss, sr, false, su⟩ n now box = (⟨sa, sp, ss, sr, true, -1⟩, { eff0 with kind := 6, n := -1, taken := -1 }, 0) := by
          unfold recv15; rw [if_neg c1, ek0, if_neg (by simp only [dueF, decide_eq_true_eq]; omega)]
        rw [e]
        simp [upd_apply, astore, upd_upd]
        refine drawK.intro mixed [(0, []), (1, []), (2, []), (3, []), (4, [2]), (5, []), (6, [])] (by kernel_rfl) ?_
        simp [lk_some, chkK, aload, afield, apart, upd_apply, astore, abuild, aplace, afillP]
        refine resK.rt ⟨⟨.sl q 0 ss.length, .sl u 0 sr.length, .nils, rfl, Or.inr (Or.inr ⟨q, 0, [], J, hNq, rfl, rfl, ?_⟩), FL.own hNu rfl ?_, FL.nil' _ _⟩, by omega, fun r hr hr2 => by simp only [upd_apply]; repeat rw [if_neg (by omega)]⟩
        · simp [upd_apply, hq1, hq2, hq3, hq4, hq]
        · simp [upd_apply, hu1, hu2, hu3, hu4, hu]
  · refine AC.enter Try.func45 rfl Try.ntmps45 (by simp) ?_
    simp [stC, tblC, aload, afield, apart, upd_apply, Nat.add_assoc]
    refine ACK.rt (hfn _ _) ?_
    simp
    have ek0 : clk15 t ⟨sa, sp, ss, sr, true, su⟩ n now = su := by simp [clk15]
    refine CondP.dec (fun c1 => ?_) (fun c1 => ?_)
    · obtain ⟨k, ek, hk⟩ : ∃ k : Nat, foundF t.cls box 0 = k ∧ k < box.length := by
        rcases hfb with h | h
        · omega
        · exact h
      simp [ek, aload, afield, apart, upd_apply]
      refine CondP.dec (fun c2 => ?_) (fun c2 => ?_)
      · have e : recv15 t ⟨sa, sp, ss, sr, true, su⟩ n now box = (sta0, eff0, 12) := by unfold recv15; rw [if_pos c1, if_pos (show 16 ≤ ss.length by omega)]
        rw [e]
        simp [aload, apart, upd_apply, abuild, aplace, afillP, astore]
        exact resK.rt ⟨⟨.nils, .nils, .nils, rfl, FL.nil' _ _, FL.nil' _ _, FL.nil' _ _⟩, by omega, fun r hr hr2 => by simp only [upd_apply]; repeat rw [if_neg (by omega)]⟩
      · have e : recv15 t ⟨sa, sp, ss, sr, true, su⟩ n now box = (⟨sa, clauseF t.cls box[k].1, ss ++ [box[k].2], sr, false, -1⟩, { eff0 with taken := k }, 0) := by
          have e1 : box.getD k (0, 0) = box[k] := by simp [List.getD_eq_getElem?_getD, hk]
          unfold recv15; rw [if_pos c1, if_neg (show ¬ 16 ≤ ss.length by omega), ek, Int.toNat_natCast, e1]
        have b3 := b1 (by omega)
        rw [e]
        simp
        refine drawK.intro mixed [(0, []), (1, []), (2, []), (3, []), (4, []), (5, []), (6, []), (7, [1]), (8, []), (9, []), (10, [])] (by kernel_rfl) ?_
        simp [aload, afield, apart, upd_apply, Nat.add_assoc, aindex, hk, abuildS, afillP, tek, chunk, appK, aappend, arows, hq, hq1, hq2, hq3, hq4, hq5, lenMax, lk_some, chkK, b3, b2, et, hr2, astore]
        refine drawK.intro mixed [(0, []), (1, []), (2, []), (3, []), (4, []), (5, []), (6, []), (7, []), (8, [])] (by kernel_rfl) ?_
        simp [aload, afield, apart, upd_apply, aindex, hk, hr3]
        refine ACK.rt (hcl _ _ _) ?_
        simp [aload, afield, apart, upd_apply, astore, upd_upd, abuild, aplace, afillP, hr4, hr5]
        refine resK.rt ⟨⟨.sl (m + 5) 0 (ss.length + 1), .sl u 0 sr.length, .nils, rfl, FL.own (by omega) (by simp) (by simp [upd_apply, ints]), FL.own hNu rfl ?_, FL.nil' _ _⟩, by omega, fun r hr hr2 => by simp only [upd_apply]; repeat rw [if_neg (by omega)]⟩
        simp [upd_apply, hu1, hu2, hu3, hu4, hu5, hu6, huq, hu]
    · simp [c1]
      refine drawK.intro mixed [(0, []), (1, []), (2, []), (3, []), (4, []), (5, []), (6, []), (7, [5]), (8, []), (9, [])] (by kernel_rfl) ?_
      simp [aload, afield, apart, upd_apply]
      refine CondP.dec (fun c3 => ?_) (fun c3 => ?_)
      · simp [c3, aload, afield, apart, upd_apply]
        refine ACK.rt (tick15_ac _ _ _) ?_
        simp [lk_some, chkK, upd_apply]
        refine CondP.dec (fun c4 => ?_) (fun c4 => ?_)
        · have e : recv15 t ⟨sa, sp, ss, sr, true, su⟩ n now box = (⟨sa, t.tmo, ss, sr, false, -1⟩, { eff0 with taken := -1 }, 0) := by
            unfold recv15; rw [if_neg c1, ek0, if_pos (by simp only [dueF, decide_eq_true_eq]; omega)]
          rw [e]
          simp [c4, aload, afield, apart, upd_apply, astore, upd_upd]
          simp [aload, apart, upd_apply, astore, abuild, aplace, afillP]
          refine resK.rt ⟨⟨.sl q 0 ss.length, .sl u 0 sr.length, .nils, rfl, Or.inr (Or.inr ⟨q, 0, [], J, hNq, rfl, rfl, ?_⟩), FL.own hNu rfl ?_, FL.nil' _ _⟩, by omega, fun r hr hr2 => by simp only [upd_apply]; repeat rw [if_neg (by omega)]⟩
          · simp [upd_apply, hq1, hq2, hq3, hq4, hq]
          · simp [upd_apply, hu1, hu2, hu3, hu4, hu]
        · have e : recv15 t ⟨sa, sp, ss, sr, true, su⟩ n now box = (⟨sa, sp, ss, sr, true, su⟩, { eff0 with kind := 6, n := su, taken := -1 }, 0) := by
            unfold recv15; rw [if_neg c1, ek0, if_neg (by simp only [dueF, decide_eq_true_eq]; omega)]
          rw [e]
          simp [afield, upd_apply, astore, c4]
          refine drawK.intro mixed [(0, []), (1, []), (2, []), (3, []), (4, [2]), (5, []), (6, [])] (by kernel_rfl) ?_
          simp [lk_some, chkK, aload, afield, apart, upd_apply, astore, abuild, aplace, afillP]
          refine resK.rt ⟨⟨.sl q 0 ss.length, .sl u 0 sr.length, .nils, rfl, Or.inr (Or.inr ⟨q, 0, [], J, hNq, rfl, rfl, ?_⟩), FL.own hNu rfl ?_, FL.nil' _ _⟩, by omega, fun r hr hr2 => by simp only [upd_apply]; repeat rw [if_neg (by omega)]⟩
          · simp [upd_apply, hq1, hq2, hq3, hq4, hq]
          · simp [upd_apply, hu1, hu2, hu3, hu4, hu]
      · have e : recv15 t ⟨sa, sp, ss, sr, true, su⟩ n now box = (⟨sa, sp, ss, sr, true, su⟩, { eff0 with kind := 6, n := su, taken := -1 }, 0) := by
          unfold recv15; rw [if_neg c1, ek0, if_neg (by simp only [dueF, decide_eq_true_eq]; omega)]
        rw [e]
        simp [afield, upd_apply, astore, c3]
        refine drawK.intro mixed [(0, []), (1, []), (2, []), (3, []), (4, [2]), (5, []), (6, [])] (by kernel_rfl) ?_
        simp [lk_some, chkK, aload, afield, apart, upd_apply, astore, abuild, aplace, afillP]
        refine resK.rt ⟨⟨.sl q 0 ss.length, .sl u 0 sr.length, .nils, rfl, Or.inr (Or.inr ⟨q, 0, [], J, hNq, rfl, rfl, ?_⟩), FL.own hNu rfl ?_, FL.nil' _ _⟩, by omega, fun r hr hr2 => by simp only [upd_apply]; repeat rw [if_neg (by omega)]⟩
        · simp [upd_apply, hq1, hq2, hq3, hq4, hq]
        · simp [upd_apply, hu1, hu2, hu3, hu4, hu]
end Go.Proofs.Ytkhoelmbcmkhjaa
