/- Layer 5: Right; the reference's. -/
import Derived.Test.YtkhoelmbcmkhjaaCe
namespace Go.Proofs.Ytkhoelmbcmkhjaa
set_option maxRecDepth 100000

theorem right_ac (a : Actr) (n : Int) (η : AHeap) (m : Nat) (ha : Act64 a) (hs : littleF a = true) : AC Try.prog 62 [.agg (actC a), .int .i64 n] η m (Rt (.bool (rightA a n)) η m) := by
  have hs2 := hs
  simp only [littleF, Bool.and_eq_true, decide_eq_true_eq] at hs2
  obtain ⟨_, l1, l2, l3, l4, l5⟩ := hs2
  refine AC.pure (.bool _) ?_
  refine AC.fresh fun hf => ?_; refine AC.enter Try.func62 rfl Try.ntmps62 (by simp) ?_
  have le0 : ∀ o, η.le (upd η m o) := fun o => le_upd (AHeap.le_rfl _) (hf m (Nat.le_refl _))
  have le2 : ∀ o o', η.le (upd (upd η m o) (m + 1) o') := fun o o' => le_upd (le0 _) (hf (m + 1) (by omega))
  simp [aload, afield, apart, upd_eq, actC, abuildS, chunk, tek, afillP]
  refine ACK.rt (concat_ac (vs := [.rs 1 (ints a.params), .rs 1 (ints a.regs), .rs 1 (ints a.msgs)]) (ls := [a.params, a.regs, a.msgs]) (upd_eq ..) rfl (fun i h h' => ?_) (by simp; omega) (by simp)) ?_
  · match i, h with
    | 0, _ => exact Or.inl rfl
    | 1, _ => exact Or.inl rfl
    | 2, _ => exact Or.inl rfl
  have ec : ([a.params, a.regs, a.msgs] : List (List Int)).flatten = a.params ++ a.regs ++ a.msgs := by simp
  rw [ec]
  simp
  refine ACK.rt (kall_ac (a.params ++ (a.regs ++ a.msgs)) n (by simp; omega)) ?_
  rw [← List.append_assoc]
  cases h1 : allT (a.params ++ a.regs ++ a.msgs) n
  · simp
    exact resK.of (η' := η) (le2 _ _) _ (Nat.le_refl _) ⟨by simp only [rightA, h1, Bool.false_and], rfl⟩
  simp [aload, afield, apart, upd_apply]
  refine CondP.dec (fun h2 => ?_) (fun h2 => ?_)
  · simp [h2]
    exact resK.of (η' := η) (le2 _ _) _ (Nat.le_refl _) ⟨by simp [rightA, h2], rfl⟩
  simp [h2, aload, afield, apart, upd_apply]
  refine CondP.dec (fun h3 => ?_) (fun h3 => ?_)
  · simp [h3]
    have : ¬ a.params.length ≤ a.regs.length := by omega
    exact resK.of (η' := η) (le2 _ _) _ (Nat.le_refl _) ⟨by simp [rightA, this], rfl⟩
  have h3' : a.params.length ≤ a.regs.length := by omega
  simp [h3, aload, afield, apart, upd_apply]
  refine ACK.rt (containsI_ac a.code 85 [] (fun i => !rightI i) (by simp) (fun x _ => r1_ac x _ _) (by omega)) ?_
  simp [aload, afield, apart, upd_apply]
  refine ACK.rt (containsB_ac a.tabs 88 [] (fun t => !tableOK t) (by simp) (fun x hx => r2_ac x _ _ (ha.tabs.2 x hx).1.1) (by omega)) ?_
  simp
  refine drawK.intro mixed [(0, []), (1, []), (2, []), (3, []), (4, []), (5, []), (6, []), (7, []), (8, []), (9, []), (10, []), (11, []), (12, []), (13, []), (14, []), (15, []), (16, []), (17, [])] (by kernel_rfl) ?_
  have e1 := any_not a.code rightI
  have e2 := any_not a.tabs tableOK
  cases h4 : a.code.any fun i => !rightI i
  · rw [h4] at e1
    cases h5 : a.tabs.any fun i => !tableOK i
    · rw [h5] at e2
      have hsl : List.take a.params.length (ints a.regs) = ints (a.regs.take a.params.length) := by simp [ints]
      simp [aload, afield, apart, upd_apply, asliceV, abnd, h3', hsl]
      refine ACK.rt (ksame_ac (l1 := a.params) (l2 := a.regs.take a.params.length) (Or.inl rfl) (Or.inl rfl) (by omega)) ?_
      simp
      refine resK.of (η' := η) (le2 _ _) _ (Nat.le_refl _) ⟨?_, rfl⟩
      simp only [Bool.not_false] at e1 e2
      simp only [rightA, h1, ← e1, ← e2, Bool.true_and]
      simp [h2, h3']
    · rw [h5] at e2
      simp
      refine resK.of (η' := η) (le2 _ _) _ (Nat.le_refl _) ⟨?_, rfl⟩
      simp only [Bool.not_true] at e2
      simp only [rightA, ← e2, Bool.false_and, Bool.and_false]
  · rw [h4] at e1
    simp
    refine resK.of (η' := η) (le2 _ _) _ (Nat.le_refl _) ⟨?_, rfl⟩
    simp only [Bool.not_true] at e1
    simp only [rightA, ← e1, Bool.false_and, Bool.and_false]
theorem Rr1_ac (a : Actr) (n : Int) (q : Nat) (η : AHeap) (m : Nat) (ha : Act64 a) (hs : littleF a = true) (hq : η q = some (.cells 1 [[.int .i64 n]])) : AC Try.prog 61 [.agg (actC a), .ptr q 0 0] η m (Rt (.bool (rightA a n)) η m) := by
  have hr := fun η m => right_ac a n η m ha hs
  simp only [actC] at hr ⊢
  refine AC.pure (.bool _) ?_
  refine AC.fresh fun hf => ?_; refine AC.enter Try.func61 rfl Try.ntmps61 (by simp) ?_
  have hqm : ¬ q = m := fun e => by rw [e, hf m (Nat.le_refl _)] at hq; cases hq
  simp [aload, apart, upd_apply, hq, hqm]
  refine ACK.rt (hr _ _) ?_
  simp
  exact resK.of (η' := η) (le_upd (AHeap.le_rfl _) (hf m (Nat.le_refl _))) _ (Nat.le_refl _) ⟨rfl, rfl⟩
def rightM (m : List Actr) : Int :=
  if 8 < m.length ∨ m.all littleF = false then 3
  else if m = [] ∨ 0 < (actr m 0).params.length ∨ (m.all fun a => rightA a m.length) = false then 4 else 0
theorem mright_ac (l : List Actr) (η : AHeap) (m : Nat) (hm : Mod64 l) : AC Try.prog 32 [modV l] η m (Rt (.int .i64 (rightM l)) η m) := by
  refine AC.pure (.int _ _) ?_
  have hl := hm.1
  refine AC.fresh fun hf => ?_; refine AC.enter Try.func32 rfl Try.ntmps32 (by simp) ?_
  have le0 : ∀ o, η.le (upd η m o) := fun o => le_upd (AHeap.le_rfl _) (hf m (Nat.le_refl _))
  have le2 : ∀ o o' o'', η.le (upd (upd (upd η m o) (m + 1) o') (m + 1) o'') := fun o o' o'' => by rw [upd_upd]; exact le_upd (le0 _) (hf (m + 1) (by omega))
  simp [modV, aload, afield, apart, upd_apply, astore]
  refine CondP.dec (fun h1 => ?_) (fun h1 => ?_)
  · simp [h1]
    have : 8 < l.length := by omega
    exact resK.of (η' := η) (le2 _ _ _) _ (Nat.le_refl _) ⟨by simp [rightM, this], rfl⟩
  have h1' : ¬ 8 < l.length := by omega
  simp [h1, aload, afield, apart, upd_apply]
  refine ACK.rt (allA_ac l 60 [] littleF (by simp) (fun a ha q hq => little_ac a _ _ (hm.2 a ha).tabs.1) hl) ?_
  cases h2 : l.all littleF
  · simp
    exact resK.of (η' := η) (le2 _ _ _) _ (Nat.le_refl _) ⟨by simp [rightM, h2], rfl⟩
  simp [aload, apart, upd_apply]
  refine CondP.dec (fun h3 => ?_) (fun h3 => ?_)
  · simp [h3]
    exact resK.of (η' := η) (le2 _ _ _) _ (Nat.le_refl _) ⟨by simp [rightM, h3], rfl⟩
  have h0 : 0 < l.length := List.length_pos_iff.2 h3
  have ea : actr l 0 = l[0] := by simp [actr, List.getD_eq_getElem?_getD, h0]
  simp [h3, aload, afield, apart, upd_apply, aindex, h0, actC]
  refine CondP.dec (fun h4 => ?_) (fun h4 => ?_)
  · simp [h4]
    exact resK.of (η' := η) (le2 _ _ _) _ (Nat.le_refl _) ⟨by simp [rightM, h1', h2, ea, h4], rfl⟩
  simp [h4, aload, afield, apart, upd_apply]
  refine ACK.rt (allA_ac l 61 [.ptr (m + 1) 0 0] (fun a => rightA a l.length) (by simp) (fun a ha q hq => Rr1_ac a l.length (m + 1) _ _ (hm.2 a ha) (List.all_eq_true.1 h2 a ha) (by rw [upd_ne (by omega)]; simp [upd_apply])) hl) ?_
  cases h5 : l.all fun a => rightA a l.length
  · simp
    exact resK.of (η' := η) (le2 _ _ _) _ (Nat.le_refl _) ⟨by simp only [rightM, h5]; simp [h1', h2], rfl⟩
  · simp
    refine resK.of (η' := η) (le2 _ _ _) _ (Nat.le_refl _) ⟨?_, rfl⟩
    have : ¬ (8 < l.length ∨ l.all littleF = false) := by simp [h2]; omega
    have h6 : ¬ (l = [] ∨ 0 < (actr l 0).params.length ∨ (l.all fun a => rightA a l.length) = false) := by rw [h5, ea]; simp [h3]; simpa using h4
    simp only [rightM]; rw [if_neg this, if_neg h6]
theorem much05_ac (a : Actr) (η : AHeap) (n : Nat) (ha : a.tabs.length ≤ 17592186044416) : AC Try.prog 63 [.agg (actC a)] η n (Rt (.bool (!littleF a)) η n) := by
  refine AC.pure (.bool _) ?_
  refine AC.fresh fun hf => ?_; refine AC.enter Try.func63 rfl Try.ntmps63 (by simp) ?_
  have le0 : ∀ o, η.le (upd η n o) := fun o => le_upd (AHeap.le_rfl _) (hf n (Nat.le_refl _))
  simp [actC]
  refine loopK.inv [2, 3, 4, 5, 6, 7, 8, 9, 10, 11, 12, 13, 14, 15, 16, 17, 18] (fun k : Nat => k ≤ a.tabs.length ∧ tabsFew a.tabs = tabsFew (a.tabs.drop k)) (fun k => [(3, .int .i64 k)]) (fun _ => upd η n (some (.cells 5 [actC a]))) (fun _ => n + 1) (fun k => a.tabs.length - k) 0 (by simp) (by simp) (by simp [actC]) (Nat.le_refl _) ?_
  intro k ⟨g1, g3⟩
  simp [aload, afield, apart, upd_eq, actC]
  refine CondP.dec (fun h => ?_) (fun h => ?_)
  · have h' : k < a.tabs.length := by omega
    have ew : IntKind.i64.wrap ((k : Int) + 1) = (k : Int) + 1 := wrap_id (by omega) (by omega)
    rw [List.drop_eq_getElem_cons h'] at g3
    simp [h', aindex, aload, apart, afield, tblC, upd_eq]
    refine CondP.dec (fun h2 => ?_) (fun h2 => ?_)
    · simp [h2]
      refine resK.of (η' := η) (le0 _) _ (Nat.le_refl _) ⟨?_, rfl⟩
      have h3 : ¬ a.tabs[k].cls.length ≤ 8 := by omega
      have : tabsFew a.tabs = false := by rw [g3, tabsFew, List.all_cons]; simp [h3]
      simp [littleF, this]
    · have h3 : a.tabs[k].cls.length ≤ 8 := by omega
      simp [h2, ew]
      exact endK.intro (k + 1) ⟨by omega, by rw [g3]; unfold tabsFew; rw [List.all_cons]; simp [h3]⟩ (by simp) (by repeat (first | exact Agree.mask _ _ | refine Agree.setf rfl ?_ | refine Agree.inner rfl ?_)) (by simp) (Nat.le_refl _) (show a.tabs.length - (k + 1) < a.tabs.length - k by omega)
  · have ht : tabsFew a.tabs = true := by rw [g3, List.drop_eq_nil_of_le (by omega)]; rfl
    have fin : ∀ b : Bool, b = (!decide (a.params.length ≤ 4 ∧ a.regs.length ≤ 16 ∧ a.msgs.length ≤ 8 ∧ a.code.length ≤ 200 ∧ a.tabs.length ≤ 8)) → b = !littleF a := fun b h => by rw [h]; simp [littleF, ht]
    simp [h, aload, afield, apart, upd_eq]
    repeat' (refine CondP.dec (fun h => ?_) (fun h => ?_) <;> simp [h, aload, afield, apart, upd_eq])
    all_goals refine resK.of (η' := η) (le0 _) _ (Nat.le_refl _) ⟨congrArg AVal.bool (fin _ ?_), rfl⟩
    all_goals rw [Bool.eq_iff_iff]; simp; omega
def tables05 (l : List Tbl) : Bool := l.all tableOK
theorem well05_ac (a : Actr) (n : Int) (η : AHeap) (m : Nat) (ha : Act64 a) (hs : littleF a = true) : AC Try.prog 64 [.agg (actC a), .int .i64 n] η m (Rt (.bool (rightA a n)) η m) := by
  have hs2 := hs
  simp only [littleF, Bool.and_eq_true, decide_eq_true_eq] at hs2
  obtain ⟨_, l1, l2, l3, l4, l5⟩ := hs2
  have happ : allT (a.params ++ a.regs ++ a.msgs) n = (allT a.params n && (allT a.regs n && allT a.msgs n)) := by simp [allT]
  refine AC.pure (.bool _) ?_
  refine AC.fresh fun hf => ?_; refine AC.enter Try.func64 rfl Try.ntmps64 (by simp) ?_
  have le0 : ∀ o, η.le (upd η m o) := fun o => le_upd (AHeap.le_rfl _) (hf m (Nat.le_refl _))
  simp [aload, afield, apart, upd_eq, actC]
  refine ACK.rt (all02_ac a.params n (by omega)) ?_
  cases h1 : allT a.params n
  · simp
    exact resK.of (η' := η) (le0 _) _ (Nat.le_refl _) ⟨by simp only [rightA, happ, h1, Bool.false_and], rfl⟩
  simp [aload, afield, apart, upd_eq]
  refine ACK.rt (all02_ac a.regs n (by omega)) ?_
  cases h2 : allT a.regs n
  · simp
    exact resK.of (η' := η) (le0 _) _ (Nat.le_refl _) ⟨by simp only [rightA, happ, h1, h2, Bool.false_and, Bool.true_and], rfl⟩
  simp [aload, afield, apart, upd_eq]
  refine ACK.rt (all02_ac a.msgs n (by omega)) ?_
  cases h3 : allT a.msgs n
  · simp
    exact resK.of (η' := η) (le0 _) _ (Nat.le_refl _) ⟨by simp only [rightA, happ, h1, h2, h3, Bool.false_and, Bool.true_and], rfl⟩
  have hall : allT (a.params ++ a.regs ++ a.msgs) n = true := by rw [happ, h1, h2, h3]; rfl
  simp [aload, afield, apart, upd_eq]
  refine CondP.dec (fun h4 => ?_) (fun h4 => ?_)
  · simp [h4]
    have : ¬ a.params.length ≤ a.regs.length := by omega
    exact resK.of (η' := η) (le0 _) _ (Nat.le_refl _) ⟨by simp [rightA, this], rfl⟩
  have h4' : a.params.length ≤ a.regs.length := by omega
  simp [h4, aload, afield, apart, upd_eq]
  refine CondP.dec (fun h5 => ?_) (fun h5 => ?_)
  · simp [h5]
    exact resK.of (η' := η) (le0 _) _ (Nat.le_refl _) ⟨by simp [rightA, h5], rfl⟩
  simp [h5]
  have sl : ∀ o, η.le (upd η m o) := le0
  have hp : ∀ k (h : k < a.params.length), (a.regs.take a.params.length)[k]'(by simp; omega) = a.regs[k]'(by omega) := fun k h => by simp
  have hpl : a.params.length = (a.regs.take a.params.length).length := by simp; omega
  have good : ∀ b, b = (decide (a.params = a.regs.take a.params.length) && (a.code.all rightI && a.tabs.all tableOK)) → b = rightA a n := fun b hb => by
    rw [hb]
    simp only [rightA, hall, Bool.true_and]
    have : decide (a.code ≠ [] ∧ a.params.length ≤ a.regs.length) = true := by simp [h5, h4']
    rw [this, Bool.true_and]
    cases decide (a.params = a.regs.take a.params.length) <;> cases a.code.all rightI <;> cases a.tabs.all tableOK <;> rfl
  refine loopK.inv [4, 5, 45, 46, 47, 48, 49, 50, 51, 52, 53, 54, 55, 56, 57, 58, 59, 60, 61, 62] (fun k : Nat => k ≤ a.params.length ∧ (a.params.drop k = (a.regs.take a.params.length).drop k ↔ a.params = a.regs.take a.params.length)) (fun k => [(5, .int .i64 k)]) (fun _ => upd η m (some (.cells 5 [actC a]))) (fun _ => m + 1) (fun k => a.params.length - k) 0 (by simp) (by simp) (by simp [actC]) (Nat.le_refl _) ?_
  intro k ⟨g1, g2⟩
  simp [aload, afield, apart, upd_eq, actC]
  refine CondP.dec (fun h6 => ?_) (fun h6 => ?_)
  · have h6' : k < a.params.length := by omega
    have h7 : k < a.regs.length := by omega
    have ew : IntKind.i64.wrap ((k : Int) + 1) = (k : Int) + 1 := wrap_id (by omega) (by omega)
    simp [h6]
    refine drawK.intro mixed [(0, []), (1, []), (2, []), (3, []), (4, []), (5, []), (6, []), (7, []), (8, []), (9, []), (10, [])] (by kernel_rfl) ?_
    simp [aload, afield, apart, upd_eq, aindex, h6', h7]
    refine CondP.ndec (fun h8 => ?_) (fun h8 => ?_)
    · simp [h8, ew]
      exact endK.intro (k + 1) ⟨by omega, (drop_eq_iff hpl h6' (by rw [hp k h6']; exact h8)).symm.trans g2⟩ (by simp) (by repeat (first | exact Agree.mask _ _ | refine Agree.setf rfl ?_ | refine Agree.inner rfl ?_)) (by simp) (Nat.le_refl _) (show a.params.length - (k + 1) < a.params.length - k by omega)
    · simp [h8]
      refine resK.of (η' := η) (le0 _) _ (Nat.le_refl _) ⟨congrArg AVal.bool (good _ ?_), rfl⟩
      have : ¬ a.params = a.regs.take a.params.length := fun e => h8 (by
        have := hp k h6'
        rw [← this]
        congr 1)
      simp [this]
  · have hpe : a.params = a.regs.take a.params.length := g2.1 (by rw [List.drop_eq_nil_of_le (by omega), List.drop_eq_nil_of_le (by omega)])
    have good2 : ∀ b, b = (a.code.all rightI && a.tabs.all tableOK) → b = rightA a n := fun b hb => good b (by rw [decide_eq_true hpe, Bool.true_and]; exact hb)
    simp [h6]
    refine loopK.inv [4, 6, 63, 64, 65, 66, 67, 68, 69, 70, 71, 72, 73, 74, 75, 76] (fun k : Nat => k ≤ a.code.length ∧ a.code.all rightI = (a.code.drop k).all rightI) (fun k => [(6, .int .i64 k)]) (fun _ => upd η m (some (.cells 5 [actC a]))) (fun _ => m + 1) (fun k => a.code.length - k) 0 (by simp) (by simp) (by simp [actC]) (Nat.le_refl _) ?_
    intro k ⟨g3, g4⟩
    simp [aload, afield, apart, upd_eq, actC]
    refine CondP.dec (fun h9 => ?_) (fun h9 => ?_)
    · have h9' : k < a.code.length := by omega
      have ew : IntKind.i64.wrap ((k : Int) + 1) = (k : Int) + 1 := wrap_id (by omega) (by omega)
      rw [List.drop_eq_getElem_cons h9', List.all_cons] at g4
      simp [h9, aload, afield, apart, upd_eq, aindex]
      refine ACK.rt (right04_ac a.code[k] _ _) ?_
      cases hr : rightI a.code[k]
      · simp
        refine resK.of (η' := η) (le0 _) _ (Nat.le_refl _) ⟨congrArg AVal.bool (good2 _ ?_), rfl⟩
        rw [g4, hr]; rfl
      · simp [ew]
        exact endK.intro (k + 1) ⟨by omega, by rw [g4, hr]; rfl⟩ (by simp) (by repeat (first | exact Agree.mask _ _ | refine Agree.setf rfl ?_ | refine Agree.inner rfl ?_)) (by simp) (Nat.le_refl _) (show a.code.length - (k + 1) < a.code.length - k by omega)
    · have hce : a.code.all rightI = true := by rw [g4, List.drop_eq_nil_of_le (by omega)]; rfl
      have good3 : ∀ b, b = a.tabs.all tableOK → b = rightA a n := fun b hb => good2 b (by rw [hce, Bool.true_and]; exact hb)
      simp [h9]
      refine loopK.inv [4, 7, 8, 9, 10, 77, 78, 79, 80, 81, 82, 83, 84, 85, 86, 87, 88, 89, 90, 91, 92, 93, 94, 95, 96, 97, 98, 99, 100, 101, 102, 103, 104, 105, 106, 107, 108, 109, 110, 111, 112, 113, 114, 115, 116, 117, 118, 119, 120, 121, 122, 123, 124, 125, 126] (fun x : Nat × Nat => x.1 ≤ a.tabs.length ∧ m + 1 ≤ x.2 ∧ a.tabs.all tableOK = (a.tabs.drop x.1).all tableOK) (fun x => [(7, .int .i64 x.1)]) (fun _ => upd η m (some (.cells 5 [actC a]))) (fun x => x.2) (fun x => a.tabs.length - x.1) (0, m + 1) (by simp) (by simp) (by simp [actC]) (Nat.le_refl _) ?_
      intro ⟨k, q⟩ ⟨g5, g6, g7⟩
      simp only at g5 g6 g7
      have hmq : m ≠ q := by omega
      have hmq' : ¬ m = q := hmq
      have hq0 : upd η m (some (.cells 5 [actC a])) q = none := by rw [upd_ne (Ne.symm hmq)]; exact hf q (by omega)
      have hup : ∀ o, (upd η m (some (.cells 5 [actC a]))).le (upd (upd η m (some (.cells 5 [actC a]))) q o) := fun o => le_upd (AHeap.le_rfl _) hq0
      have le1 : ∀ o, η.le (upd (upd η m (some (.cells 5 [actC a]))) q o) := fun o => fun r o' hr => hup o r o' (le0 _ r o' hr)
      simp [aload, afield, apart, upd_eq, actC]
      refine CondP.dec (fun h10 => ?_) (fun h10 => ?_)
      · have h10' : k < a.tabs.length := by omega
        have ew : IntKind.i64.wrap ((k : Int) + 1) = (k : Int) + 1 := wrap_id (by omega) (by omega)
        rw [List.drop_eq_getElem_cons h10', List.all_cons] at g7
        have hcl := (ha.tabs.2 a.tabs[k] (List.getElem_mem ..)).1.1
        obtain ⟨T, hT⟩ : ∃ T, a.tabs[k] = T := ⟨_, rfl⟩
        rw [hT] at g7 hcl
        have bad : tableOK T = false → AVal.bool false = AVal.bool (rightA a n) := fun hb => congrArg AVal.bool (good3 _ (by rw [g7, hb]; rfl))
        simp [h10, aload, afield, apart, upd_eq, aindex, tblC, astore, hT]
        refine CondP.dec (fun h11 => ?_) (fun h11 => ?_)
        · simp [h11]
          refine resK.of (η' := η) (by rw [upd_upd]; exact le1 _) _ (Nat.le_refl _) ⟨bad ?_, rfl⟩
          simp only [tableOK, Bool.and_eq_false_iff, decide_eq_false_iff_not]; right; omega
        simp [h11, aload, afield, apart, upd_eq]
        refine CondP.dec (fun h12 => ?_) (fun h12 => ?_)
        · simp [h12]
          refine resK.of (η' := η) (by rw [upd_upd]; exact le1 _) _ (Nat.le_refl _) ⟨bad ?_, rfl⟩
          simp only [tableOK, Bool.and_eq_false_iff, decide_eq_false_iff_not]; right; omega
        have htm : T.tmo = -1 ∨ (0 ≤ T.tmo ∧ T.tmo < 200) := by omega
        simp [h12, upd_upd]
        refine loopK.inv [4, 9, 10, 97, 98, 99, 100, 101, 102, 103, 104, 105, 106, 107, 108, 109, 110, 111, 112, 113, 114, 115, 116, 117, 118, 119, 120, 121, 122, 123, 124, 125, 126] (fun y : Nat × Nat => y.1 ≤ T.cls.length ∧ q + 1 ≤ y.2 ∧ T.cls.all clauseOK = (T.cls.drop y.1).all clauseOK) (fun y => [(9, .int .i64 y.1)]) (fun _ => upd (upd η m (some (.cells 5 [actC a]))) q (some (.cells 2 [tblC T]))) (fun y => y.2) (fun y => T.cls.length - y.1) (0, q + 1) (by simp) (by simp) (by simp [actC, tblC]) (Nat.le_refl _) ?_
        intro ⟨j, p⟩ ⟨g8, g9, g10⟩
        simp only at g8 g9 g10
        have hqp : ¬ q = p := by omega
        have hmp : ¬ m = p := by omega
        have hp0 : upd (upd η m (some (.cells 5 [actC a]))) q (some (.cells 2 [tblC T])) p = none := by rw [upd_ne (by omega), upd_ne (by omega)]; exact hf p (by omega)
        have hup2 : ∀ o, (upd (upd η m (some (.cells 5 [actC a]))) q (some (.cells 2 [tblC T]))).le (upd (upd (upd η m (some (.cells 5 [actC a]))) q (some (.cells 2 [tblC T]))) p o) := fun o => le_upd (AHeap.le_rfl _) hp0
        have le2 : ∀ o, η.le (upd (upd (upd η m (some (.cells 5 [actC a]))) q (some (.cells 2 [tblC T]))) p o) := fun o => fun r o' hr => hup2 o r o' (le1 _ r o' hr)
        simp [aload, afield, apart, upd_eq, tblC]
        refine CondP.dec (fun h13 => ?_) (fun h13 => ?_)
        · have h13' : j < T.cls.length := by omega
          have ewj : IntKind.i64.wrap ((j : Int) + 1) = (j : Int) + 1 := wrap_id (by omega) (by omega)
          rw [List.drop_eq_getElem_cons h13', List.all_cons] at g10
          have badc : clauseOK T.cls[j] = false → tableOK T = false := fun hb => by simp only [tableOK, g10, hb, Bool.false_and]
          simp [h13, aload, afield, apart, upd_eq, aindex, astore]
          refine CondP.dec (fun h14 => ?_) (fun h14 => ?_)
          · simp [h14]
            exact resK.of (η' := η) (by rw [upd_upd]; exact le2 _) _ (Nat.le_refl _) ⟨(bad (badc (by simp only [clauseOK, decide_eq_false_iff_not]; omega))), rfl⟩
          simp [h14, aload, afield, apart, upd_eq]
          refine CondP.dec (fun h15 => ?_) (fun h15 => ?_)
          · simp [h15]
            exact resK.of (η' := η) (by rw [upd_upd]; exact le2 _) _ (Nat.le_refl _) ⟨(bad (badc (by simp only [clauseOK, decide_eq_false_iff_not]; omega))), rfl⟩
          simp [h15, aload, afield, apart, upd_eq]
          refine CondP.dec (fun h16 => ?_) (fun h16 => ?_)
          · simp [h16]
            exact resK.of (η' := η) (by rw [upd_upd]; exact le2 _) _ (Nat.le_refl _) ⟨(bad (badc (by simp only [clauseOK, decide_eq_false_iff_not]; omega))), rfl⟩
          simp [h16, aload, afield, apart, upd_eq]
          refine CondP.dec (fun h17 => ?_) (fun h17 => ?_)
          · simp [h17]
            exact resK.of (η' := η) (by rw [upd_upd]; exact le2 _) _ (Nat.le_refl _) ⟨(bad (badc (by simp only [clauseOK, decide_eq_false_iff_not]; omega))), rfl⟩
          have hc : clauseOK T.cls[j] = true := by simp only [clauseOK, decide_eq_true_eq]; omega
          simp [h17, ewj]
          exact endK.intro (j + 1, p + 1) ⟨by omega, by omega, by rw [g10, hc]; rfl⟩ (by simp) (by repeat (first | exact Agree.mask _ _ | refine Agree.setf rfl ?_ | refine Agree.inner rfl ?_)) (by first | exact hup2 _ | (rw [upd_upd]; exact hup2 _) | (simp only [upd_upd]; exact hup2 _)) (Nat.le_refl _) (show T.cls.length - (j + 1) < T.cls.length - j by omega)
        · have hca : T.cls.all clauseOK = true := by rw [g10, List.drop_eq_nil_of_le (by omega)]; rfl
          have hto : tableOK T = true := by simp only [tableOK, hca, Bool.true_and, decide_eq_true_eq]; exact htm
          simp [h13, ew]
          exact endK.intro (k + 1, p) ⟨by omega, by omega, by rw [g7, hto]; rfl⟩ (by simp) (by repeat (first | exact Agree.mask _ _ | refine Agree.setf rfl ?_ | refine Agree.inner rfl ?_)) (hup _) (Nat.le_refl _) (show a.tabs.length - (k + 1) < a.tabs.length - k by omega)
      · have hte : a.tabs.all tableOK = true := by rw [g7, List.drop_eq_nil_of_le (by omega)]; rfl
        simp [h10]
        exact resK.of (η' := η) (le0 _) _ (Nat.le_refl _) ⟨congrArg AVal.bool (good3 _ hte.symm), rfl⟩
end Go.Proofs.Ytkhoelmbcmkhjaa
