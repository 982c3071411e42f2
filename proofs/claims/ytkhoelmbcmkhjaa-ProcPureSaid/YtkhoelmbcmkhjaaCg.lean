/- Layer 5: the reference's Right. -/
import Derived.Test.YtkhoelmbcmkhjaaCf
namespace Go.Proofs.Ytkhoelmbcmkhjaa
set_option maxRecDepth 100000

theorem right05_ac (l : List Actr) (η : AHeap) (m : Nat) (hm : Mod64 l) : AC Try.prog 33 [modV l] η m (Rt (.int .i64 (rightM l)) η m) := by
  refine AC.pure (.int _ _) ?_
  have hl := hm.1
  refine AC.fresh fun hf => ?_; refine AC.enter Try.func33 rfl Try.ntmps33 (by simp) ?_
  have le0 : ∀ o, η.le (upd η m o) := fun o => le_upd (AHeap.le_rfl _) (hf m (Nat.le_refl _))
  simp [modV, aload, afield, apart, upd_apply]
  refine CondP.dec (fun h1 => ?_) (fun h1 => ?_)
  · simp [h1]
    have : 8 < l.length := by omega
    exact resK.of (η' := η) (le0 _) _ (Nat.le_refl _) ⟨by simp [rightM, this], rfl⟩
  have h1' : ¬ 8 < l.length := by omega
  simp [h1]
  refine loopK.inv [2, 3, 9, 10, 11, 12, 13, 14, 15, 16, 17, 18, 19, 20, 21] (fun k : Nat => k ≤ l.length ∧ l.all littleF = (l.drop k).all littleF) (fun k => [(3, .int .i64 k)]) (fun _ => upd η m (some (.cells 1 [[.rs 5 (actsC l)]]))) (fun _ => m + 1) (fun k => l.length - k) 0 (by simp) (by simp) (by simp) (Nat.le_refl _) ?_
  intro k ⟨g1, g2⟩
  simp [aload, afield, apart, upd_eq]
  refine CondP.dec (fun h2 => ?_) (fun h2 => ?_)
  · have h2' : k < l.length := by omega
    have ew : IntKind.i64.wrap ((k : Int) + 1) = (k : Int) + 1 := wrap_id (by omega) (by omega)
    rw [List.drop_eq_getElem_cons h2', List.all_cons] at g2
    have hmu := fun η n => much05_ac l[k] η n (hm.2 l[k] (List.getElem_mem ..)).tabs.1
    simp only [actC] at hmu
    simp [h2, aload, afield, apart, upd_eq, aindex, actC]
    refine ACK.rt (hmu _ _) ?_
    cases hr : littleF l[k]
    · simp
      refine resK.of (η' := η) (le0 _) _ (Nat.le_refl _) ⟨?_, rfl⟩
      have : l.all littleF = false := by rw [g2, hr]; rfl
      simp [rightM, this]
    · simp [ew]
      exact endK.intro (k + 1) ⟨by omega, by rw [g2, hr]; rfl⟩ (by simp) (by repeat (first | exact Agree.mask _ _ | refine Agree.setf rfl ?_ | refine Agree.inner rfl ?_)) (AHeap.le_rfl _) (Nat.le_refl _) (show l.length - (k + 1) < l.length - k by omega)
  · have hli : l.all littleF = true := by rw [g2, List.drop_eq_nil_of_le (by omega)]; rfl
    have hno : ¬ (8 < l.length ∨ l.all littleF = false) := by simp [hli]; omega
    simp [h2]
    refine loopK.inv [2, 4, 22, 23, 24, 25, 26, 27, 28, 29, 30, 31, 32, 33, 34, 35, 36, 37, 38] (fun k : Nat => k ≤ l.length ∧ (l.all fun a => rightA a l.length) = (l.drop k).all fun a => rightA a l.length) (fun k => [(4, .int .i64 k)]) (fun _ => upd η m (some (.cells 1 [[.rs 5 (actsC l)]]))) (fun _ => m + 1) (fun k => l.length - k) 0 (by simp) (by simp) (by simp) (Nat.le_refl _) ?_
    intro k ⟨g3, g4⟩
    simp [aload, afield, apart, upd_eq]
    refine CondP.dec (fun h3 => ?_) (fun h3 => ?_)
    · have h3' : k < l.length := by omega
      have ew : IntKind.i64.wrap ((k : Int) + 1) = (k : Int) + 1 := wrap_id (by omega) (by omega)
      rw [List.drop_eq_getElem_cons h3', List.all_cons] at g4
      have hwe := fun η n => well05_ac l[k] l.length η n (hm.2 l[k] (List.getElem_mem ..)) (List.all_eq_true.1 hli _ (List.getElem_mem ..))
      simp only [actC] at hwe
      simp [h3]
      refine drawK.intro mixed [(0, []), (1, []), (2, []), (3, []), (4, []), (5, []), (6, []), (7, []), (8, []), (9, [])] (by kernel_rfl) ?_
      simp [aload, afield, apart, upd_eq, aindex, h3', actC]
      refine ACK.rt (hwe _ _) ?_
      simp
      cases hr : rightA l[k] l.length
      · simp
        refine resK.of (η' := η) (le0 _) _ (Nat.le_refl _) ⟨?_, rfl⟩
        have : (l.all fun a => rightA a l.length) = false := by rw [g4, hr]; rfl
        simp only [rightM]; rw [if_neg hno, if_pos (Or.inr (Or.inr this))]
      · simp [ew]
        exact endK.intro (k + 1) ⟨by omega, by rw [g4, hr]; rfl⟩ (by simp) (by repeat (first | exact Agree.mask _ _ | refine Agree.setf rfl ?_ | refine Agree.inner rfl ?_)) (AHeap.le_rfl _) (Nat.le_refl _) (show l.length - (k + 1) < l.length - k by omega)
    · have hri : (l.all fun a => rightA a l.length) = true := by rw [g4, List.drop_eq_nil_of_le (by omega)]; rfl
      simp [h3, aload, afield, apart, upd_eq]
      refine CondP.dec (fun h4 => ?_) (fun h4 => ?_)
      · simp [h4]
        refine resK.of (η' := η) (le0 _) _ (Nat.le_refl _) ⟨?_, rfl⟩
        simp only [rightM]; rw [if_neg hno, if_pos (Or.inl h4)]
      have h0 : 0 < l.length := List.length_pos_iff.2 h4
      have ea : actr l 0 = l[0] := by simp [actr, List.getD_eq_getElem?_getD, h0]
      simp [h4, aload, afield, apart, upd_eq, aindex, h0, actC]
      refine CondP.dec (fun h5 => ?_) (fun h5 => ?_)
      · simp [h5]
        refine resK.of (η' := η) (le0 _) _ (Nat.le_refl _) ⟨?_, rfl⟩
        simp only [rightM]; rw [if_neg hno, if_pos (Or.inr (Or.inl (by rw [ea]; simpa [List.length_pos_iff] using h5)))]
      · simp [h5]
        refine resK.of (η' := η) (le0 _) _ (Nat.le_refl _) ⟨?_, rfl⟩
        have : ¬ (l = [] ∨ 0 < (actr l 0).params.length ∨ (l.all fun a => rightA a l.length) = false) := by rw [hri, ea]; simp [h4]; simpa using h5
        simp only [rightM]; rw [if_neg hno, if_neg this]
end Go.Proofs.Ytkhoelmbcmkhjaa
