/- Layer 6: lives; the reference's Shapes. -/
import Derived.Test.YtkhoelmbcmkhjaaGc
namespace Go.Proofs.Ytkhoelmbcmkhjaa
set_option maxRecDepth 100000

def m06a : List Actr := [⟨[], [], [], [(1, 1), (6, 0), (0, 0)], []⟩]
def m06b : List Actr := [⟨[], [], [], [(1, 1), (24, 0), (0, 0)], []⟩]
theorem check06a : checkF m06a = (12, 0, 1) := by kernel_rfl
theorem check06b : checkF m06b = (0, 0, 0) := by kernel_rfl
theorem shp06 : (lookL m06b 0).1.shapes = [[], [1], []] := by kernel_rfl
theorem has06 : (lookL m06b 0).1.has.take (actr m06b 0).code.length = [true, true, true] := by kernel_rfl
theorem shpB06 : shpB m06b 0 = true := by kernel_rfl
theorem m06a_ok : Mod64 m06a := by
  refine ⟨by simp [m06a], fun x hx => ?_⟩
  simp [m06a] at hx; subst hx
  exact ⟨⟨by simp, by simp⟩, ⟨by simp, by simp⟩, ⟨by simp, by simp⟩, ⟨by simp, by simp [I64]⟩, ⟨by simp, by simp⟩⟩
theorem m06b_ok : Mod64 m06b := by
  refine ⟨by simp [m06b], fun x hx => ?_⟩
  simp [m06b] at hx; subst hx
  exact ⟨⟨by simp, by simp⟩, ⟨by simp, by simp⟩, ⟨by simp, by simp⟩, ⟨by simp, by simp [I64]⟩, ⟨by simp, by simp⟩⟩
theorem Ent.mod' {X : List (List AVal)} {m : List Actr} (h : EntR X (actsC m)) : Ent (.agg [.rs 5 X]) (modV m) := Ent.agg ⟨Ent.rs h, trivial⟩ rfl
theorem lives06_ac (η : AHeap) (n : Nat) : AC Try.prog 24 [] η n (Rt (.bool true) η n) := by
  refine AC.pure (.bool _) ?_
  refine AC.fresh fun hf => ?_; refine AC.enter Try.func24 rfl Try.ntmps24 (by simp) ?_
  simp [abuild, aplace, afillP, abuildS, chunk, tek, astore, upd_apply, upd_upd, Nat.add_assoc, aload, apart]
  refine ACK.rt (AC.lend 6 (fltV_plain _) (AC.args (check_ac m06a _ _ m06a_ok) ?_)) ?_
  · simp [frz, upd_apply, lenMax]
    exact Ent.mod' (by simp [actsC, actC, m06a, ints, pairs, tblsC])
  rw [check06a]
  simp [fltV, abuild, aplace, afillP, astore, upd_apply, upd_upd, Nat.add_assoc, aload, afield, aindex, apart]
  refine ACK.freeze [n, n + 1] [n + 2] 6 ?_
  have eb : shpRes m06b 0 = .tup [.rs 1 (shpC [[], [1], []]), .rs 1 (boolC [true, true, true])] := by
    unfold shpRes
    rw [if_pos shpB06, ← shp06, ← has06]; rfl
  refine ACK.use (g := .mk) (AC.freshP (AC.args (shapesR_ac m06b 0 _ _ m06b_ok) ?_)) ?_
  · simp [frz, upd_apply, lenMax]
    exact Ent.mod' (by simp [actsC, actC, m06b, ints, pairs, tblsC])
  intro r η1 n1 ⟨⟨e1, e2, e3⟩, hf1⟩
  rw [eb] at e1
  subst e1 e2 e3
  simp [frzH, frz, objMap, upd_apply, lenMax, aload, apart, abuild, aplace, afillP, aeqS3 fields_fault, shpC, boolC, ints]
  refine ACK.rt (AC.args (check_ac m06b _ _ m06b_ok) ⟨Ent.mod' (by simp [actsC, actC, m06b, ints, pairs, tblsC]), trivial⟩) ?_
  rw [check06b]
  simp [fltV, abuild, aplace, afillP, aeqS3 fields_fault, aload, aindex, apart]
  refine resK.of (η' := η) (le_old hf fun r hr => ?_) _ (Nat.le_refl _) ⟨rfl, rfl⟩
  have h0 : ¬ r = n := by omega
  have h1 : ¬ r = n + 1 := by omega
  have h2 : ¬ r = n + 2 := by omega
  have h3 : ¬ r = n + 3 := by omega
  simp [frzH, upd_apply, h0, h1, h2, h3]
theorem faults_ac (m : List Actr) (η : AHeap) (n : Nat) (hm : Mod64 m) : AC Try.prog 6 [modV m] η n (Rt (.bool true) η n) := by
  refine AC.pure (.bool _) ?_
  have h1 := fun η n => check_ac m η n hm
  have h2 := fun η n => check06_ac m η n hm
  simp only [modV, actsC, fltV] at h1 h2
  refine AC.fresh fun hf => ?_; refine AC.enter Try.func6 rfl Try.ntmps6 (by simp) ?_
  simp [modV, actsC]
  refine drawK.intro mixed [(0, []), (1, []), (2, []), (4, []), (3, [4]), (5, []), (6, []), (7, []), (8, [])] (by kernel_rfl) ?_
  simp
  refine ACK.rt (lives06_ac _ _) ?_
  simp [aload, apart, upd_eq]
  refine ACK.rt (h1 _ _) ?_
  simp [lk_some, chkK, upd_eq]
  refine ACK.rt (h2 _ _) ?_
  simp [aeqS3 fields_fault]
  exact resK.of (η' := η) (le_upd (AHeap.le_rfl _) (hf _ (Nat.le_refl _))) _ (Nat.le_refl _) ⟨rfl, rfl⟩
end Go.Proofs.Ytkhoelmbcmkhjaa
