/- The row of MachineEnds. -/
import Derived.Test.YtbomkomipaipmaaGreatWEnds
namespace Go.Proofs.YtbomkomipaipmaaGreat
theorem args3 {own : Own} {M : Mem} {a b d : AVal} {u v w : Value} (h : VR own M a u) (k : VR own M b v) (l : VR own M d w) : ∀ (i : Nat) c, [a, b, d][i]? = some c → VR own M c (#[u, v, w].getD i undef)
  | 0, c, e => by simp at e; subst e; exact h
  | 1, c, e => by simp at e; subst e; exact k
  | 2, c, e => by simp at e; subst e; exact l
  | i + 3, c, e => by simp at e
end Go.Proofs.YtbomkomipaipmaaGreat
namespace Go.Proofs.YtbomkomipaipmaaGreat
open Go.ChangeShapes Go.WideShapes Go.ChangeAt Go.WideMaps Go.WideElems Go.RowKit

set_option maxRecDepth 100000 in
theorem machineEnds_lifted (os : Os) (started : os.Started) (H : Type) (enc : TypeId × Value → H) :
    ReturnsInHanded {} Tryz.checked os 10 .any (Rows.machineEndsSpec.pre6 enc Tryz.prog Tryz.f10 Rows.machineEndsRow.domain false) (Rows.machineEndsSpec.post enc Tryz.prog Tryz.f10 false true false false) := by
  refine returnsInHanded_of_change_sized (C := Tryz.checked) own started (by kernel_rfl) Tryz.func10
    (ChangeSpec.witness6 (enc := enc) (C := Tryz.checked) false ⟨#[], #[.agg #[.slice none 0 0], .slice none 0 0, .int .i64 0], []⟩ 12 (by kernel_rfl) (by kernel_rfl) (by kernel_rfl) (by kernel_rfl)) ?_
  intro W base args ds gs before hval0 hW _ hsz0 _
  have hval : ∀ (j : Nat) t v, Tryz.f10.params[j]? = some t → args[j]? = some v → Value.okWide Tryz.prog W .any base t v := hval0
  obtain ⟨p, q, hA0, hV, rfl, hfz, hnd⟩ := id hW
  have hA : DataW.TrodAll enc Tryz.prog W 0 (fun _ => true) true Tryz.f10.params.toList args.toList ds p := hA0
  have hsz : (DataW.weightsEach Tryz.prog (Tryz.f10.params.toList ++ Rows.machineEndsSpec.plain.varTypes Tryz.prog) (ds ++ gs)).all (· ≤ reachBytes) = true := hsz0
  rw [Tryz.params10] at hA hval hsz
  obtain ⟨v0, v1, v2, d0, d1, d2, p0, p1, p2, rfl, rfl, rfl, h0, h1, h2⟩ := trodAll_three hA
  obtain ⟨a0, w0, g0⟩ := arg_agg (okWide_agg Tryz.underlying24 (hval 0 24 v0 rfl rfl)) (fun _ => rfl) lies_mod h0 (fun n hn => by simpa using List.all_eq_true.1 hsz _ (DataW.weights_mem_each (j := 0) (t := 24) rfl rfl n hn))
  obtain ⟨a1, w1, g1⟩ := arg_slice Tryz.underlying25 (hval 1 25 v1 rfl rfl) lies_picks h1 (fun n hn => by simpa using List.all_eq_true.1 hsz _ (DataW.weights_mem_each (j := 1) (t := 25) rfl rfl n hn))
  obtain ⟨a2, w2, g2⟩ := arg_int Tryz.underlying3 (hval 2 3 v2 rfl rfl) (lies_i64 Tryz.underlying3) h2 (fun n hn => by simpa using List.all_eq_true.1 hsz _ (DataW.weights_mem_each (j := 2) (t := 3) rfl rfl n hn))
  refine (law_calls (((ends_ac a0 a1 a2 w0 w1.1 heap0 0).mono fun v _ _ h => h.1)) (W := W) (vals := #[v0, v1, v2]) rfl (args3 g0 g1 g2)).mono fun e W' ⟨he, hw⟩ => ?_
  subst he
  exact ⟨_, rfl, post_true laidOut (by kernel_rfl) rfl rfl Tryz.underlying4 hW rfl hw⟩

theorem machineEnds_holds : Rows.MachineEndsSaid :=
  OpenClaim.holds_of_wide 10 Tryz.f10 rfl rfl rfl rfl rfl rfl rfl ⟨rfl, rfl, rfl, rfl, rfl⟩ rfl rfl rfl rfl rfl (by kernel_rfl) Tryz.func10 (by kernel_rfl)
    (of_decide_eq_true (by kernel_rfl)) (by unfold Func.isWrapper; first | (rw [if_pos (by decide +kernel)]; kernel_rfl) | (rw [if_neg (by decide +kernel)]; exact ⟨rfl, rfl⟩))
    (fun os started H enc _ => machineEnds_lifted os started H enc)
#print axioms machineEnds_holds
end Go.Proofs.YtbomkomipaipmaaGreat
