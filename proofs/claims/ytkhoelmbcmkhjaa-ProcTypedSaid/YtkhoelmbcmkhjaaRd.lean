/- The row of ProcTyped. -/
import Derived.Test.YtkhoelmbcmkhjaaR0
import Derived.Test.YtkhoelmbcmkhjaaUv
import Derived.Test.YtkhoelmbcmkhjaaRt
namespace Go.Proofs.Ytkhoelmbcmkhjaa
open Go.ChangeShapes Go.WideShapes Go.ChangeAt Go.WideMaps Go.WideElems Go.RowKit

set_option maxRecDepth 100000 in
theorem procTyped_lifted (os : Os) (started : os.Started) (H : Type) (enc : TypeId × Value → H) :
    ReturnsInHanded {} Try.checked os 13 .any (Rows.procTypedSpec.pre6 enc Try.prog Try.f13 Rows.procTypedRow.domain false) (Rows.procTypedSpec.post enc Try.prog Try.f13 false true false false) := by
  refine returnsInHanded_of_change_sized (C := Try.checked) own started (by kernel_rfl) Try.func13
    (ChangeSpec.witness6 (enc := enc) (C := Try.checked) false ⟨#[], #[.agg #[.slice none 0 0, .int .i64 0, .int .i64 0, .int .i64 0, .slice none 0 0, .slice none 0 0, .bool false, .int .i64 0, .int .i64 0, .slice none 0 0]], []⟩ 12 (by kernel_rfl) (by kernel_rfl) (by kernel_rfl) (by kernel_rfl)) ?_
  intro W base args ds gs before hval0 hW _ hsz0 _
  have hval : ∀ (j : Nat) t v, Try.f13.params[j]? = some t → args[j]? = some v → Value.okWide Try.prog W .any base t v := hval0
  obtain ⟨p, q, hA0, hV, rfl, hfz, hnd⟩ := id hW
  have hA : DataW.TrodAll enc Try.prog W 0 (fun _ => true) true Try.f13.params.toList args.toList ds p := hA0
  have hsz : (DataW.weightsEach Try.prog (Try.f13.params.toList ++ Rows.procTypedSpec.plain.varTypes Try.prog) (ds ++ gs)).all (· ≤ reachBytes) = true := hsz0
  rw [Try.params13] at hA hval hsz
  obtain ⟨v0, d0, rfl, rfl, h0⟩ := trodAll_one hA
  obtain ⟨a0, w0, g0⟩ := arg_agg (okWide_agg Try.underlying30 (hval 0 30 v0 rfl rfl)) (fun _ => rfl) lies_case h0 (fun n hn => by simpa using List.all_eq_true.1 hsz _ (DataW.weights_mem_each (j := 0) (t := 30) rfl rfl n hn))
  refine (law_calls (((typed_ac a0 heap0 0 w0).mono fun v _ _ h => h.1)) (W := W) (vals := #[v0]) rfl (args1 g0)).mono fun e W' ⟨he, hw⟩ => ?_
  subst he
  exact ⟨_, rfl, post_true laidOut (by kernel_rfl) rfl rfl Try.underlying4 hW rfl hw⟩

theorem procTyped_holds : Rows.ProcTypedSaid :=
  OpenClaim.holds_of_wide 13 Try.f13 rfl rfl rfl rfl rfl rfl rfl ⟨rfl, rfl, rfl, rfl, rfl⟩ rfl rfl rfl rfl rfl (by kernel_rfl) Try.func13 (by kernel_rfl)
    (of_decide_eq_true (by kernel_rfl)) (by unfold Func.isWrapper; first | (rw [if_pos (by decide +kernel)]; kernel_rfl) | (rw [if_neg (by decide +kernel)]; exact ⟨rfl, rfl⟩))
    (fun os started H enc _ => procTyped_lifted os started H enc)
#print axioms procTyped_holds
end Go.Proofs.Ytkhoelmbcmkhjaa
