/- The row of ProcStarts. -/
import Derived.Test.YtkhoelmbcmkhjaaR0
import Derived.Test.YtkhoelmbcmkhjaaUv
import Derived.Test.YtkhoelmbcmkhjaaRt
namespace Go.Proofs.Ytkhoelmbcmkhjaa
open Go.ChangeShapes Go.WideShapes Go.ChangeAt Go.WideMaps Go.WideElems Go.RowKit

set_option maxRecDepth 100000 in
theorem procStarts_lifted (os : Os) (started : os.Started) (H : Type) (enc : TypeId × Value → H) :
    ReturnsInHanded {} Try.checked os 12 .any (Rows.procStartsSpec.pre6 enc Try.prog Try.f12 Rows.procStartsRow.domain false) (Rows.procStartsSpec.post enc Try.prog Try.f12 false true false false) := by
  refine returnsInHanded_of_change_sized (C := Try.checked) own started (by kernel_rfl) Try.func12
    (ChangeSpec.witness6 (enc := enc) (C := Try.checked) false ⟨#[], #[.agg #[.slice none 0 0], .int .i64 0, .slice none 0 0], []⟩ 12 (by kernel_rfl) (by kernel_rfl) (by kernel_rfl) (by kernel_rfl)) ?_
  intro W base args ds gs before hval0 hW _ hsz0 _
  have hval : ∀ (j : Nat) t v, Try.f12.params[j]? = some t → args[j]? = some v → Value.okWide Try.prog W .any base t v := hval0
  obtain ⟨p, q, hA0, hV, rfl, hfz, hnd⟩ := id hW
  have hA : DataW.TrodAll enc Try.prog W 0 (fun _ => true) true Try.f12.params.toList args.toList ds p := hA0
  have hsz : (DataW.weightsEach Try.prog (Try.f12.params.toList ++ Rows.procStartsSpec.plain.varTypes Try.prog) (ds ++ gs)).all (· ≤ reachBytes) = true := hsz0
  rw [Try.params12] at hA hval hsz
  obtain ⟨v0, v1, v2, d0, d1, d2, p0, p1, p2, rfl, rfl, rfl, h0, h1, h2⟩ := trodAll_three hA
  obtain ⟨a0, w0, g0⟩ := arg_agg (okWide_agg Try.underlying24 (hval 0 24 v0 rfl rfl)) (fun _ => rfl) lies_mod h0 (fun n hn => by simpa using List.all_eq_true.1 hsz _ (DataW.weights_mem_each (j := 0) (t := 24) rfl rfl n hn))
  obtain ⟨a1, w1, g1⟩ := arg_int Try.underlying3 (hval 1 3 v1 rfl rfl) (lies_i64 Try.underlying3) h1 (fun n hn => by simpa using List.all_eq_true.1 hsz _ (DataW.weights_mem_each (j := 1) (t := 3) rfl rfl n hn))
  obtain ⟨a2, w2, g2⟩ := arg_slice Try.underlying25 (hval 2 25 v2 rfl rfl) lies_longs h2 (fun n hn => by simpa using List.all_eq_true.1 hsz _ (DataW.weights_mem_each (j := 2) (t := 25) rfl rfl n hn))
  refine (law_calls (((starts_ac a0 a1 a2 heap0 0 w0 w2).mono fun v _ _ h => h.1)) (W := W) (vals := #[v0, v1, v2]) rfl (args3 g0 g1 g2)).mono fun e W' ⟨he, hw⟩ => ?_
  subst he
  exact ⟨_, rfl, post_true laidOut (by kernel_rfl) rfl rfl Try.underlying4 hW rfl hw⟩

theorem procStarts_holds : Rows.ProcStartsSaid :=
  OpenClaim.holds_of_wide 12 Try.f12 rfl rfl rfl rfl rfl rfl rfl ⟨rfl, rfl, rfl, rfl, rfl⟩ rfl rfl rfl rfl rfl (by kernel_rfl) Try.func12 (by kernel_rfl)
    (of_decide_eq_true (by kernel_rfl)) (by unfold Func.isWrapper; first | (rw [if_pos (by decide +kernel)]; kernel_rfl) | (rw [if_neg (by decide +kernel)]; exact ⟨rfl, rfl⟩))
    (fun os started H enc _ => procStarts_lifted os started H enc)
#print axioms procStarts_holds
end Go.Proofs.Ytkhoelmbcmkhjaa
