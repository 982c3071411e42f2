/- Layer 16 (machine): MachineNil, walked. The row of MachineNil. -/
import Derived.Test.YtbomkomipaipmaaGreatVj
namespace Go.Proofs.YtbomkomipaipmaaGreat
set_option maxRecDepth 100000

set_option maxHeartbeats 4000000 in
theorem machNil_ac (pid : Int) {η : AHeap} {n : Nat} : AC Tryz.prog 11 [.int .i64 pid] η n (Rt (.bool true) η n) := by
  refine AC.pure (.bool _) ?_
  refine AC.fresh fun hf => ?_; refine AC.enter Tryz.func11 rfl Tryz.ntmps11 (by simp) ?_
  simp
  refine ACK.rt lives_ac ?_
  simp
  refine ACK.rt (doNil_ac pid) ?_
  simp
  refine ACK.rt (lookNil_ac pid) ?_
  simp [lookV, stV, stC, sta0, astore, upd_apply, upd_upd]
  refine ACK.rt tickNil_ac ?_
  simp
  refine ACK.rt nowNil_ac ?_
  simp
  refine ACK.rt (runnableNil_ac pid) ?_
  simp
  refine ACK.rt liveNil_ac ?_
  simp
  refine ACK.rt endNil_ac ?_
  simp
  refine ACK.rt allNil_ac ?_
  simp
  exact resK.of (η' := η) (le_old hf fun q hq => by simp only [upd_apply]; repeat rw [if_neg (by omega)]) _ (Nat.le_refl _) ⟨rfl, rfl⟩
end Go.Proofs.YtbomkomipaipmaaGreat
namespace Go.Proofs.YtbomkomipaipmaaGreat
open Go.ChangeShapes Go.WideShapes Go.ChangeAt Go.WideMaps Go.WideElems Go.RowKit

set_option maxRecDepth 100000 in
theorem machineNil_lifted (os : Os) (started : os.Started) (H : Type) (enc : TypeId × Value → H) :
    ReturnsInHanded {} Tryz.checked os 11 .any (Rows.machineNilSpec.pre6 enc Tryz.prog Tryz.f11 Rows.machineNilRow.domain false) (Rows.machineNilSpec.post enc Tryz.prog Tryz.f11 false true false false) := by
  refine returnsInHanded_of_change_sized (C := Tryz.checked) own started (by kernel_rfl) Tryz.func11
    (ChangeSpec.witness6 (enc := enc) (C := Tryz.checked) false ⟨#[], #[.int .i64 0], []⟩ 12 (by kernel_rfl) (by kernel_rfl) (by kernel_rfl) (by kernel_rfl)) ?_
  intro W base args ds gs before hval0 hW _ hsz0 _
  have hval : ∀ (j : Nat) t v, Tryz.f11.params[j]? = some t → args[j]? = some v → Value.okWide Tryz.prog W .any base t v := hval0
  obtain ⟨p, q, hA0, hV, rfl, hfz, hnd⟩ := id hW
  have hA : DataW.TrodAll enc Tryz.prog W 0 (fun _ => true) true Tryz.f11.params.toList args.toList ds p := hA0
  have hsz : (DataW.weightsEach Tryz.prog (Tryz.f11.params.toList ++ Rows.machineNilSpec.plain.varTypes Tryz.prog) (ds ++ gs)).all (· ≤ reachBytes) = true := hsz0
  rw [Tryz.params11] at hA hval hsz
  obtain ⟨v0, d0, rfl, rfl, h0⟩ := trodAll_one hA
  obtain ⟨a0, w0, g0⟩ := arg_int Tryz.underlying2 (hval 0 2 v0 rfl rfl) (lies_i64 Tryz.underlying2) h0 (fun n hn => by simpa using List.all_eq_true.1 hsz _ (DataW.weights_mem_each (j := 0) (t := 2) rfl rfl n hn))
  refine (law_calls (((machNil_ac a0 (η := heap0) (n := 0)).mono fun v _ _ h => h.1)) (W := W) (vals := #[v0]) rfl (args1 g0)).mono fun e W' ⟨he, hw⟩ => ?_
  subst he
  exact ⟨_, rfl, post_true laidOut (by kernel_rfl) rfl rfl Tryz.underlying4 hW rfl hw⟩

theorem machineNil_holds : Rows.MachineNilSaid :=
  OpenClaim.holds_of_wide 11 Tryz.f11 rfl rfl rfl rfl rfl rfl rfl ⟨rfl, rfl, rfl, rfl, rfl⟩ rfl rfl rfl rfl rfl (by kernel_rfl) Tryz.func11 (by kernel_rfl)
    (of_decide_eq_true (by kernel_rfl)) (by unfold Func.isWrapper; first | (rw [if_pos (by decide +kernel)]; kernel_rfl) | (rw [if_neg (by decide +kernel)]; exact ⟨rfl, rfl⟩))
    (fun os started H enc _ => machineNil_lifted os started H enc)
#print axioms machineNil_holds
end Go.Proofs.YtbomkomipaipmaaGreat
