/- Layer 2 (kinds): the laws KindsOf, KindsSame, KindsRight walked: each returns true. -/
import Derived.Test.YtkhoelmbcmkhjaaDoorDc
namespace Go.Proofs.YtkhoelmbcmkhjaaDoor
open Go.RowKit (wrap64 Hid Below intOf)

theorem kindsOf_calls (k : Int) (w : World) (hk : I64 k) :
    Calls Tryd.prog 3 #[.int .i64 k] w fun e w' => e = .returned (.bool true) ∧ w' = w := by
  by_cases h1 : 0 ≤ k ∧ k < 8
  · have h2 : ofF k = (k + 16, true) := by unfold ofF; rw [if_pos h1]
    have h3 : actorF (k + 16) = (k, true) := by unfold actorF; rw [if_pos (by omega)]; simp
    have h4 : rightB (k + 16) (k + 1) = true := by simp [rightB]; omega
    have h5 : rightB (k + 16) k = false := by simp [rightB]; omega
    have ha := fun w => kinds_Actor_calls (k + 16) w (by unfold I64; omega)
    have HA := Lib.hid ha; clear ha
    obtain ⟨h1, h1'⟩ := h1
    clear hk
    go_enter Tryd.func3, Tryd.ntmps3
    go_wp2_with (first | (go_at_call 9; refine (lives_calls _).mono ?_; rintro e w' ⟨rfl, rfl⟩) | (go_at_call 10; refine (kinds_Of_calls _ _).mono ?_; rintro e w' ⟨rfl, rfl⟩; rw [h2]) | (go_at_call 11; refine (HA.out _).mono ?_; rintro e w' ⟨rfl, rfl⟩; rw [h3]) | (go_at_call 12; refine (kinds_Right_calls _ _ _).mono ?_; rintro e w' ⟨rfl, rfl⟩; first | rw [h4] | rw [h5]))
    all_goals (go_ret; refine ⟨ret_bool ?_, rfl⟩; simp)
  · have h2 : ofF k = (0, false) := by unfold ofF; rw [if_neg h1]
    by_cases h3 : k < 0
    · clear h1 hk
      go_enter Tryd.func3, Tryd.ntmps3
      go_wp2_with (first | (go_at_call 9; refine (lives_calls _).mono ?_; rintro e w' ⟨rfl, rfl⟩) | (go_at_call 10; refine (kinds_Of_calls _ _).mono ?_; rintro e w' ⟨rfl, rfl⟩; rw [h2]))
      all_goals (go_ret; refine ⟨ret_bool ?_, rfl⟩; simp)
    · have h4 : 8 ≤ k := by omega
      clear h1 hk
      go_enter Tryd.func3, Tryd.ntmps3
      go_wp2_with (first | (go_at_call 9; refine (lives_calls _).mono ?_; rintro e w' ⟨rfl, rfl⟩) | (go_at_call 10; refine (kinds_Of_calls _ _).mono ?_; rintro e w' ⟨rfl, rfl⟩; rw [h2]))
      all_goals (go_ret; refine ⟨ret_bool ?_, rfl⟩; simp)

theorem kindsSame_calls (v1 v2 : Value) (l1 l2 : List Int) (w : World) (h1 : IntsAt w v1 l1) (h2 : IntsAt w v2 l2) :
    Calls Tryd.prog 4 #[v1, v2] w fun e w' => e = .returned (.bool true) ∧ ∃ n, w' = w.drewN n := by
  have ha := kinds_Same_calls v1 v2 l1 l2 w h1 h2
  have hb := fun n => ref02_Same_calls v1 v2 l1 l2 (w.drewN n) (show IntsAt _ _ _ from h1) (show IntsAt _ _ _ from h2)
  have HA := Lib.hid ha; have HB := Lib.hid hb; clear ha hb h1 h2
  go_enter Tryd.func4, Tryd.ntmps4
  go_wp2_with (first | (go_at_call 9; refine (lives_calls _).mono ?_; rintro e w' ⟨rfl, rfl⟩) | (go_at_call 13; refine HA.out.mono ?_; rintro e w' ⟨rfl, n, rfl⟩) | (go_at_call 14; refine (HB.out _).mono ?_; rintro e w' ⟨rfl, m, rfl⟩))
  go_ret; exact ⟨ret_bool (by simp), _, rfl⟩

theorem kindsRight_calls (t n : Int) (v : Value) (l : List Int) (w : World) (h : IntsAt w v l) (ht : I64 t) (hn : I64 n) :
    Calls Tryd.prog 5 #[.int .i64 t, v, .int .i64 n] w fun e w' => e = .returned (.bool true) ∧ Below w.heap.size w w' := by
  have ha := fun w => kinds_Actor_calls t w ht
  have hb := fun w => ref02_Actor_calls t w ht
  have hc := fun w => ref02_Right_calls t n w hn
  have hd := kinds_All_calls v l n w h
  have he := fun w' (hw : Below w.heap.size w w') => ref02_All_calls v l n w' (h.below hw) hn
  have HA := Lib.hid ha; have HB := Lib.hid hb; have HC := Lib.hid hc; have HD := Lib.hid hd; have HE := Lib.hid he; clear ha hb hc hd he h ht hn
  go_enter Tryd.func5, Tryd.ntmps5
  go_wp2_with (first | (go_at_call 9; refine (lives_calls _).mono ?_; rintro e w' ⟨rfl, rfl⟩) | (go_at_call 11; refine (HA.out _).mono ?_; rintro e w' ⟨rfl, rfl⟩) | (go_at_call 15; refine (HB.out _).mono ?_; rintro e w' ⟨rfl, rfl⟩) | (go_at_call 12; refine (kinds_Right_calls _ _ _).mono ?_; rintro e w' ⟨rfl, rfl⟩) | (go_at_call 16; refine (HC.out _).mono ?_; rintro e w' ⟨rfl, rfl⟩) | (go_at_call 17; refine HD.out.mono ?_; rintro e w' ⟨rfl, hw⟩) | (go_at_call 18; refine (HE.out _ (by assumption)).mono ?_; rintro e w' ⟨rfl, rfl⟩))
  go_ret; exact ⟨rfl, by assumption⟩
end Go.Proofs.YtkhoelmbcmkhjaaDoor
