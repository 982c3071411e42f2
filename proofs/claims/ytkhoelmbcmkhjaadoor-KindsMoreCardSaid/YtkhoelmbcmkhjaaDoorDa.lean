/- Layer 2 (kinds): names, and the head that each law asks first: pid3. -/
import Derived.Test.YtkhoelmbcmkhjaaDoorRows
import Derived.Test.YtkhoelmbcmkhjaaDoorChecked
import Derived.Test.YtkhoelmbcmkhjaaDoorBase
import Derived.WalkKit
import Derived.WalkSpells
import Derived.WalkLawsBesides
namespace Go.Proofs.YtkhoelmbcmkhjaaDoor
open Go.RowKit (wrap64 Hid Below intOf)

theorem ret_bool {a b : Bool} (h : a = b) : Ending.returned (.bool a) = .returned (.bool b) := by rw [h]
theorem ret_int {k : IntKind} {a b : Int} (h : a = b) : Ending.returned (.int k a) = .returned (.int k b) := by rw [h]

def I64 (x : Int) : Prop := -9223372036854775808 ≤ x ∧ x ≤ 9223372036854775807

def rightB (t n : Int) : Bool := decide (t = 1 ∨ t = 2 ∨ (16 ≤ t ∧ t < 16 + min (max n 0) 8))

theorem kinds_Right_calls (t n : Int) (w : World) :
    Calls Tryd.prog 12 #[.int .i64 t, .int .i64 n] w fun e w' => e = .returned (.bool (rightB t n)) ∧ w' = w := by
  go_enter Tryd.func12, Tryd.ntmps12
  go_wp2
  all_goals (go_ret; refine ⟨ret_bool ?_, rfl⟩; rw [Bool.eq_iff_iff]; simp [rightB]; try omega)

def actorF (t : Int) : Int × Bool := if 16 ≤ t ∧ t < 24 then (t - 16, true) else (0, false)
theorem kinds_Actor_calls (t : Int) (w : World) (ht : I64 t) :
    Calls Tryd.prog 11 #[.int .i64 t] w fun e w' => e = .returned (.tuple #[.int .i64 (actorF t).1, .bool (actorF t).2]) ∧ w' = w := by
  unfold I64 at ht
  by_cases h1 : t < 16
  · have h2 : actorF t = (0, false) := by unfold actorF; rw [if_neg (by omega)]
    rw [h2]
    go_enter Tryd.func11, Tryd.ntmps11
    go_wp2
    go_ret2; exact ⟨rfl, rfl⟩
  · by_cases h3 : t < 24
    · have h2 : actorF t = (t - 16, true) := by unfold actorF; rw [if_pos (by omega)]
      have h4 : rightB t 8 = true := by simp [rightB]; omega
      rw [h2]
      go_enter Tryd.func11, Tryd.ntmps11
      go_wp2_with (go_at_call 12; refine (kinds_Right_calls _ _ _).mono ?_; rintro e w' ⟨rfl, rfl⟩; rw [h4])
      go_ret2; exact ⟨rfl, rfl⟩
    · have h2 : actorF t = (0, false) := by unfold actorF; rw [if_neg (by omega)]
      have h4 : rightB t 8 = false := by simp [rightB]; omega
      rw [h2]
      go_enter Tryd.func11, Tryd.ntmps11
      go_wp2_with (go_at_call 12; refine (kinds_Right_calls _ _ _).mono ?_; rintro e w' ⟨rfl, rfl⟩; rw [h4])
      go_ret2; exact ⟨rfl, rfl⟩

def ofF (k : Int) : Int × Bool := if 0 ≤ k ∧ k < 8 then (k + 16, true) else (0, false)
theorem kinds_Of_calls (k : Int) (w : World) :
    Calls Tryd.prog 10 #[.int .i64 k] w fun e w' => e = .returned (.tuple #[.int .i64 (ofF k).1, .bool (ofF k).2]) ∧ w' = w := by
  by_cases h1 : 0 ≤ k ∧ k < 8
  · have h2 : ofF k = (k + 16, true) := by unfold ofF; rw [if_pos h1]
    have h3 : (16 : Int) + k = k + 16 := by omega
    obtain ⟨h1, h1'⟩ := h1
    rw [h2]
    go_enter Tryd.func10, Tryd.ntmps10
    go_wp2
    go_ret2; exact ⟨by simp [h3], rfl⟩
  · have h2 : ofF k = (0, false) := by unfold ofF; rw [if_neg h1]
    rw [h2]
    by_cases h3 : k < 0
    · clear h1
      go_enter Tryd.func10, Tryd.ntmps10
      go_wp2
      go_ret2; exact ⟨rfl, rfl⟩
    · have h4 : 8 ≤ k := by omega
      clear h1
      go_enter Tryd.func10, Tryd.ntmps10
      go_wp2
      go_ret2; exact ⟨rfl, rfl⟩

theorem hasPrefix_pid3 (w : World) : Calls Tryd.prog 43 #[.string { data := #[112, 105, 100, 51] }, .string { data := #[112, 105, 100] }] w fun e w' => e = .returned (.bool true) ∧ w' = w := by
  go_enter Tryd.func43, Tryd.ntmps43
  go_wp2
  go_ret; exact ⟨by kernel_rfl, rfl⟩
theorem cutPrefix0_pid3 (w : World) : Calls Tryd.prog 37 #[.string { data := #[112, 105, 100, 51] }, .string { data := #[112, 105, 100] }] w fun e w' => e = .returned (.tuple #[.string { data := #[51] }, .bool true]) ∧ w' = w := by
  go_enter Tryd.func37, Tryd.ntmps37
  go_wp2_with (go_at_call 43; refine (hasPrefix_pid3 _).mono ?_; rintro e w' ⟨rfl, rfl⟩)
  go_ret2; exact ⟨rfl, rfl⟩
theorem cutPrefix_pid3 (w : World) : Calls Tryd.prog 31 #[.string { data := #[112, 105, 100, 51] }, .string { data := #[112, 105, 100] }] w fun e w' => e = .returned (.tuple #[.string { data := #[51] }, .bool true]) ∧ w' = w := by
  go_enter Tryd.func31, Tryd.ntmps31
  go_wp2_with (go_at_call 37; refine (cutPrefix0_pid3 _).mono ?_; rintro e w' ⟨rfl, rfl⟩)
  go_ret2; exact ⟨rfl, rfl⟩
theorem parse_pid3 (w : World) : Calls Tryd.prog 20 #[.string { data := #[112, 105, 100, 51] }] w fun e w' => e = .returned (.tuple #[.int .i64 19, .bool true]) ∧ w' = w := by
  go_enter Tryd.func20, Tryd.ntmps20
  go_wp2_with (first | (go_at_call 31; refine (cutPrefix_pid3 _).mono ?_; rintro e w' ⟨rfl, rfl⟩) | (go_at_call 10; refine (kinds_Of_calls _ _).mono ?_; rintro e w' ⟨rfl, rfl⟩))
  go_ret2; exact ⟨rfl, rfl⟩

def digS (k : Int) : ByteArray := { data := #[(48 + k.toNat).toUInt8] }
theorem small_calls (k : Int) (h0 : 0 ≤ k) (h8 : k < 8) (w : World) : Calls Tryd.prog 49 #[.int .i64 k] w fun e w' => e = .returned (.string (digS k)) ∧ w' = w := by
  obtain rfl | rfl | rfl | rfl | rfl | rfl | rfl | rfl : k = 0 ∨ k = 1 ∨ k = 2 ∨ k = 3 ∨ k = 4 ∨ k = 5 ∨ k = 6 ∨ k = 7 := by omega
  all_goals
    go_enter Tryd.func49, Tryd.ntmps49
    go_wp2
    go_ret; exact ⟨rfl, rfl⟩
theorem formatInt_calls (k : Int) (h0 : 0 ≤ k) (h8 : k < 8) (w : World) : Calls Tryd.prog 42 #[.int .i64 k, .int .i64 10] w fun e w' => e = .returned (.string (digS k)) ∧ w' = w := by
  have hs := small_calls k h0 h8
  go_enter Tryd.func42, Tryd.ntmps42
  go_wp2_with (go_at_call 49; refine (hs _).mono ?_; rintro e w' ⟨rfl, rfl⟩)
  go_ret; exact ⟨rfl, rfl⟩
theorem itoa0_calls (k : Int) (h0 : 0 ≤ k) (h8 : k < 8) (w : World) : Calls Tryd.prog 36 #[.int .i64 k] w fun e w' => e = .returned (.string (digS k)) ∧ w' = w := by
  have hs := formatInt_calls k h0 h8
  go_enter Tryd.func36, Tryd.ntmps36
  go_wp2_with (go_at_call 42; refine (hs _).mono ?_; rintro e w' ⟨rfl, rfl⟩)
  go_ret; exact ⟨rfl, rfl⟩
theorem itoa_calls (k : Int) (h0 : 0 ≤ k) (h8 : k < 8) (w : World) : Calls Tryd.prog 30 #[.int .i64 k] w fun e w' => e = .returned (.string (digS k)) ∧ w' = w := by
  have hs := itoa0_calls k h0 h8
  go_enter Tryd.func30, Tryd.ntmps30
  go_wp2_with (go_at_call 36; refine (hs _).mono ?_; rintro e w' ⟨rfl, rfl⟩)
  go_ret; exact ⟨rfl, rfl⟩

/-- a type's name -/
def nameF (t : Int) : ByteArray := if t = 1 then { data := #[105, 110, 116] } else if t = 2 then { data := #[98, 111, 111, 108] } else if 16 ≤ t ∧ t < 24 then { data := #[112, 105, 100, (48 + (t - 16).toNat).toUInt8] } else { data := #[] }
theorem kinds_Name_calls (t : Int) (w : World) (ht : I64 t) : Calls Tryd.prog 19 #[.int .i64 t] w fun e w' => e = .returned (.string (nameF t)) ∧ w' = w := by
  have ha := fun w => kinds_Actor_calls t w ht
  by_cases h1 : t = 1
  · subst h1
    go_enter Tryd.func19, Tryd.ntmps19
    go_wp2
    go_ret; exact ⟨rfl, rfl⟩
  by_cases h2 : t = 2
  · subst h2
    go_enter Tryd.func19, Tryd.ntmps19
    go_wp2
    go_ret; exact ⟨rfl, rfl⟩
  have h1' : (t == 1) = false := by simpa using h1
  have h2' : (t == 2) = false := by simpa using h2
  by_cases h3 : 16 ≤ t ∧ t < 24
  · have h4 : actorF t = (t - 16, true) := by unfold actorF; rw [if_pos h3]
    have hs := itoa_calls (t - 16) (by omega) (by omega)
    have h5 : Hid (nameF t = { data := #[112, 105, 100] } ++ digS (t - 16)) := by
      show _ = _
      unfold nameF
      rw [if_neg h1, if_neg h2, if_pos h3]
      rfl
    clear h1 h2
    go_enter Tryd.func19, Tryd.ntmps19
    go_wp2_with (first | (go_at_call 11; refine (ha _).mono ?_; rintro e w' ⟨rfl, rfl⟩; rw [h4]) | (go_at_call 30; refine (hs _).mono ?_; rintro e w' ⟨rfl, rfl⟩))
    go_ret; exact ⟨by rw [h5.out]; rfl, rfl⟩
  · have h4 : actorF t = (0, false) := by unfold actorF; rw [if_neg h3]
    have h5 : Hid (nameF t = { data := #[] }) := by
      show _ = _
      unfold nameF
      rw [if_neg h1, if_neg h2, if_neg h3]
    clear h1 h2 h3
    go_enter Tryd.func19, Tryd.ntmps19
    go_wp2_with (go_at_call 11; refine (ha _).mono ?_; rintro e w' ⟨rfl, rfl⟩; rw [h4])
    go_ret; exact ⟨by rw [h5.out]; rfl, rfl⟩

theorem lives_calls (w : World) : Calls Tryd.prog 9 #[] w fun e w' => e = .returned (.bool true) ∧ w' = w := by
  have hn := fun w => kinds_Name_calls 19 w (by unfold I64; omega)
  have hnm : nameF 19 = { data := #[112, 105, 100, 51] } := by rfl
  go_enter Tryd.func9, Tryd.ntmps9
  go_wp2_with (first | (go_at_call 20; refine (parse_pid3 _).mono ?_; rintro e w' ⟨rfl, rfl⟩) | (go_at_call 19; refine (hn _).mono ?_; rintro e w' ⟨rfl, rfl⟩; rw [hnm]) | (go_at_call 12; refine (kinds_Right_calls _ _ _).mono ?_; rintro e w' ⟨rfl, rfl⟩))
  go_ret; exact ⟨by kernel_rfl, rfl⟩
end Go.Proofs.YtkhoelmbcmkhjaaDoor
