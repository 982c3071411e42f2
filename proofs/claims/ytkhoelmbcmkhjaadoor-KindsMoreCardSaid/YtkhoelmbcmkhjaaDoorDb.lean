/- Layer 2 (kinds): lists of types that are the same, and which types are right, as the code and as the document say it. -/
import Derived.Test.YtkhoelmbcmkhjaaDoorDa
import Derived.Outline
import Derived.Deep.QuietTactic
import Derived.BigQuiet
namespace Go.Proofs.YtkhoelmbcmkhjaaDoor
open Go.RowKit (wrap64 Hid Below intOf)

theorem eq_of_take {α : Type} {a b : List α} (hl : a.length = b.length) (h : a.take a.length = b.take a.length) : a = b := by
  rw [List.take_length, hl, List.take_length] at h; exact h
theorem take_succ_eq {α : Type} {a b : List α} {k : Nat} (ha : k < a.length) (hb : k < b.length) (h : a.take k = b.take k) (he : a[k] = b[k]) : a.take (k + 1) = b.take (k + 1) := by
  rw [List.take_succ_eq_append_getElem ha, List.take_succ_eq_append_getElem hb, h, he]
theorem ne_of_get {α : Type} {a b : List α} {k : Nat} (ha : k < a.length) (hb : k < b.length) (he : a[k] ≠ b[k]) : a ≠ b := fun e => by subst e; exact he rfl

/-- The element at an index that is there: its place, and that it is the slice's. -/
theorem IntsAt.open {w : World} {v : Value} {l : List Int} (h : IntsAt w v l) : ∃ a cap, v = .slice a l.length cap ∧ l.length ≤ 17592186044416 ∧
    ∀ k (hk : k < l.length), ∃ b o, a = some ⟨b, o, none⟩ ∧ w.cell? ⟨b, o + k, none⟩ = some (.int .i64 l[k]) := by
  obtain ⟨a, cap, h1, h2, h3, h4⟩ := h.cells
  refine ⟨a, cap, h1, h2, fun k hk => ?_⟩
  obtain ⟨b, o, e⟩ := h3 (by omega)
  exact ⟨b, o, e, h4 b o e k hk⟩

set_option maxHeartbeats 400000 in
theorem ref02_Same_calls (v1 v2 : Value) (l1 l2 : List Int) (w : World) (h1 : IntsAt w v1 l1) (h2 : IntsAt w v2 l2) :
    Calls Tryd.prog 14 #[v1, v2] w fun e w' => e = .returned (.bool (decide (l1 = l2))) ∧ ∃ n, w' = w.drewN n := by
  obtain ⟨a1, c1, rfl, hl1, g1⟩ := h1.open
  obtain ⟨a2, c2, rfl, hl2, g2⟩ := h2.open
  clear h1 h2
  by_cases hl : l1.length = l2.length
  · have hl' : ((l1.length : Int) != l2.length) = false := by simp; omega
    have HL := Lib.hid hl; clear hl
    go_enter Tryd.func14, Tryd.ntmps14
    go_wp2
    go_loopw [5] (fun i wr => ∃ k : Nat, k ≤ l1.length ∧ i = .int .i64 k ∧ l1.take k = l2.take k ∧ ∃ n, wr = w.drewN n) (fun i _ => l1.length - (intOf i).toNat)
    case atStart => exact ⟨0, by omega, rfl, rfl, 0, rfl⟩
    case round =>
      obtain ⟨k, hk, rfl, hT, n, rfl⟩ := hrel
      have HT := Lib.hid hT; clear hT
      by_cases hlt : k < l1.length
      · have hlt2 : k < l2.length := by have := HL.out; omega
        obtain ⟨b1, o1, rfl, k1⟩ := g1 k hlt
        obtain ⟨b2, o2, rfl, k2⟩ := g2 k hlt2
        clear g1 g2
        have i0 : (0 : Int) ≤ (k : Int) := Int.natCast_nonneg _
        have i1 : (k : Int) < (l1.length : Int) := by omega
        have i2 : (k : Int) < (l2.length : Int) := by omega
        by_cases he : l1[k] = l2[k]
        · have he' : (l1[k] != l2[k]) = false := by simpa using he
          have HE := Lib.hid he; clear he
          go_wp2
          go_quiet (fail)
          go_wp2
          go_roundw
          case rel => exact ⟨k + 1, by omega, by go_num, take_succ_eq hlt hlt2 HT.out HE.out, _, rfl⟩
          case measure => simp [intOf]; omega
        · have he' : (l1[k] != l2[k]) = true := by simpa using he
          have hd : Hid (decide (l1 = l2) = false) := by show _ = _; simpa using ne_of_get hlt hlt2 he
          go_wp2
          go_quiet (fail)
          go_wp2
          go_ret
          refine ⟨ret_bool hd.out.symm, ?_⟩
          first | exact ⟨_, rfl⟩ | exact ⟨_, World.drewN_drewN _ _ _⟩
      · have : k = l1.length := by omega
        subst this
        go_wp2
        go_ret
        exact ⟨ret_bool (by simpa using eq_of_take HL.out HT.out), _, rfl⟩
  · have hl' : ((l1.length : Int) != l2.length) = true := by simp; omega
    have h : decide (l1 = l2) = false := by simpa using fun e => hl (by rw [e])
    rw [h]
    clear hl
    go_enter Tryd.func14, Tryd.ntmps14
    go_wp2
    go_ret; exact ⟨rfl, 0, rfl⟩
set_option maxHeartbeats 400000 in
theorem slices_Equal_calls (v1 v2 : Value) (l1 l2 : List Int) (w : World) (h1 : IntsAt w v1 l1) (h2 : IntsAt w v2 l2) :
    Calls Tryd.prog 27 #[v1, v2] w fun e w' => e = .returned (.bool (decide (l1 = l2))) ∧ ∃ n, w' = w.drewN n := by
  obtain ⟨a1, c1, rfl, hl1, g1⟩ := h1.open
  obtain ⟨a2, c2, rfl, hl2, g2⟩ := h2.open
  clear h1 h2
  by_cases hl : l1.length = l2.length
  · have hl' : ((l1.length : Int) != l2.length) = false := by simp; omega
    have HL := Lib.hid hl; clear hl
    go_enter Tryd.func27, Tryd.ntmps27
    go_wp2
    go_loopw [13] (fun i wr => ∃ k : Nat, k ≤ l1.length ∧ i = .int .i64 k ∧ l1.take k = l2.take k ∧ ∃ n, wr = w.drewN n) (fun i _ => l1.length - (intOf i).toNat)
    case atStart => exact ⟨0, by omega, rfl, rfl, 0, rfl⟩
    case round =>
      obtain ⟨k, hk, rfl, hT, n, rfl⟩ := hrel
      have HT := Lib.hid hT; clear hT
      by_cases hlt : k < l1.length
      · have hlt2 : k < l2.length := by have := HL.out; omega
        obtain ⟨b1, o1, rfl, k1⟩ := g1 k hlt
        obtain ⟨b2, o2, rfl, k2⟩ := g2 k hlt2
        clear g1 g2
        have i0 : (0 : Int) ≤ (k : Int) := Int.natCast_nonneg _
        have i1 : (k : Int) < (l1.length : Int) := by omega
        have i2 : (k : Int) < (l2.length : Int) := by omega
        by_cases he : l1[k] = l2[k]
        · have he' : (l1[k] != l2[k]) = false := by simpa using he
          have HE := Lib.hid he; clear he
          go_wp2
          go_quiet (fail)
          go_wp2
          go_roundw
          case rel => exact ⟨k + 1, by omega, by go_num, take_succ_eq hlt hlt2 HT.out HE.out, _, rfl⟩
          case measure => simp [intOf]; omega
        · have he' : (l1[k] != l2[k]) = true := by simpa using he
          have hd : Hid (decide (l1 = l2) = false) := by show _ = _; simpa using ne_of_get hlt hlt2 he
          go_wp2
          go_quiet (fail)
          go_wp2
          go_ret
          refine ⟨ret_bool hd.out.symm, ?_⟩
          first | exact ⟨_, rfl⟩ | exact ⟨_, World.drewN_drewN _ _ _⟩
      · have : k = l1.length := by omega
        subst this
        go_wp2
        go_ret
        exact ⟨ret_bool (by simpa using eq_of_take HL.out HT.out), _, rfl⟩
  · have hl' : ((l1.length : Int) != l2.length) = true := by simp; omega
    have h : decide (l1 = l2) = false := by simpa using fun e => hl (by rw [e])
    rw [h]
    clear hl
    go_enter Tryd.func27, Tryd.ntmps27
    go_wp2
    go_ret; exact ⟨rfl, 0, rfl⟩
theorem kinds_Same_calls (v1 v2 : Value) (l1 l2 : List Int) (w : World) (h1 : IntsAt w v1 l1) (h2 : IntsAt w v2 l2) :
    Calls Tryd.prog 13 #[v1, v2] w fun e w' => e = .returned (.bool (decide (l1 = l2))) ∧ ∃ n, w' = w.drewN n := by
  have h := slices_Equal_calls v1 v2 l1 l2 w h1 h2
  clear h1 h2
  go_enter Tryd.func13, Tryd.ntmps13
  go_wp2_with (go_at_call 27; refine h.mono ?_; rintro e w' ⟨rfl, n, rfl⟩)
  go_ret; exact ⟨rfl, _, rfl⟩


theorem rightB_no {t : Int} {n : Int} (h1 : t ≠ 1) (h2 : t ≠ 2) (h : ∀ k : Int, 0 ≤ k → k < n → k < 8 → t ≠ 16 + k) : rightB t n = false := by
  simp only [rightB, decide_eq_false_iff_not]
  rintro (h3 | h3 | h3)
  · exact h1 h3
  · exact h2 h3
  · exact h (t - 16) (by omega) (by omega) (by omega) (by omega)

set_option maxHeartbeats 400000 in
theorem ref02_Right_calls (t n : Int) (w : World) (hn : I64 n) :
    Calls Tryd.prog 16 #[.int .i64 t, .int .i64 n] w fun e w' => e = .returned (.bool (rightB t n)) ∧ w' = w := by
  unfold I64 at hn
  by_cases h1 : t = 1
  · subst h1
    have h : rightB 1 n = true := by simp [rightB]
    rw [h]
    go_enter Tryd.func16, Tryd.ntmps16
    go_wp2
    go_ret; exact ⟨rfl, rfl⟩
  by_cases h2 : t = 2
  · subst h2
    have h : rightB 2 n = true := by simp [rightB]
    rw [h]
    go_enter Tryd.func16, Tryd.ntmps16
    go_wp2
    go_ret; exact ⟨rfl, rfl⟩
  have h1' : (t == 1) = false := by simpa using h1
  have h2' : (t == 2) = false := by simpa using h2
  go_enter Tryd.func16, Tryd.ntmps16
  go_wp2
  go_loop [5] (fun i => ∃ k : Nat, k ≤ 8 ∧ i = .int .i64 k ∧ ∀ j : Int, 0 ≤ j → j < k → t ≠ 16 + j) (fun i => 8 - (intOf i).toNat)
  case atStart => exact ⟨0, by omega, rfl, fun j _ _ => by omega⟩
  case round =>
    obtain ⟨k, hk, rfl, hno⟩ := hrel
    have HN := Lib.hid hno; clear hno
    by_cases ha : (k : Int) < n ∧ k < 8
    · obtain ⟨ha1, ha2⟩ := ha
      by_cases ht : t = 16 + k
      · subst ht
        have h : Hid (rightB (16 + (k : Int)) n = true) := by show _ = _; simp [rightB]; omega
        go_wp2
        go_ret; exact ⟨ret_bool h.out.symm, rfl⟩
      · have ht' : (t == 16 + (k : Int)) = false := by simpa using ht
        go_wp2
        go_round
        case rel => exact ⟨k + 1, by omega, by go_num, fun j hj0 hj => by
          by_cases e : j = k
          · subst e; exact ht
          · exact HN.out j hj0 (by omega)⟩
        case measure => simp [intOf]; omega
    · have h : Hid (rightB t n = false) := rightB_no h1 h2 fun j hj0 hj1 hj2 => HN.out j hj0 (by omega)
      by_cases hb : (k : Int) < n
      all_goals
        go_wp2
        all_goals try (exfalso; omega)
        all_goals (go_ret; exact ⟨ret_bool h.out.symm, rfl⟩)

theorem ref02_Actor_calls (t : Int) (w : World) (ht : I64 t) :
    Calls Tryd.prog 15 #[.int .i64 t] w fun e w' => e = .returned (.tuple #[.int .i64 (actorF t).1, .bool (actorF t).2]) ∧ w' = w := by
  unfold I64 at ht
  have hc := fun w => ref02_Right_calls t 8 w (by unfold I64; omega)
  have HC := Lib.hid hc; clear hc
  by_cases h3 : 16 ≤ t ∧ t < 24
  · have h2 : actorF t = (t - 16, true) := by unfold actorF; rw [if_pos h3]
    have h4 : rightB t 8 = true := by simp [rightB]; omega
    obtain ⟨h5, h6⟩ := h3
    rw [h2]
    go_enter Tryd.func15, Tryd.ntmps15
    go_wp2_with (go_at_call 16; refine (HC.out _).mono ?_; rintro e w' ⟨rfl, rfl⟩; rw [h4])
    go_ret2; exact ⟨rfl, rfl⟩
  · have h2 : actorF t = (0, false) := by unfold actorF; rw [if_neg h3]
    rw [h2]
    by_cases h4 : rightB t 8 = true
    · have h5 : t < 16 := by simp [rightB] at h4; omega
      go_enter Tryd.func15, Tryd.ntmps15
      go_wp2_with (go_at_call 16; refine (HC.out _).mono ?_; rintro e w' ⟨rfl, rfl⟩; rw [h4])
      go_ret2; exact ⟨rfl, rfl⟩
    · have h4' : rightB t 8 = false := by simpa using h4
      go_enter Tryd.func15, Tryd.ntmps15
      go_wp2_with (go_at_call 16; refine (HC.out _).mono ?_; rintro e w' ⟨rfl, rfl⟩; rw [h4'])
      go_ret2; exact ⟨rfl, rfl⟩

end Go.Proofs.YtkhoelmbcmkhjaaDoor
