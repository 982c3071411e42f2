/- Layer 2 (kinds): the law KindsMore walked: it returns true. -/
import Derived.Test.YtkhoelmbcmkhjaaDoorDc
import Derived.Deep.RegionWith
namespace Go.Proofs.YtkhoelmbcmkhjaaDoor
open Go.RowKit (wrap64 Hid Below intOf)

theorem IntsAt.wf {w : World} {v : Value} {l : List Int} (h : IntsAt w v l) {x : Int} (hx : x ∈ l) : -9223372036854775808 ≤ x ∧ x ≤ 9223372036854775807 := by
  obtain ⟨a, cap, h1, h2, h3, h4, h5⟩ := h
  obtain ⟨k, hk, rfl⟩ := List.mem_iff_getElem.1 hx
  obtain ⟨b, o, e⟩ := h4 (by omega)
  obtain ⟨cs, _, hc, _, g⟩ := h5 b o e k l[k] (List.getElem?_eq_getElem hk)
  exact g
theorem rightB_more {t n k : Int} (h : rightB t n = true) (hk : n ≤ k) : rightB t k = true := by
  simp only [rightB, decide_eq_true_eq] at *
  omega
theorem allB_more {l : List Int} {n k : Int} (h : allB l n = true) (hk : n ≤ k) : allB l k = true := by
  simp only [allB, List.all_eq_true] at *
  exact fun x hx => rightB_more (h x hx) hk
theorem wrapU9 (n : Int) : IntKind.u64.wrap n = n % 18446744073709551616 := by
  simp only [IntKind.wrap, IntKind.bits, IntKind.signed, Bool.false_and, Bool.false_eq_true, if_false]
  omega
theorem mod9 (a : Int) : 0 ≤ wrap64 ((IntKind.u64.wrap a).tmod 9) ∧ wrap64 ((IntKind.u64.wrap a).tmod 9) ≤ 8 := by
  rw [wrapU9, Int.tmod_eq_emod_of_nonneg (by omega)]
  unfold wrap64
  omega

theorem name_ne (t : Int) : (nameF t).toList.isEmpty = !rightB t 8 := by
  by_cases h1 : t = 1
  · subst h1; decide +kernel
  by_cases h2 : t = 2
  · subst h2; decide +kernel
  by_cases h3 : 16 ≤ t ∧ t < 24
  · obtain rfl | rfl | rfl | rfl | rfl | rfl | rfl | rfl : t = 16 ∨ t = 17 ∨ t = 18 ∨ t = 19 ∨ t = 20 ∨ t = 21 ∨ t = 22 ∨ t = 23 := by omega
    all_goals decide +kernel
  · have e : rightB t 8 = false := by simp [rightB]; omega
    unfold nameF
    rw [if_neg h1, if_neg h2, if_neg h3, e]
    decide +kernel

set_option maxRecDepth 100000 in
set_option maxHeartbeats 1000000 in
theorem kindsMore_calls (v : Value) (l : List Int) (a b : Int) (w : World) (h : IntsAt w v l) (ha : I64 a) (hb : I64 b) :
    Calls Tryd.prog 6 #[v, .int .i64 a, .int .i64 b] w fun e w' => e = .returned (.bool true) ∧ Below w.heap.size w w' := by
  obtain ⟨ad, c, rfl, hl, g⟩ := h.open
  have H := Lib.hid h; clear h
  have G := Lib.hid g; clear g
  have Hwf := Lib.hid (fun x (hx : x ∈ l) => IntsAt.wf H.out hx)
  unfold I64 at ha hb
  go_enter Tryd.func6, Tryd.ntmps6
  go_wp2_with (go_at_call 9; refine (lives_calls _).mono ?_; rintro e w' ⟨rfl, rfl⟩)
  have hA := mod9 a
  have hB := mod9 b
  generalize wrap64 ((IntKind.u64.wrap a).tmod 9) = n at *
  generalize wrap64 ((IntKind.u64.wrap b).tmod 9) = m at *
  have hk : wrap64 (n + m) = n + m := by unfold wrap64; omega
  rw [hk]
  clear hk
  obtain ⟨hA1, hA2⟩ := hA
  obtain ⟨hB1, hB2⟩ := hB
  generalize hkn : n + m = k
  have hnk : n ≤ k := by omega
  clear hkn
  go_loopw [8, 9] (fun al i wr => ∃ j : Nat, j ≤ l.length ∧ i = .int .i64 j ∧ al = .bool (allB (l.take j) n) ∧ ∃ d, wr = w'.drewN d) (fun _ i _ => l.length - (intOf i).toNat)
  case atStart => exact ⟨0, by omega, rfl, rfl, 0, rfl⟩
  case round =>
    obtain ⟨j, hj, rfl, rfl, hd⟩ := hrel
    by_cases hlt : j < l.length
    · obtain ⟨b1, o1, rfl, k1'⟩ := G.out j hlt
      rename_i wr
      have k1 : wr.cell? ⟨b1, o1 + j, none⟩ = some (.int .i64 l[j]) := by obtain ⟨d, rfl⟩ := hd; exact k1'
      have HD := Lib.hid hd; clear hd k1'
      have i0 : (0 : Int) ≤ (j : Int) := Int.natCast_nonneg _
      have i1 : (j : Int) < (l.length : Int) := by omega
      have hwf := Hwf.out l[j] (List.getElem_mem hlt)
      have c3 := fun w => kinds_Name_calls l[j] w hwf
      have e3 := name_ne l[j]
      have c1 := fun w => kinds_Right_calls l[j] n w
      have c2 := fun w => kinds_Right_calls l[j] k w
      have c4 := fun w => kinds_Right_calls l[j] 8 w
      have hal : allB (l.take (j + 1)) n = (allB (l.take j) n && rightB l[j] n) := by
        unfold allB
        rw [List.take_succ_eq_append_getElem hlt, List.all_append]; simp
      have HAL := Lib.hid hal; clear hal
      have e8 : rightB l[j] 8 = rightB l[j] 8 := rfl
      have r2 : rightB l[j] n = true → rightB l[j] k = true := fun r1 => rightB_more r1 hnk
      clear G hnk
      rcases r1 : rightB l[j] n with _ | _
      all_goals rcases r8 : rightB l[j] 8 with _ | _
      all_goals rcases ra : allB (l.take j) n with _ | _
      all_goals
        rw [r1] at c1 HAL
        rw [r8] at c4 e3
        rw [ra] at HAL
        try rw [r2 r1] at c2
        clear r2 e8
        have HR1 := Lib.hid r1; have HR8 := Lib.hid r8; have HRA := Lib.hid ra; clear r1 r8 ra
        have C1 := Lib.hid c1; have C2 := Lib.hid c2; have C3 := Lib.hid c3; have C4 := Lib.hid c4; clear c1 c2 c3 c4
        go_wp2
        go_quiet (first | (go_at_call_of 12 n; exact Calls.quiet_of_same (C1.out _)) | (go_at_call_of 12 k; exact Calls.quiet_of_same (C2.out _)) | (go_at_call 12; exact Calls.quiet_of_same (C4.out _)) | (go_at_call 19; exact Calls.quiet_of_same (C3.out _)))
      all_goals
        go_wp2_with (go_at_call_of 12 n; refine (C1.out _).mono ?_; rintro e w2 ⟨rfl, rfl⟩)
        go_roundw
        case rel => exact ⟨j + 1, by omega, by go_num, congrArg Value.bool (by rw [HAL.out]; rfl), by obtain ⟨d, hd⟩ := HD.out; rw [hd]; exact ⟨_, World.drewN_drewN _ _ _⟩⟩
        case measure => simp [intOf]; omega
    · have : j = l.length := by omega
      subst this
      rename_i wr
      have hb1 : Below w'.heap.size w' wr := by obtain ⟨d, rfl⟩ := hd; exact below_drewN (Below.refl _ _) d
      have ca := kinds_All_calls (.slice ad l.length c) l n wr (H.out.below hb1)
      have cb := fun w2 (hw : Below w'.heap.size w' w2) => kinds_All_calls (.slice ad l.length c) l k w2 (H.out.below hw)
      have CA := Lib.hid ca; have CB := Lib.hid cb; clear ca cb
      have hmore : allB l n = true → allB l k = true := fun h => allB_more h hnk
      rw [List.take_length]
      have hsz := hb1.size
      rcases ra : allB l n with _ | _
      all_goals
        rw [ra] at CA
        try rw [hmore ra] at CB
        clear hmore ra
        go_wp2_with (first | (go_at_call_of 17 n; refine CA.out.mono ?_; rintro e w2 ⟨rfl, hw2⟩; have hb2 := hb1.trans (hw2.mono hsz)) | (go_at_call_of 17 k; refine (CB.out _ (by assumption)).mono ?_; rintro e w3 ⟨rfl, hw3⟩; have hb3 := hb2.trans (hw3.mono hb2.size)))
        go_ret
        exact ⟨rfl, by assumption⟩
end Go.Proofs.YtkhoelmbcmkhjaaDoor
