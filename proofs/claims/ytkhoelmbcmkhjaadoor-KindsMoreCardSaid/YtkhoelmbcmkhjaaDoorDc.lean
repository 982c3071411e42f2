/- Layer 2 (kinds): whole lists of types that are right. -/
import Derived.Test.YtkhoelmbcmkhjaaDoorDb
import Derived.Handy
namespace Go.Proofs.YtkhoelmbcmkhjaaDoor
open Go.RowKit (wrap64 Hid Below intOf)

def allB (l : List Int) (n : Int) : Bool := l.all fun t => rightB t n
theorem allB_take {l : List Int} {n : Int} {k : Nat} (hk : k < l.length) (h : allB (l.take k) n = true) (hr : rightB l[k] n = true) : allB (l.take (k + 1)) n = true := by
  unfold allB at *
  rw [List.take_succ_eq_append_getElem hk, List.all_append, h]
  simp [hr]
theorem allB_no {l : List Int} {n : Int} {k : Nat} (hk : k < l.length) (hr : rightB l[k] n = false) : allB l n = false := by
  unfold allB
  rw [List.all_eq_false]
  exact ⟨l[k], List.getElem_mem hk, by simp [hr]⟩

set_option maxHeartbeats 400000 in
theorem ref02_All_calls (v : Value) (l : List Int) (n : Int) (w : World) (h : IntsAt w v l) (hn : I64 n) :
    Calls Tryd.prog 18 #[v, .int .i64 n] w fun e w' => e = .returned (.bool (allB l n)) ∧ w' = w := by
  obtain ⟨a, c, rfl, hl, g⟩ := h.open
  clear h
  have hc := fun t => ref02_Right_calls t n w hn
  have HC := Lib.hid hc; clear hc
  go_enter Tryd.func18, Tryd.ntmps18
  go_wp2
  go_loop [5] (fun i => ∃ k : Nat, k ≤ l.length ∧ i = .int .i64 k ∧ allB (l.take k) n = true) (fun i => l.length - (intOf i).toNat)
  case atStart => exact ⟨0, by omega, rfl, rfl⟩
  case round =>
    obtain ⟨k, hk, rfl, hT⟩ := hrel
    have HT := Lib.hid hT; clear hT
    by_cases hlt : k < l.length
    · obtain ⟨b1, o1, rfl, k1⟩ := g k hlt
      clear g
      have i0 : (0 : Int) ≤ (k : Int) := Int.natCast_nonneg _
      have i1 : (k : Int) < (l.length : Int) := by omega
      by_cases he : rightB l[k] n = true
      · have HE := Lib.hid he
        go_wp2_with (go_at_call 16; refine (HC.out _).mono ?_; rintro e w' ⟨rfl, rfl⟩; rw [he])
        clear he
        go_round
        case rel => exact ⟨k + 1, by omega, by go_num, allB_take hlt HT.out HE.out⟩
        case measure => simp [intOf]; omega
      · have he' : rightB l[k] n = false := by simpa using he
        clear he
        have hd : Hid (allB l n = false) := allB_no hlt he'
        go_wp2_with (go_at_call 16; refine (HC.out _).mono ?_; rintro e w' ⟨rfl, rfl⟩; rw [he'])
        go_ret
        exact ⟨ret_bool hd.out.symm, rfl⟩
    · have : k = l.length := by omega
      subst this
      have hd : Hid (allB l n = true) := by show _ = _; have := HT.out; rwa [List.take_length] at this
      go_wp2
      go_ret
      exact ⟨ret_bool hd.out.symm, rfl⟩

theorem kinds_All1_calls (t n : Int) (b : Nat) (w : World) (h : w.cell? ⟨b, 0, none⟩ = some (.int .i64 n)) :
    Calls Tryd.prog 29 #[.int .i64 t, .pointer (some ⟨b, 0, none⟩)] w fun e w' => e = .returned (.bool (!rightB t n)) ∧ w' = w := by
  go_enter Tryd.func29, Tryd.ntmps29
  go_wp2_with (go_at_call 12; refine (kinds_Right_calls _ _ _).mono ?_; rintro e w' ⟨rfl, rfl⟩)
  go_ret; exact ⟨rfl, rfl⟩

/-- the place of the first type that is not right, or -1 -/
def badI (l : List Int) (n : Int) : Int := if allB l n then -1 else ((l.takeWhile fun t => rightB t n).length : Int)
theorem badI_ge (l : List Int) (n : Int) : (decide (badI l n ≥ 0)) = !allB l n := by
  unfold badI
  cases allB l n <;> simp
theorem badI_no {l : List Int} {n : Int} {k : Nat} (hk : k < l.length) (h : allB (l.take k) n = true) (hr : rightB l[k] n = false) : badI l n = k := by
  unfold badI
  rw [allB_no hk hr]
  have e : l = l.take k ++ l[k] :: l.drop (k + 1) := by simp
  have e2 : (l.takeWhile fun t => rightB t n) = l.take k := by
    conv => lhs; rw [e]
    rw [List.takeWhile_append_of_pos (by simpa [allB] using h)]
    have e3 : (l[k] :: l.drop (k + 1)).takeWhile (fun t => rightB t n) = [] := by rw [List.takeWhile_cons, if_neg (by simp [hr])]
    rw [e3, List.append_nil]
  rw [e2]
  simp
  omega

set_option maxHeartbeats 400000 in
theorem indexFunc_calls (v : Value) (l : List Int) (n : Int) (b : Nat) (w : World) (h : IntsAt w v l) (hb : w.cell? ⟨b, 0, none⟩ = some (.int .i64 n)) :
    Calls Tryd.prog 35 #[v, .func (.func 29) #[] #[.pointer (some ⟨b, 0, none⟩)]] w fun e w' => e = .returned (.int .i64 (badI l n)) ∧ w' = w := by
  obtain ⟨a, c, rfl, hl, g⟩ := h.open
  clear h
  have hc := fun t => kinds_All1_calls t n b w hb
  have HC := Lib.hid hc; clear hc
  go_enter Tryd.func35, Tryd.ntmps35
  go_wp2
  go_loop [8] (fun i => ∃ k : Nat, k ≤ l.length ∧ i = .int .i64 k ∧ allB (l.take k) n = true) (fun i => l.length - (intOf i).toNat)
  case atStart => exact ⟨0, by omega, rfl, rfl⟩
  case round =>
    obtain ⟨k, hk, rfl, hT⟩ := hrel
    have HT := Lib.hid hT; clear hT
    by_cases hlt : k < l.length
    · obtain ⟨b1, o1, rfl, k1⟩ := g k hlt
      clear g
      have i0 : (0 : Int) ≤ (k : Int) := Int.natCast_nonneg _
      have i1 : (k : Int) < (l.length : Int) := by omega
      by_cases he : rightB l[k] n = true
      · have HE := Lib.hid he
        go_wp2_with (go_at_call 29; refine (HC.out _).mono ?_; rintro e w' ⟨rfl, rfl⟩; rw [he])
        clear he
        go_round
        case rel => exact ⟨k + 1, by omega, by go_num, allB_take hlt HT.out HE.out⟩
        case measure => simp [intOf]; omega
      · have he' : rightB l[k] n = false := by simpa using he
        clear he
        have hd : Hid (badI l n = k) := badI_no hlt HT.out he'
        go_wp2_with (go_at_call 29; refine (HC.out _).mono ?_; rintro e w' ⟨rfl, rfl⟩; rw [he'])
        go_ret
        exact ⟨ret_int hd.out.symm, rfl⟩
    · have : k = l.length := by omega
      subst this
      have hd : Hid (badI l n = -1) := by show _ = _; have := HT.out; rw [List.take_length] at this; unfold badI; rw [this]; rfl
      go_wp2
      go_ret
      exact ⟨ret_int hd.out.symm, rfl⟩

theorem containsFunc_calls (v : Value) (l : List Int) (n : Int) (b : Nat) (w : World) (h : IntsAt w v l) (hb : w.cell? ⟨b, 0, none⟩ = some (.int .i64 n)) :
    Calls Tryd.prog 28 #[v, .func (.func 29) #[] #[.pointer (some ⟨b, 0, none⟩)]] w fun e w' => e = .returned (.bool (!allB l n)) ∧ w' = w := by
  have hc := indexFunc_calls v l n b w h hb
  have HC := Lib.hid hc; clear hc h hb
  go_enter Tryd.func28, Tryd.ntmps28
  go_wp2_with (go_at_call 35; refine HC.out.mono ?_; rintro e w' ⟨rfl, rfl⟩)
  all_goals (go_ret; refine ⟨ret_bool ?_, rfl⟩; rw [← badI_ge])

theorem kinds_All_calls (v : Value) (l : List Int) (n : Int) (w : World) (h : IntsAt w v l) :
    Calls Tryd.prog 17 #[v, .int .i64 n] w fun e w' => e = .returned (.bool (allB l n)) ∧ Below w.heap.size w w' := by
  have hc := containsFunc_calls v l n w.heap.size (w.alloc (.cells #[.int .i64 n] 3)) (h.below ((Below.refl _ w).alloc (Nat.le_refl _) _)) (World.cell?_alloc_new w _ _ _)
  have HC := Lib.hid hc; clear hc h
  go_enter Tryd.func17, Tryd.ntmps17
  go_wp2_with (go_at_call 28; refine HC.out.mono ?_; rintro e w' ⟨rfl, rfl⟩)
  go_ret; exact ⟨ret_bool (by simp), by go_grown⟩
end Go.Proofs.YtkhoelmbcmkhjaaDoor
