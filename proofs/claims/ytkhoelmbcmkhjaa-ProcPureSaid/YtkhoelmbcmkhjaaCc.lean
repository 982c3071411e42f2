/- slices.Grow, Concat, Repeat. -/
import Derived.Test.YtkhoelmbcmkhjaaCb
namespace Go.Proofs.Ytkhoelmbcmkhjaa
set_option maxRecDepth 100000

/-- a row that is being filled -/
def AccL (η : AHeap) (n : Nat) (v : AVal) (l : List Int) : Prop := (v = .nils ∧ l = []) ∨ ∃ r J, v = .sl r 0 l.length ∧ η r = some (.cells 1 (ints (l ++ J))) ∧ n ≤ r
theorem AccL.isL {η : AHeap} {n : Nat} {v : AVal} {l : List Int} (h : AccL η n v l) : IsL η v l := by
  rcases h with ⟨h1, h2⟩ | ⟨r, J, h1, h2, _⟩
  · exact Or.inr (Or.inl ⟨h1, h2⟩)
  · rw [h1]; exact IsL.own h2
/-- a list that a function has made, as read only -/
theorem AC.listNew {P : Program} {f : FuncId} {args : List AVal} {η : AHeap} {n : Nat} {l : List Int} (hl : l.length ≤ lenMax) (h : AC P f args η n fun r η' _ => AccL η' n r l ∧ ∀ x, x < n → η' x = η x) : AC P f args η n (Rt (.rs 1 (ints l)) η n) := by
  refine (AC.ground (R := fun v => v = .rs 1 (ints l)) 1 (h.mono fun v η' n' ⟨h1, h2⟩ => ⟨h2, _, ?_, rfl⟩) fun v hv => by subst hv; exact (IsL.nq (η := η) (Or.inl rfl))).mono fun v η' n' h => h
  rcases h1 with ⟨rfl, rfl⟩ | ⟨r, J, rfl, hr, hn⟩
  · simp [ints]
  · rw [gnd_new hn hr (by rw [ints_length]; simp) hl]
    have : (List.map (fun row => row.map (gnd n η' 0)) (List.take l.length (List.drop 0 (ints (l ++ J))))) = ints l := by
      rw [List.drop_zero]
      have : List.take l.length (ints (l ++ J)) = ints l := by simp [ints]
      rw [this, ints_gnd]
    rw [this]; exact Ent.refl _
theorem grow_ac (s : Nat) (η : AHeap) (n : Nat) (hs : s ≤ 17592186044415) : AC Try.prog 127 [.nils, .int .i64 s] η n (fun r η' n' => AccL η' n r [] ∧ (∀ x, x < n → η' x = η x) ∧ n ≤ n') := by
  have e0 : ¬ ((s : Int) < 0) := by omega
  have e1 : IntKind.i64.wrap (s : Int) = s := wrap_id (by omega) (by omega)
  have e2 : IntKind.i64.wrap (0 : Int) = 0 := wrap_id (by omega) (by omega)
  by_cases h0 : s = 0
  · subst h0
    refine AC.enter Try.func127 rfl Try.ntmps127 (by simp) ?_
    simp [acapT, e2]
    exact resK.rt ⟨Or.inl ⟨rfl, rfl⟩, fun _ _ => rfl, Nat.le_refl _⟩
  · have h1 : 0 < s := by omega
    have b1 : (s : Int) * 8 ≤ 140737488355328 := by omega
    have b2 : s ≤ 17592186044416 := by omega
    refine AC.enter Try.func127 rfl Try.ntmps127 (by simp) ?_
    simp [acapT, e0, e1, e2, h1, asliceV, abnd, appK, aappend, lenMax, b1, upd_eq]
    refine ⟨by omega, resK.rt ⟨Or.inr ⟨n, List.replicate s 0, rfl, ?_, Nat.le_refl _⟩, fun x hx => upd_ne (by omega), by omega⟩⟩
    rw [upd_eq]; simp [ints]
def lenS (ls : List (List Int)) (k : Nat) : Nat := (ls.take k).flatten.length
theorem lenS_step {ls : List (List Int)} {k : Nat} (h : k < ls.length) : lenS ls (k + 1) = lenS ls k + ls[k].length := by
  unfold lenS; rw [List.take_succ_eq_append_getElem h, List.flatten_append]; simp
theorem lenS_le (ls : List (List Int)) (k : Nat) : lenS ls k ≤ ls.flatten.length := by
  unfold lenS
  conv => rhs; rw [← List.take_append_drop k ls, List.flatten_append, List.length_append]
  omega
/-- a round of the filling -/
def Cat (η : AHeap) (n : Nat) (ls : List (List Int)) (N k : Nat) (v : AVal) (η' : AHeap) (n' : Nat) : Prop := k ≤ N ∧ AccL η' n v (ls.take k).flatten ∧ (∀ y, y < n → η' y = η y) ∧ n ≤ n' ∧ ∀ y, n' ≤ y → η' y = none
theorem concat_ac {η : AHeap} {n q : Nat} {vs : List AVal} {ls : List (List Int)} (hq : η q = some (.cells 1 (vs.map fun v => [v]))) (hv : vs.length = ls.length) (hi : ∀ i (h : i < vs.length) (h' : i < ls.length), IsL η vs[i] ls[i]) (hl : ls.flatten.length ≤ 17592186044415) (hvl : vs.length ≤ 17592186044415) :
    AC Try.prog 83 [.sl q 0 vs.length] η n (Rt (.rs 1 (ints ls.flatten)) η n) := by
  refine AC.listNew (by simp only [lenMax]; omega) ?_
  refine AC.fresh fun hf => ?_; refine AC.enter Try.func83 rfl Try.ntmps83 (by simp) ?_
  have hqn : q < n := by
    rcases Nat.lt_or_ge q n with h | h
    · exact h
    · rw [hf q h] at hq; cases hq
  have hrow : ∀ k (h : k < vs.length), (vs.map fun v => [v])[k]? = some [vs[k]] := fun k h => by simp [h]
  simp
  refine loopK.inv [3, 5, 11, 12, 13, 14, 15, 16, 17, 18, 19, 20, 21, 22] (fun k : Nat => k ≤ vs.length) (fun k => [(11, .int .i64 k), (3, .int .i64 (lenS ls k))]) (fun _ => η) (fun _ => n) (fun k => vs.length - k) 0 (by simp) (by simp [lenS]) (by simp) (Nat.le_refl _) ?_
  intro k hk
  simp
  refine CondP.dec (fun h => ?_) (fun h => ?_)
  · have h' : k < vs.length := by omega
    have h2 : k < ls.length := by omega
    have hx := hi k h' h2
    have hx1 := hx.len (P := Try.prog) (t := 52) (by simp)
    have hs := lenS_step h2
    have hle := lenS_le ls (k + 1)
    have ew : IntKind.i64.wrap ((lenS ls k : Int) + (ls[k].length : Int)) = (lenS ls (k + 1) : Int) := by
      rw [wrap_id (by omega) (by omega)]; omega
    have n0 : ¬ ((lenS ls (k + 1) : Int) < 0) := by omega
    have ew2 : IntKind.i64.wrap ((k : Int) + 1) = (k : Int) + 1 := wrap_id (by omega) (by omega)
    simp [h', aindex, hq, aload, apart, hx1, ew, n0, ew2]
    exact endK.intro (k + 1) (show k + 1 ≤ vs.length by omega) (by simp) (by repeat (first | exact Agree.mask _ _ | refine Agree.setf rfl ?_ | refine Agree.inner rfl ?_)) (AHeap.le_rfl _) (Nat.le_refl _) (show vs.length - (k + 1) < vs.length - k by omega)
  · have hkv : k = vs.length := by omega
    subst hkv
    simp
    have hall : lenS ls vs.length ≤ 17592186044415 := Nat.le_trans (lenS_le _ _) hl
    refine ACK.use (grow_ac _ _ _ hall).freshP ?_
    intro r η1 n1 ⟨⟨g1, g2, g3⟩, hf1⟩
    simp
    refine loopK.inv [6, 8, 27, 28, 29, 30, 31, 32, 33, 34] (fun x : Nat × AVal × AHeap × Nat => Cat η n ls vs.length x.1 x.2.1 x.2.2.1 x.2.2.2) (fun x => [(27, .int .i64 x.1), (6, x.2.1)]) (fun x => x.2.2.1) (fun x => x.2.2.2) (fun x => vs.length - x.1) (0, r, η1, n1) (show Cat η n ls vs.length 0 r η1 n1 from ⟨by omega, by simpa using g1, g2, g3, hf1⟩) (by simp) (by simp) (Nat.le_refl _) ?_
    intro ⟨k, v, η', n'⟩ hI
    obtain ⟨k1, k2, k3, k4, k5⟩ : Cat η n ls vs.length k v η' n' := hI
    simp
    refine CondP.dec (fun h => ?_) (fun h => ?_)
    · have h' : k < vs.length := by omega
      have h2 : k < ls.length := by omega
      have hx := (hi k h' h2).keep hf k3
      have hxr := hx.rows
      have hq' : η' q = some (.cells 1 (vs.map fun v => [v])) := by rw [k3 q hqn]; exact hq
      have hs := lenS_step h2
      have hle := lenS_le ls (k + 1)
      have ew2 : IntKind.i64.wrap ((k : Int) + 1) = (k : Int) + 1 := wrap_id (by omega) (by omega)
      have el : (ls.take (k + 1)).flatten = (ls.take k).flatten ++ ls[k] := by rw [List.take_succ_eq_append_getElem h2, List.flatten_append]; simp
      have e1 : lenS ls k = (ls.take k).flatten.length := rfl
      generalize ha : (ls.take k).flatten = acc at *
      rcases k2 with ⟨rfl, ea⟩ | ⟨r, J, rfl, k6, k7⟩
      · have b1 : ls[k].length * 8 ≤ 140737488355328 := by omega
        have b2 : ls[k].length ≤ 17592186044416 := by omega
        simp [h', aindex, hq', aload, apart, hxr, appK, aappend, b1, b2, lenMax, ints_length, ew2]
        exact ⟨ints_sc, endK.intro (k + 1, .sl n' 0 ls[k].length, upd η' n' (some (.cells 1 (ints ls[k]))), n' + 1) (show Cat η n ls vs.length (k + 1) (.sl n' 0 ls[k].length) (upd η' n' (some (.cells 1 (ints ls[k])))) (n' + 1) from ⟨by omega, by rw [el, ea]; exact Or.inr ⟨n', [], by simp, by rw [upd_eq]; simp, k4⟩, fun y hy => by rw [upd_ne (by omega)]; exact k3 y hy, by omega, fun y hy => by rw [upd_ne (by omega)]; exact k5 y (by omega)⟩) (by simp) (by repeat (first | exact Agree.mask _ _ | refine Agree.setf rfl ?_ | refine Agree.inner rfl ?_)) (AHeap.le_rfl _) (Nat.le_refl _) (show vs.length - (k + 1) < vs.length - k by omega)⟩
      · have b1 : (acc.length + ls[k].length) * 8 ≤ 140737488355328 := by omega
        have b2 : acc.length + ls[k].length ≤ 17592186044416 := by omega
        have ht : List.take acc.length (ints (acc ++ J)) = ints acc := by simp [ints]
        have hrn : r < n' := by
          rcases Nat.lt_or_ge r n' with h | h
          · exact h
          · rw [k5 r h] at k6; cases k6
        simp [h', aindex, hq', aload, apart, hxr, appK, aappend, b1, b2, lenMax, ints_length, ew2, k6, ht]
        exact ⟨ints_sc, endK.intro (k + 1, .sl n' 0 (acc.length + ls[k].length), upd (upd η' r none) n' (some (.cells 1 (ints acc ++ ints ls[k]))), n' + 1) (show Cat η n ls vs.length (k + 1) (.sl n' 0 (acc.length + ls[k].length)) (upd (upd η' r none) n' (some (.cells 1 (ints acc ++ ints ls[k])))) (n' + 1) from ⟨by omega, by rw [el]; exact Or.inr ⟨n', [], by simp, by rw [upd_eq]; simp [ints], k4⟩, fun y hy => by rw [upd_ne (by omega), upd_ne (by omega)]; exact k3 y hy, by omega, fun y hy => by rw [upd_ne (by omega), upd_ne (by omega)]; exact k5 y (by omega)⟩) (by simp) (by repeat (first | exact Agree.mask _ _ | refine Agree.setf rfl ?_ | refine Agree.inner rfl ?_)) (AHeap.le_rfl _) (Nat.le_refl _) (show vs.length - (k + 1) < vs.length - k by omega)⟩
    · have hkv : k = vs.length := by omega
      simp [h]
      refine resK.rt ⟨?_, k3⟩
      have := k2
      rwa [hkv, hv, List.take_length] at this
end Go.Proofs.Ytkhoelmbcmkhjaa
