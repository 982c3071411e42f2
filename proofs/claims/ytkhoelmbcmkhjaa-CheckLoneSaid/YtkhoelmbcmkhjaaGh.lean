/- Layer 6: what is never reached changes nothing. -/
import Derived.Test.YtkhoelmbcmkhjaaGf
namespace Go.Proofs.Ytkhoelmbcmkhjaa
set_option maxRecDepth 100000

/-- alike but for the code -/
structure Like (c c' : Lc) : Prop where
  k : c'.k = c.k
  regs : c'.own.regs = c.own.regs
  msgs : c'.own.msgs = c.own.msgs
  tabs : c'.own.tabs = c.own.tabs
  cl : c'.own.code.length = c.own.code.length
  ml : c'.m.length = c.m.length
  ma : ∀ j, (actr c'.m j).params = (actr c.m j).params ∧ (actr c'.m j).msgs = (actr c.m j).msgs
theorem Like.names {c c' : Lc} (h : Like c c') (i : Int × Int) : namesL c' i = namesL c i := by unfold namesL; rw [h.regs, h.ml, h.tabs]
theorem Like.eff {c c' : Lc} (h : Like c c') (i : Int × Int) : effL c' i = effL c i := by unfold effL tbl; rw [h.regs, h.k, (h.ma i.2).1, h.tabs]
theorem Like.send {c c' : Lc} (h : Like c c') (a : Int) (s : List Int) : sendL c' a s = sendL c a s := by unfold sendL; rw [(h.ma _).2]
theorem Like.beh {c c' : Lc} (h : Like c c') (i : Int × Int) (s : List Int) : behL c' i s = behL c i s := by unfold behL; rw [h.names, h.eff, h.send]
theorem Like.goes {c c' : Lc} (h : Like c c') (x : Lx) (to : Nat) (s : List Int) : goesL c' x to s = goesL c x to s := by unfold goesL; rw [h.cl]
theorem Like.recv {c c' : Lc} (h : Like c c') (tmo : Int) (s : List Int) : ∀ (cls : List (Int × Int)) (x : Lx), recvL c' tmo s cls x = recvL c tmo s cls x
  | [], x => by unfold recvL; rw [h.goes]
  | cl :: r, x => by
    unfold recvL
    rw [h.msgs]
    simp only [h.goes]
    rw [h.recv tmo s r]
theorem Like.at {c c' : Lc} (h : Like c c') (x : Lx) {p : Nat} (hp : c'.own.code.getD p (0, 0) = c.own.code.getD p (0, 0)) : atL c' x p = atL c x p := by
  unfold atL tbl
  rw [hp, h.tabs]
  simp only [h.beh, h.goes, h.recv]
theorem atL_le {c : Lc} (hc : LcOK c) {x : Lx} {p : Nat} (hp : p < c.own.code.length) (hx : LI c x) (hs : x.shapes.length = c.own.code.length) (ht : ∀ p, x.todo.getD p false = true → x.has.getD p false = true) : LxLe x (atL c x p).1 ∧ (atL c x p).1.shapes.length = c.own.code.length ∧ ∀ p', (atL c x p).1.todo.getD p' false = true → (atL c x p).1.has.getD p' false = true := by
  rw [atL_ways]
  have hi : rightI (c.own.code.getD p (0, 0)) = true := by
    have : c.own.code.getD p (0, 0) = c.own.code[p] := by simp [List.getD_eq_getElem?_getD, hp]
    rw [this]; exact hc.ownA.code _ (List.getElem_mem ..)
  by_cases hb : (behL c (c.own.code.getD p (0, 0)) (x.shapes.getD p [])).2 ≠ 0
  · rw [if_pos hb]; exact ⟨LxLe.refl _, hs, ht⟩
  rw [if_neg hb]
  obtain ⟨b1, b2, b3⟩ := behL_ok hc hi (hx.ok p).1 (hx.ok p).2 (by simpa using hb)
  have hwok := waysL_ok hc hp b3 b1 b2
  obtain ⟨k1, k2, k3, k4⟩ := waysGo_le hc _ x hwok hx hs
  exact ⟨k1, k3, waysGo_th hc _ x hwok hx ht⟩
theorem off_th {x : Lx} {p : Nat} (h : ∀ q, x.todo.getD q false = true → x.has.getD q false = true) : ∀ q, (x.off p).todo.getD q false = true → (x.off p).has.getD q false = true := fun q hq => by
  replace hq : (x.todo.set p false).getD q false = true := hq
  rw [getD_set] at hq
  split at hq
  · cases hq
  · exact h q hq
theorem allL_le {c : Lc} (hc : LcOK c) : ∀ (f : Nat) (x : Lx), LI c x → x.shapes.length = c.own.code.length → (∀ p, x.todo.getD p false = true → x.has.getD p false = true) → LxLe x (allL c f x).1
  | 0, x, _, _, _ => LxLe.refl _
  | f + 1, x, hx, hs, ht => by
    unfold allL
    cases hf : x.todo.findIdx? id with
    | none => exact LxLe.refl _
    | some p =>
      simp only
      obtain ⟨o1, o2, o3⟩ := off_goes hx hf
      obtain ⟨k1, k2, k3⟩ := atL_le hc o3 o2 hs (off_th ht)
      have hoff : LxLe x (x.off p) := fun q hq => ⟨hq, rfl⟩
      split
      · exact hoff.trans k1
      · exact (hoff.trans k1).trans (allL_le hc f _ (atL_goes hc o3 o2).2 k2 k3)
theorem low_todo {x : Lx} {p : Nat} (ht : x.todo.findIdx? id = some p) : x.todo.getD p false = true := by
  rw [List.findIdx?_eq_some_iff_getElem] at ht
  obtain ⟨a1, a2, _⟩ := ht
  simp [List.getD_eq_getElem?_getD, a1]
  simpa using a2
theorem allL_like {c c' : Lc} (hc : LcOK c) (h : Like c c') {q : Nat} (hq : ∀ p, p ≠ q → c'.own.code.getD p (0, 0) = c.own.code.getD p (0, 0)) : ∀ (f : Nat) (x : Lx), LI c x → x.shapes.length = c.own.code.length → (∀ p, x.todo.getD p false = true → x.has.getD p false = true) → (allL c f x).1.has.getD q false = false → allL c' f x = allL c f x
  | 0, x, _, _, _, _ => rfl
  | f + 1, x, hx, hs, ht, hd => by
    have hle := allL_le hc (f + 1) x hx hs ht
    unfold allL at hd hle ⊢
    cases hf : x.todo.findIdx? id with
    | none => rfl
    | some p =>
      simp only [hf] at hd hle ⊢
      obtain ⟨o1, o2, o3⟩ := off_goes hx hf
      have hpq : p ≠ q := fun e => by
        subst e
        have := (hle p (ht p (low_todo hf))).1
        rw [hd] at this; cases this
      have e := h.at (x.off p) (hq p hpq)
      rw [e, h.k]
      obtain ⟨k1, k2, k3⟩ := atL_le hc o3 o2 hs (off_th ht)
      by_cases h1 : (atL c (x.off p) p).2 ≠ 0
      · rw [if_pos h1, if_pos h1]
      · rw [if_neg h1] at hd ⊢
        rw [if_neg h1]
        exact allL_like hc h hq f _ (atL_goes hc o3 o2).2 k2 k3 hd
/-- a module with another instruction at a place -/
def other (m : List Actr) (k at' : Nat) (i : Int × Int) : List Actr := m.set k ⟨(actr m k).params, (actr m k).regs, (actr m k).msgs, (actr m k).code.set at' i, (actr m k).tabs⟩
theorem other_len (m : List Actr) (k at' : Nat) (i : Int × Int) : (other m k at' i).length = m.length := by simp [other]
theorem other_actr (m : List Actr) (k at' : Nat) (i : Int × Int) (hk : k < m.length) (j : Int) : actr (other m k at' i) j = if j.toNat = k then ⟨(actr m k).params, (actr m k).regs, (actr m k).msgs, (actr m k).code.set at' i, (actr m k).tabs⟩ else actr m j := by
  unfold other
  by_cases e : j.toNat = k
  · rw [if_pos e]
    have : k < m.length := hk
    show (m.set k _).getD j.toNat _ = _
    rw [e, List.getD_eq_getElem?_getD, List.getElem?_set_self this]; rfl
  · rw [if_neg e]
    show (m.set k _).getD j.toNat _ = m.getD j.toNat _
    rw [List.getD_eq_getElem?_getD, List.getElem?_set_ne (Ne.symm e), ← List.getD_eq_getElem?_getD]
theorem like_other {m : List Actr} {k at' : Nat} {i : Int × Int} (hk : k < m.length) (j : Nat) : Like ⟨m, j, actr m j⟩ ⟨other m k at' i, j, actr (other m k at' i) j⟩ := by
  have ha := fun j => other_actr m k at' i hk j
  have ek : ∀ j : Int, j.toNat = k → actr m j = actr m (k : Int) := fun j e => by unfold actr; rw [e]; rfl
  refine ⟨rfl, ?_, ?_, ?_, ?_, other_len .., fun j => ?_⟩ <;> simp only [ha] <;> split
  all_goals first | rfl | (rename_i e; rw [ek _ e]) | (rename_i e; rw [ek _ e]; simp) | skip
  all_goals first | rfl | simp | exact ⟨rfl, rfl⟩
theorem look_other {m : List Actr} (hr : rightM m = 0) {k at' : Nat} {i : Int × Int} (hk : k < m.length) (hd : (lookL m k).1.has.getD at' false = false) {j : Nat} (hj : j < m.length) : lookL (other m k at' i) j = lookL m j := by
  have hc := lcOK_of hr hj
  have h0 := hc.ownA.c0
  have hl := like_other (at' := at') (i := i) hk j
  have hs := LxS0 (c := ⟨m, j, actr m j⟩) h0
  have ecl : (actr (other m k at' i) j).code.length = (actr m j).code.length := hl.cl
  have ej : ((j : Int)).toNat = j := rfl
  have fin : ∀ q, (∀ p, p ≠ q → (actr (other m k at' i) j).code.getD p (0, 0) = (actr m j).code.getD p (0, 0)) → (lookL m j).1.has.getD q false = false → lookL (other m k at' i) j = lookL m j := fun q h1 h2 => by
    unfold lookL at h2 ⊢
    rw [ecl]
    exact allL_like hc hl h1 700 _ hs.li hs.ls hs.th h2
  by_cases e : j = k
  · subst e
    refine fin at' (fun p hp => ?_) hd
    rw [other_actr m j at' i hk, if_pos ej]
    simp only [List.getD_eq_getElem?_getD, List.getElem?_set_ne (Ne.symm hp)]
  · refine fin 200 (fun p _ => ?_) ?_
    · rw [other_actr m k at' i hk, if_neg (by rw [ej]; exact e)]
    · have := (allL_li hc 700 (lx0 (actr m j).code.length) hs.li).lh
      unfold lookL
      rw [List.getD_eq_getElem?_getD, List.getElem?_eq_none (by omega)]; rfl
theorem checkN_of {m : List Actr} : ∀ (j k : Nat), (∀ i, k ≤ i → i < k + j → (lookL m i).2.1 = 0) → checkN m j k = (0, 0, 0)
  | 0, _, _ => rfl
  | j + 1, k, h => by
    unfold checkN
    rw [if_neg (by simpa using h k (Nat.le_refl _) (by omega))]
    exact checkN_of j (k + 1) fun i h1 h2 => h i (by omega) (by omega)
theorem check_other {m : List Actr} (h : checkF m = (0, 0, 0)) {k at' : Nat} {i : Int × Int} (hk : k < m.length) (hd : (lookL m k).1.has.getD at' false = false) (hr' : rightM (other m k at' i) = 0) : checkF (other m k at' i) = (0, 0, 0) := by
  have hr := (checkF_zero (m := m) (by rw [h])).2
  unfold checkF
  rw [if_neg (by simpa using hr')]
  refine checkN_of _ _ fun j _ hj => ?_
  rw [other_len] at hj
  rw [look_other hr hk hd (by omega)]
  exact look_ok h (by omega)
/-! ### small things -/
theorem urem_nat {a : Int} {n : Nat} (h0 : 0 < n) (h1 : n ≤ 17592186044416) : ∃ k : Nat, k < n ∧ IntKind.i64.wrap ((IntKind.u64.wrap a).tmod (IntKind.u64.wrap (n : Int))) = (k : Int) := by
  rw [wrapU_any, wrapU (n : Int) (by omega) (by omega)]
  have h2 := Int.emod_nonneg a (b := 18446744073709551616) (by omega)
  generalize a % 18446744073709551616 = b at *
  obtain ⟨c, rfl⟩ : ∃ c : Nat, b = c := ⟨b.toNat, by omega⟩
  refine ⟨c % n, Nat.mod_lt _ h0, ?_⟩
  have e : (c : Int).tmod n = ((c % n : Nat) : Int) := by rw [Int.tmod_eq_emod_of_nonneg (by omega)]; omega
  have := Nat.mod_lt c h0
  rw [e, wrap_id (by omega) (by omega)]
theorem frz_actC (F : Nat → Bool) (η : AHeap) (fu : Nat) (a : Actr) : (actC a).map (frz F η fu) = actC a := by cases fu <;> simp [actC, frz]
theorem frz_pairs (F : Nat → Bool) (η : AHeap) (fu : Nat) (l : List (Int × Int)) : (pairs l).map (fun row => row.map (frz F η fu)) = pairs l := by
  unfold pairs
  rw [List.map_map]
  refine List.map_congr_left fun a _ => ?_
  cases fu <;> rfl
end Go.Proofs.Ytkhoelmbcmkhjaa
