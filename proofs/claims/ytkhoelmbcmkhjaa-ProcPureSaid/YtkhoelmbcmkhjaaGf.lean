/- Layer 6: a look that is done is closed. -/
import Derived.Test.YtkhoelmbcmkhjaaGe
namespace Go.Proofs.Ytkhoelmbcmkhjaa
set_option maxRecDepth 100000

/-- what was reached stays, with its shape -/
def LxLe (x y : Lx) : Prop := ∀ p, x.has.getD p false = true → y.has.getD p false = true ∧ y.shapes.getD p [] = x.shapes.getD p []
theorem LxLe.refl (x : Lx) : LxLe x x := fun _ h => ⟨h, rfl⟩
theorem LxLe.trans {x y z : Lx} (h : LxLe x y) (h' : LxLe y z) : LxLe x z := fun p hp => ⟨(h' p (h p hp).1).1, (h' p (h p hp).1).2.trans (h p hp).2⟩
/-- what is new is to be looked at -/
def LxNew (x y : Lx) : Prop := ∀ p, y.has.getD p false = true → y.todo.getD p false = false → x.has.getD p false = true ∧ x.todo.getD p false = false
theorem LxNew.refl (x : Lx) : LxNew x x := fun _ h h' => ⟨h, h'⟩
theorem LxNew.trans {x y z : Lx} (h : LxNew x y) (h' : LxNew y z) : LxNew x z := fun p h1 h2 => h p (h' p h1 h2).1 (h' p h1 h2).2
theorem goesL_le {c : Lc} (h200 : c.own.code.length ≤ 200) {x : Lx} (hx : LI c x) {to : Nat} {s : List Int} (hls : x.shapes.length = c.own.code.length) : LxLe x (goesL c x to s).1 ∧ LxNew x (goesL c x to s).1 ∧ (goesL c x to s).1.shapes.length = c.own.code.length ∧ ((goesL c x to s).2 = 0 → to < c.own.code.length ∧ (goesL c x to s).1.has.getD to false = true ∧ (goesL c x to s).1.shapes.getD to [] = s) := by
  unfold goesL
  by_cases h1 : c.own.code.length ≤ to
  · rw [if_pos h1]; exact ⟨LxLe.refl _, LxNew.refl _, hls, fun h => by cases h⟩
  rw [if_neg h1]
  have hl := hx.lh
  have hl2 := hx.lt
  by_cases h2 : x.has.getD to false = false
  · rw [if_pos h2]
    refine ⟨fun p hp => ?_, fun p h3 h4 => ?_, by simp [hls], fun _ => ⟨by omega, ?_, ?_⟩⟩
    · have hne : to ≠ p := fun e => by subst e; rw [h2] at hp; cases hp
      refine ⟨?_, ?_⟩
      · show (x.has.set to true).getD p false = true
        rw [getD_set]; split
        · rfl
        · exact hp
      · show (x.shapes.set to s).getD p [] = _
        rw [List.getD_eq_getElem?_getD, List.getElem?_set_ne hne, ← List.getD_eq_getElem?_getD]
    · replace h3 : (x.has.set to true).getD p false = true := h3
      replace h4 : (x.todo.set to true).getD p false = false := h4
      rw [getD_set] at h3 h4
      by_cases e : to = p
      · subst e; rw [if_pos ⟨rfl, by omega⟩] at h4; cases h4
      · rw [if_neg (by omega)] at h3 h4; exact ⟨h3, h4⟩
    · show (x.has.set to true).getD to false = true
      rw [getD_set, if_pos ⟨rfl, by omega⟩]
    · show (x.shapes.set to s).getD to [] = s
      have : to < x.shapes.length := by omega
      simp [List.getD_eq_getElem?_getD, this]
  · rw [if_neg h2]
    by_cases h3 : x.shapes.getD to [] = s
    · rw [if_pos h3]; exact ⟨LxLe.refl _, LxNew.refl _, hls, fun _ => ⟨by omega, by simpa using h2, h3⟩⟩
    · rw [if_neg h3]; exact ⟨LxLe.refl _, LxNew.refl _, hls, fun h => by cases h⟩
/-- a way that has been gone -/
def Gone (c : Lc) (x : Lx) (w : Wy) : Prop := w.2.2 = 0 ∧ 0 ≤ w.1 ∧ w.1.toNat < c.own.code.length ∧ x.has.getD w.1.toNat false = true ∧ x.shapes.getD w.1.toNat [] = w.2.1
theorem Gone.le {c : Lc} {x y : Lx} {w : Wy} (h : Gone c x w) (hl : LxLe x y) : Gone c y w := ⟨h.1, h.2.1, h.2.2.1, (hl _ h.2.2.2.1).1, (hl _ h.2.2.2.1).2.trans h.2.2.2.2⟩
theorem waysGo_le {c : Lc} (hc : LcOK c) : ∀ (ws : List Wy) (x : Lx), (∀ w ∈ ws, WyOK c w) → LI c x → x.shapes.length = c.own.code.length → LxLe x (waysGo c x ws).1 ∧ LxNew x (waysGo c x ws).1 ∧ (waysGo c x ws).1.shapes.length = c.own.code.length ∧ ((waysGo c x ws).2 = 0 → ∀ w ∈ ws, Gone c (waysGo c x ws).1 w)
  | [], x, _, _, hs => ⟨LxLe.refl _, LxNew.refl _, hs, fun _ w hw => by simp at hw⟩
  | w :: r, x, hw, h, hs => by
    have h0 := hw w (by simp)
    unfold waysGo
    by_cases h1 : w.2.2 ≠ 0
    · rw [if_pos h1]; exact ⟨LxLe.refl _, LxNew.refl _, hs, fun e => absurd e h1⟩
    rw [if_neg h1]
    have h2 := h0.2 (by simpa using h1)
    have hg := goesL_goes hc (to := w.1.toNat) h h2.1 h2.2
    obtain ⟨g1, g2, g3, g4⟩ := goesL_le hc.ownA.c200 h (to := w.1.toNat) (s := w.2.1) hs
    by_cases h3 : (goesL c x w.1.toNat w.2.1).2 ≠ 0
    · rw [if_pos h3]; exact ⟨g1, g2, g3, fun e => absurd e h3⟩
    · rw [if_neg h3]
      obtain ⟨k1, k2, k3, k4⟩ := waysGo_le hc r _ (fun q hq => hw q (by simp [hq])) hg.2 g3
      refine ⟨g1.trans k1, g2.trans k2, k3, fun e q hq => ?_⟩
      rcases List.mem_cons.1 hq with rfl | hq
      · obtain ⟨a1, a2, a3⟩ := g4 (by simpa using h3)
        exact Gone.le ⟨by simpa using h1, h0.1, a1, a2, a3⟩ k1
      · exact k4 e q hq
/-- a place that has been looked at -/
def Looked (c : Lc) (x : Lx) (p : Nat) : Prop := (behL c (c.own.code.getD p (0, 0)) (x.shapes.getD p [])).2 = 0 ∧ ∀ w ∈ waysL c p (behL c (c.own.code.getD p (0, 0)) (x.shapes.getD p [])).1, Gone c x w
theorem Looked.le {c : Lc} {x y : Lx} {p : Nat} (h : Looked c x p) (hl : LxLe x y) (hp : x.has.getD p false = true) : Looked c y p := by
  unfold Looked
  rw [(hl p hp).2]
  exact ⟨h.1, fun w hw => (h.2 w hw).le hl⟩
structure LxS (c : Lc) (x : Lx) : Prop where
  li : LI c x
  ls : x.shapes.length = c.own.code.length
  dn : ∀ p, p < c.own.code.length → x.has.getD p false = true → x.todo.getD p false = false → Looked c x p
  th : ∀ p, x.todo.getD p false = true → x.has.getD p false = true
theorem goesL_th {c : Lc} {x : Lx} (hh : x.has.length = 200) {to : Nat} {s : List Int} (h : ∀ p, x.todo.getD p false = true → x.has.getD p false = true) (h200 : c.own.code.length ≤ 200) : ∀ p, (goesL c x to s).1.todo.getD p false = true → (goesL c x to s).1.has.getD p false = true := by
  intro p
  unfold goesL
  by_cases h1 : c.own.code.length ≤ to
  · rw [if_pos h1]; exact h p
  rw [if_neg h1]
  by_cases h2 : x.has.getD to false = false
  · rw [if_pos h2]
    intro hp
    replace hp : (x.todo.set to true).getD p false = true := hp
    show (x.has.set to true).getD p false = true
    rw [getD_set] at hp ⊢
    by_cases e : to = p
    · rw [if_pos ⟨e, by omega⟩]
    · rw [if_neg (by omega)] at hp ⊢; exact h p hp
  · rw [if_neg h2]; split <;> exact h p
theorem waysGo_th {c : Lc} (hc : LcOK c) : ∀ (ws : List Wy) (x : Lx), (∀ w ∈ ws, WyOK c w) → LI c x → (∀ p, x.todo.getD p false = true → x.has.getD p false = true) → ∀ p, (waysGo c x ws).1.todo.getD p false = true → (waysGo c x ws).1.has.getD p false = true
  | [], x, _, _, h => h
  | w :: r, x, hw, hx, h => by
    have h0 := hw w (by simp)
    unfold waysGo
    by_cases h1 : w.2.2 ≠ 0
    · rw [if_pos h1]; exact h
    rw [if_neg h1]
    have h2 := h0.2 (by simpa using h1)
    have hg := goesL_goes hc (to := w.1.toNat) hx h2.1 h2.2
    have ht := goesL_th (to := w.1.toNat) (s := w.2.1) hx.lh h hc.ownA.c200
    by_cases h3 : (goesL c x w.1.toNat w.2.1).2 ≠ 0
    · rw [if_pos h3]; exact ht
    · rw [if_neg h3]; exact waysGo_th hc r _ (fun q hq => hw q (by simp [hq])) hg.2 ht
theorem allL_done {c : Lc} (hc : LcOK c) : ∀ (f : Nat) (x : Lx), mu x < f → LxS c x → (allL c f x).2.1 = 0 → LxLe x (allL c f x).1 ∧ LxS c (allL c f x).1 ∧ ∀ p, (allL c f x).1.todo.getD p false = false
  | 0, x, h, _, _ => by omega
  | f + 1, x, hmu, hx, h0 => by
    unfold allL at h0 ⊢
    cases ht : x.todo.findIdx? id with
    | none =>
      refine ⟨LxLe.refl _, hx, fun p => ?_⟩
      rw [List.findIdx?_eq_none_iff] at ht
      by_cases hp : p < x.todo.length
      · have := ht x.todo[p] (List.getElem_mem ..)
        simp [List.getD_eq_getElem?_getD, hp] at this ⊢
        exact this
      · simp [List.getD_eq_getElem?_getD, List.getElem?_eq_none (Nat.le_of_not_lt hp)]
    | some p =>
      simp only [ht] at h0 ⊢
      obtain ⟨o1, o2, o3⟩ := off_goes hx.li ht
      have hg := atL_goes hc o3 o2
      by_cases h1 : (atL c (x.off p) p).2 ≠ 0
      · rw [if_pos h1] at h0; exact absurd h0 h1
      · rw [if_neg h1] at h0 ⊢
        have hpt : x.todo.getD p false = true := by
          rw [List.findIdx?_eq_some_iff_getElem] at ht
          obtain ⟨a1, a2, _⟩ := ht
          simp [List.getD_eq_getElem?_getD, a1]
          simpa using a2
        have hoff : LxLe x (x.off p) := fun q hq => ⟨hq, rfl⟩
        have hoth : ∀ q, (x.off p).todo.getD q false = true → (x.off p).has.getD q false = true := fun q hq => by
          replace hq : (x.todo.set p false).getD q false = true := hq
          rw [getD_set] at hq
          split at hq
          · cases hq
          · exact hx.th q hq
        have hs : LxLe (x.off p) (atL c (x.off p) p).1 ∧ LxS c (atL c (x.off p) p).1 := by
          have e := atL_ways c (x.off p) p
          by_cases hb : (behL c (c.own.code.getD p (0, 0)) ((x.off p).shapes.getD p [])).2 ≠ 0
          · rw [if_pos hb] at e; rw [e] at h1; exact absurd hb h1
          rw [if_neg hb] at e
          have hb0 : (behL c (c.own.code.getD p (0, 0)) ((x.off p).shapes.getD p [])).2 = 0 := by simpa using hb
          have hi : rightI (c.own.code.getD p (0, 0)) = true := by
            have : c.own.code.getD p (0, 0) = c.own.code[p] := by simp [List.getD_eq_getElem?_getD, o3]
            rw [this]; exact hc.ownA.code _ (List.getElem_mem ..)
          obtain ⟨b1, b2, b3⟩ := behL_ok hc hi (o2.ok p).1 (o2.ok p).2 hb0
          have hwok := waysL_ok hc o3 b3 b1 b2
          obtain ⟨k1, k2, k3, k4⟩ := waysGo_le hc _ (x.off p) hwok o2 hx.ls
          have kt := waysGo_th hc _ (x.off p) hwok o2 hoth
          rw [← e] at k1 k2 k3 k4 kt
          refine ⟨k1, hg.2, k3, fun q hq h2 h3 => ?_, kt⟩
          obtain ⟨c1, c2⟩ := k2 q h2 h3
          by_cases eq : q = p
          · subst eq
            have hl := (k1 q c1).2
            unfold Looked
            rw [hl]
            exact ⟨hb0, k4 (by simpa using h1)⟩
          · replace c2 : (x.todo.set p false).getD q false = false := c2
            rw [getD_set, if_neg (by omega)] at c2
            exact (hx.dn q hq c1 c2).le (hoff.trans k1) c1
        obtain ⟨r1, r2, r3⟩ := allL_done hc f _ (by have := hg.1; omega) hs.2 h0
        exact ⟨(hoff.trans hs.1).trans r1, r2, r3⟩
theorem LxS0 {c : Lc} (h : 0 < c.own.code.length) : LxS c (lx0 c.own.code.length) := by
  have e : ∀ p, (lx0 c.own.code.length).has.getD p false = (lx0 c.own.code.length).todo.getD p false := fun p => rfl
  refine ⟨LI0 h, by simp [lx0], fun p _ h1 h2 => ?_, fun p hp => by rw [e]; exact hp⟩
  rw [e, h2] at h1; cases h1
theorem look_done {m : List Actr} (h : checkF m = (0, 0, 0)) {k : Nat} (hk : k < m.length) : LxS ⟨m, k, actr m k⟩ (lookL m k).1 ∧ (∀ p, p < (actr m k).code.length → (lookL m k).1.has.getD p false = true → Looked ⟨m, k, actr m k⟩ (lookL m k).1 p) ∧ (lookL m k).1.has.getD 0 false = true ∧ (lookL m k).1.shapes.getD 0 [] = [] := by
  have hr := (checkF_zero (m := m) (by rw [h])).2
  have hc := lcOK_of hr hk
  have h0 := hc.ownA.c0
  have hl := look_ok h hk
  have hx := LxS0 (c := ⟨m, k, actr m k⟩) h0
  have hmu : mu (lx0 (actr m k).code.length) < 700 := by have := mu_le hx.li; simp only at this; omega
  obtain ⟨r1, r2, r3⟩ := allL_done hc 700 (lx0 (actr m k).code.length) hmu hx hl
  have i0 : (lx0 (actr m k).code.length).has.getD 0 false = true := by
    show (off.set 0 true).getD 0 false = true
    rw [getD_set, if_pos ⟨rfl, by rw [off_len]; omega⟩]
  obtain ⟨s1, s2⟩ := r1 0 i0
  refine ⟨r2, fun p hp h1 => r2.dn p hp h1 (r3 p), s1, ?_⟩
  show (allL _ 700 _).1.shapes.getD 0 [] = []
  rw [s2]
  simp [lx0, List.getD_eq_getElem?_getD, List.getElem?_replicate]; split <;> rfl
end Go.Proofs.Ytkhoelmbcmkhjaa
