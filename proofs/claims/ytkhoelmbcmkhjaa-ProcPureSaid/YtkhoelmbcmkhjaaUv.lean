/- In a module that is well a process stands as its place's shape says: plain law. Layer 15: stands; ProcStarts. Layer 15: ProcStarts. Layer 15: ProcTyped. -/
import Derived.Test.YtkhoelmbcmkhjaaGf
import Derived.Test.YtkhoelmbcmkhjaaSv
import Derived.Test.YtkhoelmbcmkhjaaGd
namespace Go.Proofs.Ytkhoelmbcmkhjaa
set_option maxRecDepth 100000

/-- does a state stand as its place's shape says? -/
def standsF (m : List Actr) (s : Sta) : Bool :=
  decide (shpB m s.actor = true ∧ 0 ≤ s.pc ∧ s.pc < (actr m s.actor).code.length ∧ (lookL m s.actor.toNat).1.has.getD s.pc.toNat false = true ∧ s.regs.length = (actr m s.actor).regs.length ∧
    (s.waiting = true → (ins (actr m s.actor) s.pc).1 = 21 ∧ ((tbl (actr m s.actor) (ins (actr m s.actor) s.pc).2).tmo < 0 → s.till = -1)) ∧
    (s.stack.length : Int) = ((lookL m s.actor.toNat).1.shapes.getD s.pc.toNat []).length - (if s.waiting = true ∧ 0 ≤ (tbl (actr m s.actor) (ins (actr m s.actor) s.pc).2).tmo then 1 else 0))
/-- how many numbers an operation takes and puts (a receive's message aside) -/
def tkO (m : List Actr) (op a tmo : Int) : Nat :=
  if op = 5 ∨ op = 13 ∨ op = 17 ∨ op = 22 ∨ op = 23 ∨ op = 24 ∨ op = 25 ∨ op = 26 then 1 else if (6 ≤ op ∧ op ≤ 12) ∨ op = 14 ∨ op = 15 ∨ op = 20 then 2
  else if op = 19 then (actr m a).params.length else if op = 21 ∧ 0 ≤ tmo then 1 else 0
def ptO (op : Int) : Nat := if op = 1 ∨ op = 2 ∨ op = 3 ∨ op = 4 ∨ op = 13 ∨ op = 18 ∨ (6 ≤ op ∧ op ≤ 12) ∨ op = 14 ∨ op = 15 ∨ op = 19 then 1 else if op = 26 then 2 else 0
theorem op_all {op : Int} (h : 0 ≤ op ∧ op ≤ 26) : op = 0 ∨ op = 1 ∨ op = 2 ∨ op = 3 ∨ op = 4 ∨ op = 5 ∨ op = 6 ∨ op = 7 ∨ op = 8 ∨ op = 9 ∨ op = 10 ∨ op = 11 ∨ op = 12 ∨ op = 13 ∨ op = 14 ∨ op = 15 ∨ op = 16 ∨ op = 17 ∨ op = 18 ∨ op = 19 ∨ op = 20 ∨ op = 21 ∨ op = 22 ∨ op = 23 ∨ op = 24 ∨ op = 25 ∨ op = 26 := by omega
theorem popL_eq {s w : List Int} (h : (popL s w).2 = 0) : w.length ≤ s.length ∧ (popL s w).1.length = s.length - w.length := by
  unfold popL at *
  split at h
  · cases h
  · rename_i h1
    split at h
    · rename_i h2
      rw [if_neg h1, if_pos h2]
      exact ⟨by omega, by simp⟩
    · cases h
theorem effL_h (c : Lc) {op a : Int} (hi : 0 ≤ op ∧ op ≤ 26) (h1 : op ≠ 20) (h2 : op ≠ 22) (h3 : op ≠ 25) (h4 : op ≠ 26) : (effL c (op, a)).1.length = tkO c.m op a (tbl c.own a).tmo ∧ (effL c (op, a)).2.length = ptO op := by
  rcases op_all hi with rfl | rfl | rfl | rfl | rfl | rfl | rfl | rfl | rfl | rfl | rfl | rfl | rfl | rfl | rfl | rfl | rfl | rfl | rfl | rfl | rfl | rfl | rfl | rfl | rfl | rfl | rfl
  all_goals first | exact absurd rfl h1 | exact absurd rfl h2 | exact absurd rfl h3 | exact absurd rfl h4 | skip
  all_goals simp [effL, tkO, ptO]
  by_cases ht : 0 ≤ (tbl c.own a).tmo <;> simp [ht]
/-- the height of the shape behind an instruction -/
theorem behL_h {c : Lc} {op a : Int} {s : List Int} (hi : 0 ≤ op ∧ op ≤ 26) (hl : s.length ≤ 16) (h0 : (behL c (op, a) s).2 = 0) :
    tkO c.m op a (tbl c.own a).tmo ≤ s.length ∧ (behL c (op, a) s).1.length = s.length - tkO c.m op a (tbl c.own a).tmo + ptO op ∧ (behL c (op, a) s).1.length ≤ 16 ∧ namesL c (op, a) = true := by
  unfold behL at *
  by_cases a1 : namesL c (op, a) = false
  · rw [if_pos a1] at h0; cases h0
  rw [if_neg a1] at h0 ⊢
  have hn : namesL c (op, a) = true := by simpa using a1
  by_cases a2 : op = 20
  · subst a2
    rw [if_pos rfl] at h0 ⊢
    have t2 : tkO c.m 20 a (tbl c.own a).tmo = 2 := by simp [tkO]
    have p2 : ptO 20 = 0 := by simp [ptO]
    unfold sendL at *
    by_cases b1 : s.length < 2
    · rw [if_pos b1] at h0; cases h0
    rw [if_neg b1] at h0 ⊢
    by_cases b2 : (actT (s.getD (s.length - 2) 0)).2 = false
    · rw [if_pos b2] at h0; cases h0
    rw [if_neg b2] at h0 ⊢
    by_cases b3 : a < (actr c.m (actT (s.getD (s.length - 2) 0)).1).msgs.length
    · rw [if_pos b3] at h0 ⊢
      rw [t2, p2]
      exact ⟨by omega, by simp, by simp; omega, hn⟩
    · rw [if_neg b3] at h0; cases h0
  have hh : ∀ o e, (high o e).2 = 0 → e = 0 ∧ o.length ≤ 16 ∧ (high o e).1 = o := fun o e h => by
    unfold high at *
    simp only at h
    split at h
    · cases h
    · rename_i hne
      exact ⟨h, by subst h; omega, rfl⟩
  rw [if_neg a2] at h0 ⊢
  by_cases a3 : op = 22 ∨ op = 25 ∨ op = 26
  · rw [if_pos a3] at h0 ⊢
    have t1 : tkO c.m op a (tbl c.own a).tmo = 1 := by unfold tkO; rw [if_pos (by omega)]
    by_cases b1 : s = []
    · rw [if_pos b1] at h0; cases h0
    rw [if_neg b1] at h0 ⊢
    have hs1 : 1 ≤ s.length := by
      rcases Nat.eq_zero_or_pos s.length with h | h
      · exact absurd (List.length_eq_zero_iff.1 h) b1
      · exact h
    by_cases b2 : op = 22 ∧ (actT (s.getLastD 0)).2 = false
    · rw [if_pos b2] at h0; cases h0
    rw [if_neg b2] at h0 ⊢
    obtain ⟨_, g2, g3⟩ := hh _ _ h0
    rw [g3, t1]
    refine ⟨hs1, ?_, g2, hn⟩
    by_cases b3 : op = 26
    · rw [if_pos b3]
      subst b3
      simp [ptO]; omega
    · rw [if_neg b3]
      have : ptO op = 0 := by unfold ptO; rw [if_neg (by omega), if_neg b3]
      rw [this]; simp
  · rw [if_neg a3] at h0 ⊢
    obtain ⟨g1, g2, g3⟩ := hh _ _ h0
    obtain ⟨e1, e2⟩ := effL_h c (a := a) hi a2 (fun e => a3 (Or.inl e)) (fun e => a3 (Or.inr (Or.inl e))) (fun e => a3 (Or.inr (Or.inr e)))
    obtain ⟨p1, p2⟩ := popL_eq g1
    rw [g3]
    rw [e1] at p1 p2
    refine ⟨p1, by rw [List.length_append, p2, e2], g2, hn⟩
/-- what a step of an operation that is no receive comes to -/
structure StepOK (m : List Actr) (op a pc : Int) (s : Sta) (h : Nat) (r : Sta × Eff × Int) : Prop where
  err : r.2.2 = 0
  act : r.1.actor = s.actor
  regs : r.1.regs.length = s.regs.length
  wt : r.1.waiting = s.waiting
  till : r.1.till = s.till
  next : r.2.1.kind = 5 ∨ ((r.1.pc = pc ∧ op ≠ 16) ∨ ((op = 16 ∨ op = 17) ∧ r.1.pc = a)) ∧ op ≠ 0 ∧ op ≠ 23 ∧
    ((op = 19 ∧ r.2.1.kind = 3 ∧ r.2.1.actor = a ∧ r.2.1.args.length = (actr m a).params.length ∧ r.1.stack.length + 1 = h) ∨ (op ≠ 19 ∧ r.2.1.kind ≠ 3 ∧ r.1.stack.length = h))
theorem dropl {s : List Int} (h : s ≠ []) : ∃ t x, s = t ++ [x] := ⟨s.dropLast, s.getLast h, (List.dropLast_concat_getLast h).symm⟩
theorem step_ok {m : List Actr} {A : Actr} {op a self now : Int} {box : List (Int × Int)} {s : Sta} {e : Eff} (hop : 0 ≤ op ∧ op ≤ 26) (h21 : op ≠ 21) (tmo : Int) (htk : tkO m op a tmo ≤ s.stack.length) (h16 : s.stack.length - tkO m op a tmo + ptO op ≤ 16) (hs16 : s.stack.length ≤ 16)
    (hr : op = 4 ∨ op = 5 → 0 ≤ a ∧ a < s.regs.length) (h19 : op = 19 → 0 ≤ a ∧ a < m.length) (ek : e.kind = 0) :
    StepOK m op a s.pc s (s.stack.length - tkO m op a tmo + ptO op) (stepG ⟨m, A, op, a, self, now, box⟩ ⟨s, e, 0⟩) := by
  obtain ⟨sa, sp, ss, sr, sw, su⟩ := s
  simp only at htk h16 hs16 hr ⊢
  by_cases t2 : isTwo op
  · have e2 : tkO m op a tmo = 2 ∧ ptO op = 1 := by
      unfold isTwo at t2
      exact ⟨by unfold tkO; rw [if_neg (by omega), if_pos (by omega)], by unfold ptO; rw [if_pos (by omega)]⟩
    rw [e2.1] at htk h16 ⊢
    rw [e2.2] at h16 ⊢
    obtain ⟨t, y, rfl⟩ := dropl (s := ss) (fun e => by rw [e] at htk; simp at htk)
    obtain ⟨t, x, rfl⟩ := dropl (s := t) (fun e => by rw [e] at htk; simp at htk)
    simp at hs16
    have n16 : ¬ 16 ≤ t.length := by omega
    have hne : ¬ op = 16 ∧ ¬ op = 0 ∧ ¬ op = 23 ∧ ¬ op = 19 := by unfold isTwo at t2; omega
    unfold stepG
    rw [if_pos t2]
    by_cases hd : (twoF op x y).2 = 15
    · have : (⟨⟨sa, sp, t ++ [x] ++ [y], sr, sw, su⟩, e, 0⟩ : Wx).two op = (⟨⟨sa, sp, t, sr, sw, su⟩, e, 0⟩ : Wx).div0 ⟨sa, sp, t ++ [x] ++ [y], sr, sw, su⟩ := by
        simp [Wx.two, Wx.pop, Wx.top, hd]
      simp only
      rw [this]
      refine ⟨?_, ?_, ?_, ?_, ?_, Or.inl ?_⟩ <;> simp [stepEnd, Wx.div0, Wx.stays, Wx.exits]
    · have : (⟨⟨sa, sp, t ++ [x] ++ [y], sr, sw, su⟩, e, 0⟩ : Wx).two op = ⟨⟨sa, sp, t ++ [(twoF op x y).1], sr, sw, su⟩, e, 0⟩ := by
        simp [Wx.two, Wx.pop, Wx.top, hd, Wx.push, n16]
      simp only
      rw [this]
      refine ⟨?_, ?_, ?_, ?_, ?_, Or.inr ⟨Or.inl ⟨?_, hne.1⟩, hne.2.1, hne.2.2.1, Or.inr ⟨hne.2.2.2, ?_, ?_⟩⟩⟩ <;> simp [stepEnd, ek]
  by_cases e0 : op = 0
  · subst e0
    simp only [tkO, ptO] at htk h16 ⊢
    simp at htk h16 hr h19 ⊢
    unfold stepG
    rw [if_neg (by simp [isTwo])]
    simp only [deedOf, deedL, workF]
    simp
    refine ⟨?_, ?_, ?_, ?_, ?_, Or.inl ?_⟩ <;> simp [stepEnd, Wx.exits, Wx.stays]
  by_cases e1 : op = 1
  · subst e1
    simp only [tkO, ptO] at htk h16 ⊢
    simp at htk h16 hr h19 ⊢
    unfold stepG
    rw [if_neg (by simp [isTwo])]
    simp only [deedOf, deedL, workF]
    simp
    have n16 : ¬ 16 ≤ ss.length := by omega
    refine ⟨?_, ?_, ?_, ?_, ?_, Or.inr ⟨Or.inl ⟨?_, by decide⟩, by decide, by decide, Or.inr ⟨by decide, ?_, ?_⟩⟩⟩ <;> simp [stepEnd, Wx.push, ek, n16]
  by_cases e2 : op = 2
  · subst e2
    simp only [tkO, ptO] at htk h16 ⊢
    simp at htk h16 hr h19 ⊢
    unfold stepG
    rw [if_neg (by simp [isTwo])]
    simp only [deedOf, deedL, workF]
    simp
    have n16 : ¬ 16 ≤ ss.length := by omega
    refine ⟨?_, ?_, ?_, ?_, ?_, Or.inr ⟨Or.inl ⟨?_, by decide⟩, by decide, by decide, Or.inr ⟨by decide, ?_, ?_⟩⟩⟩ <;> simp [stepEnd, Wx.push, ek, n16]
  by_cases e3 : op = 3
  · subst e3
    simp only [tkO, ptO] at htk h16 ⊢
    simp at htk h16 hr h19 ⊢
    unfold stepG
    rw [if_neg (by simp [isTwo])]
    simp only [deedOf, deedL, workF]
    simp
    have n16 : ¬ 16 ≤ ss.length := by omega
    refine ⟨?_, ?_, ?_, ?_, ?_, Or.inr ⟨Or.inl ⟨?_, by decide⟩, by decide, by decide, Or.inr ⟨by decide, ?_, ?_⟩⟩⟩ <;> simp [stepEnd, Wx.push, ek, n16]
  by_cases e4 : op = 4
  · subst e4
    simp only [tkO, ptO] at htk h16 ⊢
    simp at htk h16 hr h19 ⊢
    unfold stepG
    rw [if_neg (by simp [isTwo])]
    simp only [deedOf, deedL, workF]
    simp
    have n16 : ¬ 16 ≤ ss.length := by omega
    refine ⟨?_, ?_, ?_, ?_, ?_, Or.inr ⟨Or.inl ⟨?_, by decide⟩, by decide, by decide, Or.inr ⟨by decide, ?_, ?_⟩⟩⟩ <;> simp [stepEnd, Wx.push, Wx.load, ek, n16, hr]
  by_cases e5 : op = 5
  · subst e5
    simp only [tkO, ptO] at htk h16 ⊢
    simp at htk h16 hr h19 ⊢
    unfold stepG
    rw [if_neg (by simp [isTwo])]
    simp only [deedOf, deedL, workF]
    simp
    obtain ⟨t, x, rfl⟩ := dropl (s := ss) (fun e => by rw [e] at htk; simp at htk)
    refine ⟨?_, ?_, ?_, ?_, ?_, Or.inr ⟨Or.inl ⟨?_, by decide⟩, by decide, by decide, Or.inr ⟨by decide, ?_, ?_⟩⟩⟩ <;> simp [stepEnd, Wx.pop, Wx.top, Wx.stow, ek, hr]
  by_cases e13 : op = 13
  · subst e13
    simp only [tkO, ptO] at htk h16 ⊢
    simp at htk h16 hr h19 ⊢
    unfold stepG
    rw [if_neg (by simp [isTwo])]
    simp only [deedOf, deedL, workF]
    simp
    obtain ⟨t, x, rfl⟩ := dropl (s := ss) (fun e => by rw [e] at htk; simp at htk)
    have n16 : ¬ 16 ≤ t.length := by simp at h16; omega
    refine ⟨?_, ?_, ?_, ?_, ?_, Or.inr ⟨Or.inl ⟨?_, by decide⟩, by decide, by decide, Or.inr ⟨by decide, ?_, ?_⟩⟩⟩ <;> simp [stepEnd, Wx.push, Wx.pop, Wx.top, ek, n16]
  by_cases e16 : op = 16
  · subst e16
    simp only [tkO, ptO] at htk h16 ⊢
    simp at htk h16 hr h19 ⊢
    unfold stepG
    rw [if_neg (by simp [isTwo])]
    simp only [deedOf, deedL, workF]
    simp
    refine ⟨?_, ?_, ?_, ?_, ?_, Or.inr ⟨Or.inr ⟨Or.inl rfl, ?_⟩, by decide, by decide, Or.inr ⟨by decide, ?_, ?_⟩⟩⟩ <;> simp [stepEnd, Wx.setpc, ek]
  by_cases e17 : op = 17
  · subst e17
    simp only [tkO, ptO] at htk h16 ⊢
    simp at htk h16 hr h19 ⊢
    unfold stepG
    rw [if_neg (by simp [isTwo])]
    simp only [deedOf, deedL, workF]
    simp
    obtain ⟨t, x, rfl⟩ := dropl (s := ss) (fun e => by rw [e] at htk; simp at htk)
    by_cases hx : x = 0
    · refine ⟨?_, ?_, ?_, ?_, ?_, Or.inr ⟨Or.inr ⟨Or.inr rfl, ?_⟩, by decide, by decide, Or.inr ⟨by decide, ?_, ?_⟩⟩⟩ <;> simp [stepEnd, Wx.pop, Wx.top, Wx.setpc, Wx.unl, ek, hx]
    · refine ⟨?_, ?_, ?_, ?_, ?_, Or.inr ⟨Or.inl ⟨?_, by decide⟩, by decide, by decide, Or.inr ⟨by decide, ?_, ?_⟩⟩⟩ <;> simp [stepEnd, Wx.pop, Wx.top, Wx.unl, ek, hx]
  by_cases e18 : op = 18
  · subst e18
    simp only [tkO, ptO] at htk h16 ⊢
    simp at htk h16 hr h19 ⊢
    unfold stepG
    rw [if_neg (by simp [isTwo])]
    simp only [deedOf, deedL, workF]
    simp
    have n16 : ¬ 16 ≤ ss.length := by omega
    refine ⟨?_, ?_, ?_, ?_, ?_, Or.inr ⟨Or.inl ⟨?_, by decide⟩, by decide, by decide, Or.inr ⟨by decide, ?_, ?_⟩⟩⟩ <;> simp [stepEnd, Wx.push, ek, n16]
  by_cases e19 : op = 19
  · subst e19
    simp only [tkO, ptO] at htk h16 ⊢
    simp at htk h16 hr h19 ⊢
    unfold stepG
    rw [if_neg (by simp [isTwo])]
    simp only [deedOf, deedL, workF]
    simp
    have e0 : actr0 m a = actr m a := rfl
    have hl : (actr m a).params.length ≤ ss.length := htk
    refine ⟨?_, ?_, ?_, ?_, ?_, Or.inr ⟨Or.inl ⟨?_, by decide⟩, by decide, by decide, Or.inl ⟨rfl, ?_, ?_, ?_, ?_⟩⟩⟩ <;> simp [stepEnd, Wx.spawn, Wx.spawned, h19, e0, hl]
    all_goals omega
  by_cases e20 : op = 20
  · subst e20
    simp only [tkO, ptO] at htk h16 ⊢
    simp at htk h16 hr h19 ⊢
    unfold stepG
    rw [if_neg (by simp [isTwo])]
    simp only [deedOf, deedL, workF]
    simp
    obtain ⟨t, y, rfl⟩ := dropl (s := ss) (fun e => by rw [e] at htk; simp at htk)
    obtain ⟨t, x, rfl⟩ := dropl (s := t) (fun e => by rw [e] at htk; simp at htk)
    refine ⟨?_, ?_, ?_, ?_, ?_, Or.inr ⟨Or.inl ⟨?_, by decide⟩, by decide, by decide, Or.inr ⟨by decide, ?_, ?_⟩⟩⟩ <;> simp [stepEnd, Wx.pop, Wx.top, Wx.send]
  by_cases e22 : op = 22
  · subst e22
    simp only [tkO, ptO] at htk h16 ⊢
    simp at htk h16 hr h19 ⊢
    unfold stepG
    rw [if_neg (by simp [isTwo])]
    simp only [deedOf, deedL, workF]
    simp
    obtain ⟨t, x, rfl⟩ := dropl (s := ss) (fun e => by rw [e] at htk; simp at htk)
    refine ⟨?_, ?_, ?_, ?_, ?_, Or.inr ⟨Or.inl ⟨?_, by decide⟩, by decide, by decide, Or.inr ⟨by decide, ?_, ?_⟩⟩⟩ <;> simp [stepEnd, Wx.pop, Wx.top, Wx.link]
  by_cases e23 : op = 23
  · subst e23
    simp only [tkO, ptO] at htk h16 ⊢
    simp at htk h16 hr h19 ⊢
    unfold stepG
    rw [if_neg (by simp [isTwo])]
    simp only [deedOf, deedL, workF]
    simp
    obtain ⟨t, x, rfl⟩ := dropl (s := ss) (fun e => by rw [e] at htk; simp at htk)
    refine ⟨?_, ?_, ?_, ?_, ?_, Or.inl ?_⟩ <;> simp [stepEnd, Wx.pop, Wx.top, Wx.exits, Wx.stays]
  by_cases e24 : op = 24
  · subst e24
    simp only [tkO, ptO] at htk h16 ⊢
    simp at htk h16 hr h19 ⊢
    unfold stepG
    rw [if_neg (by simp [isTwo])]
    simp only [deedOf, deedL, workF]
    simp
    obtain ⟨t, x, rfl⟩ := dropl (s := ss) (fun e => by rw [e] at htk; simp at htk)
    refine ⟨?_, ?_, ?_, ?_, ?_, Or.inr ⟨Or.inl ⟨?_, by decide⟩, by decide, by decide, Or.inr ⟨by decide, ?_, ?_⟩⟩⟩ <;> simp [stepEnd, Wx.pop, Wx.top, Wx.out]
  by_cases e25 : op = 25
  · subst e25
    simp only [tkO, ptO] at htk h16 ⊢
    simp at htk h16 hr h19 ⊢
    unfold stepG
    rw [if_neg (by simp [isTwo])]
    simp only [deedOf, deedL, workF]
    simp
    obtain ⟨t, x, rfl⟩ := dropl (s := ss) (fun e => by rw [e] at htk; simp at htk)
    refine ⟨?_, ?_, ?_, ?_, ?_, Or.inr ⟨Or.inl ⟨?_, by decide⟩, by decide, by decide, Or.inr ⟨by decide, ?_, ?_⟩⟩⟩ <;> simp [stepEnd, Wx.pop, ek]
  by_cases e26 : op = 26
  · subst e26
    simp only [tkO, ptO] at htk h16 ⊢
    simp at htk h16 hr h19 ⊢
    unfold stepG
    rw [if_neg (by simp [isTwo])]
    simp only [deedOf, deedL, workF]
    simp
    obtain ⟨t, x, rfl⟩ := dropl (s := ss) (fun e => by rw [e] at htk; simp at htk)
    have n16 : ¬ 16 ≤ t.length := by simp at h16; omega
    have n17 : ¬ 16 ≤ t.length + 1 := by simp at h16; omega
    refine ⟨?_, ?_, ?_, ?_, ?_, Or.inr ⟨Or.inl ⟨?_, by decide⟩, by decide, by decide, Or.inr ⟨by decide, ?_, ?_⟩⟩⟩ <;> simp [stepEnd, Wx.push, Wx.pop, Wx.top, ek, n16, n17]
  exfalso
  unfold isTwo at t2
  omega
theorem recvW_of {c : Lc} {tmo : Int} {s : List Int} : ∀ cls : List (Int × Int), (∀ w ∈ recvW c tmo s cls, w.2.2 = 0) → (∀ cl ∈ cls, cl.1 < c.own.msgs.length ∧ s.length + 1 ≤ 16 ∧ ((cl.2, s ++ [c.own.msgs.getD cl.1.toNat 0], 0) : Wy) ∈ recvW c tmo s cls) ∧ (0 ≤ tmo → ((tmo, s, 0) : Wy) ∈ recvW c tmo s cls)
  | [], _ => ⟨by simp, fun ht => by unfold recvW; rw [if_pos ht]; simp⟩
  | cl :: r, h => by
    unfold recvW at h ⊢
    by_cases h1 : (c.own.msgs.length : Int) ≤ cl.1
    · rw [if_pos h1] at h
      have := h (0, [], 6) (by simp)
      simp at this
    rw [if_neg h1] at h ⊢
    by_cases h2 : 16 < s.length + 1
    · rw [if_pos h2] at h
      have := h (0, [], 12) (by simp)
      simp at this
    rw [if_neg h2] at h ⊢
    obtain ⟨g1, g2⟩ := recvW_of r fun w hw => h w (List.mem_cons_of_mem _ hw)
    refine ⟨fun cl' hc => ?_, fun ht => List.mem_cons_of_mem _ (g2 ht)⟩
    rcases List.mem_cons.1 hc with rfl | hc
    · exact ⟨by omega, by omega, List.mem_cons_self ..⟩
    · obtain ⟨a1, a2, a3⟩ := g1 cl' hc
      exact ⟨a1, a2, List.mem_cons_of_mem _ a3⟩
theorem clauseF_mem {tag : Int} : ∀ {cls : List (Int × Int)}, (toF cls tag).2 = true → ∃ cl ∈ cls, cl.1 = tag ∧ cl.2 = clauseF cls tag
  | [], h => by simp [toF] at h
  | c :: r, h => by
    unfold toF at h
    unfold clauseF
    by_cases h1 : c.1 = tag
    · rw [if_pos h1]; exact ⟨c, by simp, h1, rfl⟩
    · rw [if_neg h1] at h ⊢
      obtain ⟨cl, g1, g2⟩ := clauseF_mem h
      exact ⟨cl, by simp [g1], g2⟩
theorem foundF_to {cls : List (Int × Int)} : ∀ (box : List (Int × Int)) (i : Nat), 0 ≤ foundF cls box i → ∃ j : Nat, foundF cls box i = (i + j : Nat) ∧ j < box.length ∧ (toF cls (box.getD j (0, 0)).1).2 = true
  | [], _, h => by simp [foundF] at h
  | m :: r, i, h => by
    unfold foundF at h ⊢
    by_cases h1 : (toF cls m.1).2 = true
    · rw [if_pos h1]; exact ⟨0, by simp, by simp, h1⟩
    · rw [if_neg h1] at h ⊢
      obtain ⟨j, g1, g2, g3⟩ := foundF_to r (i + 1) h
      exact ⟨j + 1, by rw [g1]; omega, by simp; omega, g3⟩
theorem typed_law {m : List Actr} {self now : Int} {s : Sta} {box : List (Int × Int)} (hz : checkF m = (0, 0, 0)) (hs : standsF m s = true) (hbox : ∀ x ∈ box, 0 ≤ x.1 ∧ x.1 < (actr m s.actor).msgs.length) :
    (stepF m self s now box).2.2 = 0 ∧ ((stepF m self s now box).2.1.kind = 5 ∨
      ((stepF m self s now box).2.1.kind = 3 ∧ 0 ≤ (stepF m self s now box).2.1.actor ∧ (stepF m self s now box).2.1.actor < m.length ∧ (stepF m self s now box).2.1.args.length = (actr m (stepF m self s now box).2.1.actor).params.length ∧ (stepF m self s now box).1.stack.length < 16 ∧ (stepF m self s now box).1.actor = s.actor ∧
        standsF m { (stepF m self s now box).1 with stack := (stepF m self s now box).1.stack ++ [5] } = true) ∨
      ((stepF m self s now box).2.1.kind ≠ 3 ∧ (stepF m self s now box).1.actor = s.actor ∧ standsF m (stepF m self s now box).1 = true)) := by
  have hs0 := hs
  simp only [standsF, decide_eq_true_eq] at hs
  obtain ⟨hb, p1, p2, p3, p4, p5, p6⟩ := hs
  have hb' := hb
  simp only [shpB, decide_eq_true_eq] at hb'
  obtain ⟨sa, sp, ss, sr, sw, su⟩ := s
  simp only at hb hb' p1 p2 p3 p4 p5 p6 hbox
  obtain ⟨k, rfl⟩ : ∃ k : Nat, sa = k := ⟨sa.toNat, by omega⟩
  obtain ⟨p, rfl⟩ : ∃ p : Nat, sp = p := ⟨sp.toNat, by omega⟩
  have hk : k < m.length := by omega
  have hr := (checkF_zero (m := m) (by rw [hz])).2
  have hc := lcOK_of hr hk
  have ho := hc.ownA
  have ea : actr m (k : Int) = m[k] := by simp [actr, List.getD_eq_getElem?_getD, hk]
  obtain ⟨hS, hL, _, _⟩ := look_done hz hk
  simp only [Int.toNat_natCast] at p3 p6
  have hp : p < (actr m (k : Int)).code.length := by omega
  have h200 := ho.c200
  simp only at h200
  obtain ⟨hlk, hgo⟩ := hL p hp p3
  have hsh := (hS.li.ok p).2
  have hI : ins (actr m (k : Int)) (p : Int) = (actr m (k : Int)).code.getD p (0, 0) := rfl
  obtain ⟨op, a, hi⟩ : ∃ op a, (actr m (k : Int)).code.getD p (0, 0) = (op, a) := ⟨_, _, rfl⟩
  rw [hI, hi] at p5 p6
  simp only at hlk hgo p5 p6
  rw [hi] at hlk hgo
  have hri : rightI (op, a) = true := by
    have : (actr m (k : Int)).code.getD p (0, 0) = (actr m (k : Int)).code[p] := by simp [List.getD_eq_getElem?_getD, hp]
    rw [← hi, this]; exact ho.code _ (List.getElem_mem ..)
  have hop : 0 ≤ op ∧ op ≤ 26 := by simp only [rightI, decide_eq_true_eq] at hri; omega
  have hbd := rightI_bd hri
  obtain ⟨b1, b2, b3, b4⟩ := behL_h hop hsh hlk
  simp only at b1 b2 b4
  have hwr : IntKind.i64.wrap ((p : Int) + 1) = (p : Int) + 1 := wrap_id (by omega) (by omega)
  have h19 : op = 19 → 0 ≤ a ∧ a < m.length := fun e => by
    unfold namesL at b4
    rw [if_neg (by simp only; omega), if_pos e] at b4
    simp only [decide_eq_true_eq] at b4
    exact ⟨by simp only at hbd; omega, b4⟩
  have h45 : op = 4 ∨ op = 5 → 0 ≤ a ∧ a < sr.length := fun e => by
    unfold namesL at b4
    rw [if_pos e] at b4
    simp only [decide_eq_true_eq] at b4
    exact ⟨by simp only at hbd; omega, by omega⟩
  have h21 : op = 21 → 0 ≤ a ∧ a < (actr m (k : Int)).tabs.length := fun e => by
    unfold namesL at b4
    rw [if_neg (by simp only; omega), if_neg (by simp only; omega), if_pos e] at b4
    simp only [decide_eq_true_eq] at b4
    exact ⟨by simp only at hbd; omega, b4⟩
  have hsl : ss.length ≤ 16 := by split at p6 <;> omega
  have hsd : soundF m ⟨k, p, ss, sr, sw, su⟩ = true := by
    simp only [soundF, decide_eq_true_eq]
    refine ⟨by omega, by omega, by omega, p2, p4, hsl, fun hw => ?_⟩
    rw [hI, hi]
    obtain ⟨q1, _⟩ := p5 hw
    exact ⟨q1, h21 q1⟩
  have eg := stepF_go (self := self) (now := now) (box := box) hsd rfl (hI.trans hi)
  simp only at eg
  rw [eg, hwr]
  -- a state that stands behind a way
  have hst : ∀ (w : Wy), w ∈ waysL ⟨m, k, actr m (k : Int)⟩ p (behL ⟨m, k, actr m (k : Int)⟩ (op, a) ((lookL m k).1.shapes.getD p [])).1 → ∀ t : Sta, t.actor = k → t.pc = w.1 → t.regs.length = sr.length → t.waiting = false → t.stack.length = w.2.1.length → standsF m t = true := fun w hw t e1 e2 e3 e4 e5 => by
    obtain ⟨_, g2, g3, g4, g5⟩ := hgo w hw
    simp only at g3
    simp only [standsF, decide_eq_true_eq, e1, e2, e3, e4, Int.toNat_natCast]
    refine ⟨hb, g2, by omega, g4, p4, by simp, ?_⟩
    rw [g5, e5]; simp
  by_cases e21 : op = 21
  · subst e21
    have hwe : waysL ⟨m, k, actr m (k : Int)⟩ p (behL ⟨m, k, actr m (k : Int)⟩ (21, a) ((lookL m k).1.shapes.getD p [])).1 = recvW ⟨m, k, actr m (k : Int)⟩ (tbl (actr m (k : Int)) a).tmo (behL ⟨m, k, actr m (k : Int)⟩ (21, a) ((lookL m k).1.shapes.getD p [])).1 (tbl (actr m (k : Int)) a).cls := by
      unfold waysL
      simp only [hi]
      rw [if_neg (by decide), if_neg (by decide), if_neg (by decide), if_pos trivial]
    obtain ⟨w1, w2⟩ := recvW_of (c := ⟨m, k, actr m (k : Int)⟩) (tmo := (tbl (actr m (k : Int)) a).tmo) (s := (behL ⟨m, k, actr m (k : Int)⟩ (21, a) ((lookL m k).1.shapes.getD p [])).1) (tbl (actr m (k : Int)) a).cls (fun w hw => (hgo w (by rw [hwe]; exact hw)).1)
    rw [hwe] at hst
    have et : tkO m 21 a (tbl (actr m (k : Int)) a).tmo = if 0 ≤ (tbl (actr m (k : Int)) a).tmo then 1 else 0 := by simp [tkO]
    have ep : ptO 21 = 0 := by simp [ptO]
    rw [et] at b1 b2
    rw [ep] at b2
    generalize (behL ⟨m, k, actr m (k : Int)⟩ (21, a) ((lookL m k).1.shapes.getD p [])).1 = out at *
    generalize hT : tbl (actr m (k : Int)) a = T at *
    have hlen : (if sw = false ∧ 0 ≤ T.tmo then 1 else 0) ≤ ss.length ∧ ss.length - (if sw = false ∧ 0 ≤ T.tmo then 1 else 0) = out.length := by
      cases sw <;> by_cases ht : 0 ≤ T.tmo <;> simp [ht] at p6 b1 b2 ⊢ <;> omega
    obtain ⟨st, args, es, ek⟩ : ∃ st args, ss = st ++ args ∧ args.length = if sw = false ∧ 0 ≤ T.tmo then 1 else 0 := ⟨ss.take (ss.length - (if sw = false ∧ 0 ≤ T.tmo then 1 else 0)), ss.drop (ss.length - (if sw = false ∧ 0 ≤ T.tmo then 1 else 0)), (List.take_append_drop ..).symm, by simp; omega⟩
    have hstl : st.length = out.length := by
      have := hlen.2
      rw [← ek, es] at this
      simpa using this
    subst es
    have h5 := p5
    rw [stepG_21 (h21 rfl) (by rw [hT]; exact ek), hT]
    have wp : IntKind.i64.wrap ((p : Int) + 1 - 1) = p := by rw [wrap_id (by omega) (by omega)]; omega
    rw [wp]
    have hclk : T.tmo < 0 → clk15 T ⟨k, p, st, sr, sw, su⟩ (args.headD 0) now = -1 := fun ht => by
      unfold clk15
      cases sw
      · rw [if_neg (by simp), if_neg (by omega)]
      · rw [if_pos rfl]; exact (p5 rfl).2 ht
    unfold recv15
    by_cases hf : 0 ≤ foundF T.cls box 0
    · rw [if_pos hf]
      obtain ⟨j, f1, f2, f3⟩ := foundF_to box 0 hf
      rw [Nat.zero_add] at f1
      rw [f1, Int.toNat_natCast]
      obtain ⟨cl, c1, c2, c3⟩ := clauseF_mem f3
      obtain ⟨g1, g2, g3⟩ := w1 cl c1
      rw [if_neg (by show ¬ 16 ≤ st.length; omega)]
      refine ⟨rfl, Or.inr (Or.inr ⟨show (0 : Int) ≠ 3 by decide, rfl, hst _ g3 _ rfl c3.symm rfl rfl ?_⟩)⟩
      simp [hstl]
    · rw [if_neg hf]
      by_cases hd : dueF (clk15 T ⟨k, p, st, sr, sw, su⟩ (args.headD 0) now) now = true
      · rw [if_pos hd]
        have ht : 0 ≤ T.tmo := by
          rcases Int.lt_or_le T.tmo 0 with h | h
          · rw [hclk h] at hd
            simp [dueF] at hd
          · exact h
        exact ⟨rfl, Or.inr (Or.inr ⟨show (0 : Int) ≠ 3 by decide, rfl, hst _ (w2 ht) _ rfl rfl rfl rfl hstl⟩)⟩
      · rw [if_neg hd]
        refine ⟨rfl, Or.inr (Or.inr ⟨show (6 : Int) ≠ 3 by decide, rfl, ?_⟩)⟩
        simp only [standsF, decide_eq_true_eq, Int.toNat_natCast]
        rw [hI, hi]
        simp only
        rw [hT]
        refine ⟨hb, p1, p2, p3, p4, fun _ => ⟨trivial, hclk⟩, ?_⟩
        rw [hstl, b2]
        by_cases ht : 0 ≤ T.tmo
        · rw [if_pos ht] at b1 ⊢
          rw [if_pos ⟨trivial, ht⟩]; omega
        · rw [if_neg ht]
          rw [if_neg (fun h => ht h.2)]; omega
  · have hw : sw = false := by
      cases sw
      · rfl
      · exact absurd (p5 rfl).1 e21
    subst hw
    rw [if_neg (by simp)] at p6
    have p6 : ss.length = ((lookL m k).1.shapes.getD p []).length := by omega
    have hx := step_ok (m := m) (A := actr m (k : Int)) (op := op) (a := a) (self := self) (now := now) (box := box) (s := ⟨k, (p : Int) + 1, ss, sr, false, su⟩) (e := { eff0 with taken := -1 }) hop e21 (tbl (actr m (k : Int)) a).tmo (by show _ ≤ ss.length; rw [p6]; exact b1) (by show ss.length - _ + _ ≤ 16; rw [p6, ← b2]; exact b3) hsl h45 h19 rfl
    generalize stepG ⟨m, actr m (k : Int), op, a, self, now, box⟩ ⟨⟨k, (p : Int) + 1, ss, sr, false, su⟩, { eff0 with taken := -1 }, 0⟩ = r at *
    obtain ⟨x1, x2, x3, x4, x5, x6⟩ := hx
    simp only at x2 x3 x4 x5 x6
    rw [p6, ← b2] at x6
    refine ⟨x1, ?_⟩
    rcases x6 with h | ⟨hpc, n0, n23, hk⟩
    · exact Or.inl h
    -- the way that it went
    have hway : ((r.1.pc, (behL ⟨m, k, actr m (k : Int)⟩ (op, a) ((lookL m k).1.shapes.getD p [])).1, 0) : Wy) ∈ waysL ⟨m, k, actr m (k : Int)⟩ p (behL ⟨m, k, actr m (k : Int)⟩ (op, a) ((lookL m k).1.shapes.getD p [])).1 := by
      unfold waysL
      simp only [hi]
      rw [if_neg (by omega)]
      rcases hpc with ⟨h1, h2⟩ | ⟨h1, h2⟩
      · rw [if_neg h2]
        by_cases h17 : op = 17
        · rw [if_pos h17, h1]; simp
        · rw [if_neg h17, if_neg e21, h1]; simp
      · rw [h2]
        rcases h1 with h1 | h1
        · rw [if_pos h1]; simp
        · rw [if_neg (by omega), if_pos h1]; simp
    rcases hk with ⟨h1, h2, h3, h4, h5⟩ | ⟨h1, h2, h3⟩
    · refine Or.inr (Or.inl ⟨h2, by rw [h3]; exact (h19 h1).1, by rw [h3]; exact (h19 h1).2, by rw [h3]; exact h4, by omega, x2, ?_⟩)
      exact hst _ hway _ x2 rfl x3 x4 (by show (r.1.stack ++ [5]).length = _; rw [List.length_append]; exact h5)
    · exact Or.inr (Or.inr ⟨h2, x2, hst _ hway _ x2 rfl x3 x4 h3⟩)
end Go.Proofs.Ytkhoelmbcmkhjaa
namespace Go.Proofs.Ytkhoelmbcmkhjaa
set_option maxRecDepth 100000

theorem shpC_len3 (l : List (List Int)) : (shpC l).length = l.length := by simp [shpC]
theorem boolC_len3 (l : List Bool) : (boolC l).length = l.length := by simp [boolC]
theorem shpC_get3 {l : List (List Int)} {i : Nat} (h : i < l.length) : (shpC l)[i]? = some [.rs 1 (ints (l.getD i []))] := by
  simp [shpC, h, List.getD_eq_getElem?_getD]
theorem boolC_get3 {l : List Bool} {i : Nat} (h : i < l.length) : (boolC l)[i]? = some [.bool (l.getD i false)] := by
  simp [boolC, h, List.getD_eq_getElem?_getD]
theorem take_getD3 {l : List Bool} {i k : Nat} (h : i < k) : (l.take k).getD i false = l.getD i false := by
  simp [List.getD_eq_getElem?_getD, h]
theorem stands_ac (m : List Actr) (s : Sta) (η : AHeap) (n : Nat) (hm : Mod64 m) {sv rv : AVal} {η0 : AHeap} (k1 : IsL η0 sv s.stack) (k2 : IsL η0 rv s.regs) : AC Try.prog 36 [modV m, .agg (stC s sv rv)] η n (Rt (.bool (standsF m s)) η n) := by
  refine AC.pure (.bool _) ?_
  have hsh := fun η n => shapesR_ac m s.actor η n hm
  have l1 : ∀ η', alenT Try.prog 25 sv η' = some (s.stack.length : Int) := k1.len (by simp)
  have l2 : ∀ η', alenT Try.prog 25 rv η' = some (s.regs.length : Int) := k2.len (by simp)
  have s1 := k1.sc
  have s2 := k2.sc
  have d1 := k1.ac
  have d2 := k2.ac
  have fin : (∀ r, n ≤ r → η r = none) → ∀ {η' : AHeap}, (∀ r, r < n → η' r = η r) → η.le η' := fun hf _ h => le_old hf h
  obtain ⟨sa, sp, ss, sr, sw, su⟩ := s
  simp only at hsh l1 l2
  cases hb : shpB m sa
  · have er : shpRes m sa = .tup [.rs 1 [], .rs 1 []] := by unfold shpRes; rw [if_neg (by simp [hb])]
    have ef : standsF m ⟨sa, sp, ss, sr, sw, su⟩ = false := by simp [standsF, hb]
    rw [er] at hsh
    rw [ef]
    simp only [modV, stC] at hsh ⊢
    refine AC.fresh fun hf => ?_; refine AC.enter Try.func36 rfl Try.ntmps36 (by simp) ?_
    simp [aload, afield, apart, upd_apply, Nat.add_assoc, s1, s2]
    refine ACK.rt (hsh _ _) ?_
    simp
    refine drawK.intro mixed [(0, []), (1, []), (2, []), (3, []), (4, []), (5, []), (6, []), (7, []), (8, []), (9, []), (10, []), (11, []), (12, []), (13, []), (14, []), (15, []), (16, []), (17, []), (18, []), (19, []), (20, []), (21, []), (22, []), (23, []), (24, []), (25, []), (26, []), (27, []), (28, []), (29, []), (30, []), (31, [])] (by kernel_rfl) ?_
    simp [aload, afield, apart, upd_apply]
    by_cases c1 : sp < 0
    · simp [c1]
      exact resK.of (η' := η) (fin hf fun r hr => by simp only [upd_apply]; repeat rw [if_neg (by omega)]) _ (Nat.le_refl _) ⟨rfl, rfl⟩
    · have c1' : 0 ≤ sp := by omega
      simp [c1, c1', aload, afield, apart, upd_apply]
      exact resK.of (η' := η) (fin hf fun r hr => by simp only [upd_apply]; repeat rw [if_neg (by omega)]) _ (Nat.le_refl _) ⟨rfl, rfl⟩
  have hb' := hb
  simp only [shpB, decide_eq_true_eq] at hb'
  obtain ⟨k, rfl⟩ : ∃ k : Nat, sa = k := ⟨sa.toNat, by omega⟩
  have hk : k < m.length := by omega
  have ez := hb'.1
  have hr := (checkF_zero (m := m) (by rw [ez])).2
  have hc := lcOK_of hr hk
  have ho := hc.ownA
  have ea : actr m (k : Int) = m[k] := by simp [actr, List.getD_eq_getElem?_getD, hk]
  obtain ⟨hS, hL, _, _⟩ := look_done ez hk
  have er : shpRes m (k : Int) = .tup [.rs 1 (shpC (lookL m k).1.shapes), .rs 1 (boolC ((lookL m k).1.has.take (actr m k).code.length))] := by unfold shpRes; rw [if_pos hb]; rfl
  rw [er] at hsh
  have hst : standsF m ⟨k, sp, ss, sr, sw, su⟩ = decide (0 ≤ sp ∧ sp < m[k].code.length ∧ (lookL m k).1.has.getD sp.toNat false = true ∧ sr.length = m[k].regs.length ∧ (sw = true → (ins m[k] sp).1 = 21 ∧ ((tbl m[k] (ins m[k] sp).2).tmo < 0 → su = -1)) ∧
      (ss.length : Int) = ((lookL m k).1.shapes.getD sp.toNat []).length - (if sw = true ∧ 0 ≤ (tbl m[k] (ins m[k] sp).2).tmo then 1 else 0)) := by
    simp only [standsF, hb, ea, Int.toNat_natCast, true_and]
  rw [hst]
  have lsx := hS.ls
  have lhx := hS.li.lh
  have h200 := ho.c200
  simp only at lsx lhx h200
  rw [ea] at lsx h200 hsh hL
  have hlr := fun p => (hS.li.ok p).2
  have hnm : ∀ p (hp : p < m[k].code.length), (lookL m k).1.has.getD p false = true → m[k].code[p].1 = 21 → 0 ≤ m[k].code[p].2 ∧ m[k].code[p].2 < m[k].tabs.length := fun p hp hh h21 => by
    have hlk := (hL p hp hh).1
    have ei : m[k].code.getD p (0, 0) = m[k].code[p] := by simp [List.getD_eq_getElem?_getD, hp]
    simp only at hlk
    rw [ei] at hlk
    have hi : rightI m[k].code[p] = true := by
      have := ho.code
      simp only at this
      rw [ea] at this
      exact this _ (List.getElem_mem ..)
    have hn := (behL_ok (c := ⟨m, k, m[k]⟩) (by rw [← ea]; exact hc) hi (hS.li.ok p).1 (hS.li.ok p).2 hlk).2.2
    refine ⟨?_, ?_⟩
    · have := (rightI_bd hi).1
      omega
    · unfold namesL at hn
      rw [if_neg (by omega), if_neg (by omega), if_pos h21] at hn
      simpa using hn
  generalize (lookL m k).1 = x at *
  have ltk : (x.has.take m[k].code.length).length = m[k].code.length := by simp; omega
  have z1 : (shpC x.shapes).length = m[k].code.length := by rw [shpC_len3]; exact lsx
  have z2 : (boolC (x.has.take m[k].code.length)).length = m[k].code.length := by rw [boolC_len3]; exact ltk
  simp only [modV, stC] at hsh ⊢
  by_cases c1 : sp < 0
  · refine AC.fresh fun hf => ?_; refine AC.enter Try.func36 rfl Try.ntmps36 (by simp) ?_
    simp [aload, afield, apart, upd_apply, Nat.add_assoc, s1, s2]
    refine ACK.rt (hsh _ _) ?_
    simp
    refine drawK.intro mixed [(0, []), (1, []), (2, []), (3, []), (4, []), (5, []), (6, []), (7, []), (8, []), (9, []), (10, []), (11, []), (12, []), (13, []), (14, []), (15, []), (16, []), (17, []), (18, []), (19, []), (20, []), (21, []), (22, []), (23, []), (24, []), (25, []), (26, []), (27, []), (28, []), (29, []), (30, []), (31, [])] (by kernel_rfl) ?_
    simp [aload, afield, apart, upd_apply, c1]
    exact resK.of (η' := η) (fin hf fun r hr => by simp only [upd_apply]; repeat rw [if_neg (by omega)]) _ (Nat.le_refl _) ⟨by simp; omega, rfl⟩
  obtain ⟨p, rfl⟩ : ∃ p : Nat, sp = p := ⟨sp.toNat, by omega⟩
  by_cases c2 : m[k].code.length ≤ p
  · refine AC.fresh fun hf => ?_; refine AC.enter Try.func36 rfl Try.ntmps36 (by simp) ?_
    simp [aload, afield, apart, upd_apply, Nat.add_assoc, s1, s2]
    refine ACK.rt (hsh _ _) ?_
    simp
    refine drawK.intro mixed [(0, []), (1, []), (2, []), (3, []), (4, []), (5, []), (6, []), (7, []), (8, []), (9, []), (10, []), (11, []), (12, []), (13, []), (14, []), (15, []), (16, []), (17, []), (18, []), (19, []), (20, []), (21, []), (22, []), (23, []), (24, []), (25, []), (26, []), (27, []), (28, []), (29, []), (30, []), (31, [])] (by kernel_rfl) ?_
    simp [aload, afield, apart, upd_apply, c1, z1, c2]
    exact resK.of (η' := η) (fin hf fun r hr => by simp only [upd_apply]; repeat rw [if_neg (by omega)]) _ (Nat.le_refl _) ⟨by simp; omega, rfl⟩
  have hp : p < m[k].code.length := by omega
  have q1 := boolC_get3 (l := x.has.take m[k].code.length) (i := p) (by omega)
  rw [take_getD3 hp] at q1
  have q2 := shpC_get3 (l := x.shapes) (i := p) (by omega)
  have hnmp := hnm p hp
  have hlp := hlr p
  have hins : ins m[k] (p : Int) = m[k].code[p] := by unfold ins; simp [List.getD_eq_getElem?_getD, hp]
  rw [hins]
  simp only [Int.toNat_natCast]
  obtain ⟨op, a, hI⟩ : ∃ op a, m[k].code[p] = (op, a) := ⟨_, _, rfl⟩
  rw [hI] at hnmp ⊢
  simp only at hnmp ⊢
  by_cases hh : x.has.getD p false = true
  rotate_left
  · have hh : x.has.getD p false = false := by simpa using hh
    rw [hh] at q1
    refine AC.fresh fun hf => ?_; refine AC.enter Try.func36 rfl Try.ntmps36 (by simp) ?_
    simp [aload, afield, apart, upd_apply, Nat.add_assoc, s1, s2]
    refine ACK.rt (hsh _ _) ?_
    simp
    refine drawK.intro mixed [(0, []), (1, []), (2, []), (3, []), (4, []), (5, []), (6, []), (7, []), (8, []), (9, []), (10, []), (11, []), (12, []), (13, []), (14, []), (15, []), (16, []), (17, []), (18, []), (19, []), (20, []), (21, []), (22, []), (23, []), (24, []), (25, []), (26, []), (27, []), (28, []), (29, []), (30, []), (31, [])] (by kernel_rfl) ?_
    simp [aload, afield, apart, upd_apply, c1, z1, c2, aindex, q1]
    exact resK.of (η' := η) (fin hf fun r hr => by simp only [upd_apply]; repeat rw [if_neg (by omega)]) _ (Nat.le_refl _) ⟨by simp only [hh]; simp, rfl⟩
  rw [hh] at q1
  by_cases c3 : sr.length = m[k].regs.length
  rotate_left
  · have c3' : ¬ (sr.length : Int) = m[k].regs.length := by omega
    refine AC.fresh fun hf => ?_; refine AC.enter Try.func36 rfl Try.ntmps36 (by simp) ?_
    simp [aload, afield, apart, upd_apply, Nat.add_assoc, s1, s2]
    refine ACK.rt (hsh _ _) ?_
    simp
    refine drawK.intro mixed [(0, []), (1, []), (2, []), (3, []), (4, []), (5, []), (6, []), (7, []), (8, []), (9, []), (10, []), (11, []), (12, []), (13, []), (14, []), (15, []), (16, []), (17, []), (18, []), (19, []), (20, []), (21, []), (22, []), (23, []), (24, []), (25, []), (26, []), (27, []), (28, []), (29, []), (30, []), (31, [])] (by kernel_rfl) ?_
    simp [aload, afield, apart, upd_apply, c1, z1, c2, aindex, q1, l2, hk, actC, c3']
    exact resK.of (η' := η) (fin hf fun r hr => by simp only [upd_apply]; repeat rw [if_neg (by omega)]) _ (Nat.le_refl _) ⟨by simp [c3], rfl⟩
  have c3' : (sr.length : Int) = m[k].regs.length := by omega
  have hpi : (p : Int) < m[k].code.length := by omega
  have wl : ∀ z : Nat, z ≤ 16 → IntKind.i64.wrap ((z : Int) - 1) = (z : Int) - 1 := fun z hz => wrap_id (by omega) (by omega)
  have hh' : x.has[p]?.getD false = true := by rw [← List.getD_eq_getElem?_getD]; exact hh
  have hl' : (x.shapes[p]?.getD []).length ≤ 16 := by rw [← List.getD_eq_getElem?_getD]; exact hlp
  have wl' := wl _ hl'
  refine AC.fresh fun hf => ?_; refine AC.enter Try.func36 rfl Try.ntmps36 (by simp) ?_
  simp [aload, afield, apart, upd_apply, Nat.add_assoc, s1, s2]
  refine ACK.rt (hsh _ _) ?_
  simp
  refine drawK.intro mixed [(0, []), (1, []), (2, []), (3, []), (4, []), (5, []), (6, []), (7, []), (8, []), (9, []), (10, []), (11, []), (12, []), (13, []), (14, []), (15, []), (16, []), (17, []), (18, []), (19, []), (20, []), (21, []), (22, []), (23, []), (24, []), (25, []), (26, []), (27, []), (28, []), (29, []), (30, []), (31, [])] (by kernel_rfl) ?_
  simp [aload, afield, apart, upd_apply, c1, z1, c2, aindex, q1, q2, l2, hk, actC, c3']
  refine drawK.intro mixed [(0, []), (1, []), (2, []), (3, []), (4, []), (5, []), (6, []), (7, []), (8, []), (9, []), (10, []), (11, [1, 3, 4, 6, 8, 9, 10]), (12, [])] (by kernel_rfl) ?_
  simp [aload, afield, apart, upd_apply, Nat.add_assoc, aindex, hk, hp, hI, actC, astore, upd_upd, lk_some, chkK]
  cases sw
  · simp [aload, afield, apart, upd_apply, l1]
    refine resK.of (η' := η) (fin hf fun r hr => by simp only [upd_apply]; repeat rw [if_neg (by omega)]) _ (Nat.le_refl _) ⟨?_, rfl⟩
    simp [hp, hh', c3]
  · simp [aload, afield, apart, upd_apply]
    refine CondP.ndec (fun c4 => ?_) (fun c4 => ?_)
    rotate_left
    · simp [c4]
      exact resK.of (η' := η) (fin hf fun r hr => by simp only [upd_apply]; repeat rw [if_neg (by omega)]) _ (Nat.le_refl _) ⟨by simp [c4], rfl⟩
    obtain ⟨t0, t1⟩ := hnmp hh c4
    have t2 : a.toNat < m[k].tabs.length := by omega
    have t3 : tbl m[k] a = m[k].tabs[a.toNat] := by simp [tbl, List.getD_eq_getElem?_getD, t2]
    simp [c4]
    refine drawK.intro mixed [(0, []), (1, []), (2, []), (3, []), (4, []), (5, []), (6, []), (7, []), (8, []), (9, []), (10, []), (11, []), (12, [])] (by kernel_rfl) ?_
    simp [aload, afield, apart, upd_apply, aindex, hk, actC, t0, t2, tblC]
    refine CondP.dec (fun c5 => ?_) (fun c5 => ?_)
    · simp [c5, aload, afield, apart, upd_apply, l1, wl']
      refine resK.of (η' := η) (fin hf fun r hr => by simp only [upd_apply]; repeat rw [if_neg (by omega)]) _ (Nat.le_refl _) ⟨?_, rfl⟩
      have c6 : ¬ m[k].tabs[a.toNat].tmo < 0 := by omega
      simp [hp, hh', c3, c4, t3, c5, c6]
    · have c6 : m[k].tabs[a.toNat].tmo < 0 := by omega
      simp [c5, aload, afield, apart, upd_apply]
      refine CondP.ndec (fun c7 => ?_) (fun c7 => ?_)
      · simp [c7, aload, afield, apart, upd_apply, l1]
        exact resK.of (η' := η) (fin hf fun r hr => by simp only [upd_apply]; repeat rw [if_neg (by omega)]) _ (Nat.le_refl _) ⟨by simp [hp, hh', c3, c4, t3, c5, c6, c7], rfl⟩
      · simp [c7]
        exact resK.of (η' := η) (fin hf fun r hr => by simp only [upd_apply]; repeat rw [if_neg (by omega)]) _ (Nat.le_refl _) ⟨by simp [t3, c6, c7], rfl⟩
end Go.Proofs.Ytkhoelmbcmkhjaa
namespace Go.Proofs.Ytkhoelmbcmkhjaa
set_option maxRecDepth 100000

theorem starts_ac (m : List Actr) (k : Int) (args : List Int) (η : AHeap) (n : Nat) (hm : Mod64 m) (ha : Ints64 args) : AC Try.prog 12 [modV m, .int .i64 k, .rs 1 (ints args)] η n (Rt (.bool true) η n) := by
  refine AC.pure (.bool _) ?_
  have h1 := fun η n => check_ac m η n hm
  simp only [modV, fltV] at h1
  have hrg : ∀ a ∈ m, a.regs.length ≤ 17592186044416 := fun a h => (hm.2 a h).regs.1
  have hmo : ModOK m := ⟨fun a h => (hm.2 a h).params.1, fun a h t ht => ((hm.2 a h).tabs.2 t ht).1.1⟩
  have hnw := fun (η : AHeap) n => new_ac m k args η n (v := .rs 1 (ints args)) (Or.inl rfl) hrg
  simp only [modV] at hnw
  refine AC.fresh fun hf => ?_; refine AC.enter Try.func12 rfl Try.ntmps12 (by simp) ?_
  have fin : ∀ {η' : AHeap}, (∀ r, r < n → η' r = η r) → η.le η' := fun h => le_old hf h
  simp [modV]
  refine ACK.rt (lives15_ac _ _) ?_
  simp [aload, apart, upd_eq]
  refine ACK.rt (h1 _ _) ?_
  simp [afldv, apart]
  by_cases hz : (checkF m).1 = 0
  rotate_left
  · simp [hz]
    exact resK.of (η' := η) (fin fun r hr => upd_ne (by omega)) _ (Nat.le_refl _) ⟨rfl, rfl⟩
  have ez := (checkF_zero hz).1
  have hr := (checkF_zero hz).2
  simp [hz, aload, apart, upd_eq]
  refine ACK.use (hnw _ _).freshP ?_
  intro r η1 n1 ⟨⟨sv, rv, e1, i1, i2, a1, a2⟩, hf1⟩
  subst e1
  have b0 := a1 n (by omega)
  rw [upd_eq] at b0
  have o1 : ∀ r, r < n → η1 r = η r := fun r hr => by rw [a1 r (by omega), upd_ne (by omega)]
  have s1 := i1.sc
  have s2 := i2.sc
  have d1 := i1.ac
  have d2 := i2.ac
  have m0 : ¬ n = n1 := by omega
  by_cases c1 : k < 0 ∨ (m.length : Int) ≤ k
  · have en : newF m k args = (sta0, 6) := by unfold newF; rw [if_pos c1]
    rw [en]
    rcases c1 with c1 | c1
    · have c1' : ¬ 0 ≤ k := by omega
      simp [stC, s1, s2, astore, upd_eq, upd_upd, c1']
      exact resK.of (η' := η) (fin fun r hr => by rw [upd_ne (by omega)]; exact o1 r hr) _ (Nat.le_refl _) ⟨rfl, rfl⟩
    · have c1' : 0 ≤ k := by omega
      have c2' : ¬ k < m.length := by omega
      simp [stC, s1, s2, astore, upd_eq, upd_upd, c1', c2', aload, afield, apart, upd_apply, b0, m0]
      exact resK.of (η' := η) (fin fun r hr => by rw [upd_ne (by omega)]; exact o1 r hr) _ (Nat.le_refl _) ⟨rfl, rfl⟩
  have k0 : 0 ≤ k := by omega
  have k1 : k < m.length := by omega
  obtain ⟨j, rfl⟩ : ∃ j : Nat, k = j := ⟨k.toNat, by omega⟩
  have hj : j < m.length := by omega
  have hc := lcOK_of hr hj
  have ho := hc.ownA
  have ea : actr m (j : Int) = m[j] := by simp [actr, List.getD_eq_getElem?_getD, hj]
  by_cases c2 : args.length = m[j].params.length
  rotate_left
  · have c2' : ¬ (args.length : Int) = m[j].params.length := by omega
    have en : newF m j args = (sta0, 1) := by unfold newF; rw [if_neg c1, ea, if_pos c2]
    rw [en]
    simp [stC, s1, s2, astore, upd_eq, upd_upd, k0, k1, aload, afield, apart, upd_apply, b0, m0, aindex, hj, actC, c2']
    exact resK.of (η' := η) (fin fun r hr => by rw [upd_ne (by omega)]; exact o1 r hr) _ (Nat.le_refl _) ⟨rfl, rfl⟩
  have c2' : (args.length : Int) = m[j].params.length := by omega
  have hpr : m[j].params.length ≤ m[j].regs.length := by
    have := hc.ok m[j] (List.getElem_mem ..)
    unfold rightA at this
    simp only [Bool.and_eq_true, decide_eq_true_eq] at this
    exact this.2.1.2
  have en : newF m j args = (⟨j, 0, [], args ++ List.replicate (m[j].regs.length - args.length) 0, false, -1⟩, 0) := by
    unfold newF
    rw [if_neg c1, ea, if_neg (by simpa using c2), List.take_of_length_le (by omega)]
  rw [en] at i1 i2 ⊢
  obtain ⟨hS, hL, hh0, hs0⟩ := look_done ez hj
  have eb : shpB m (j : Int) = true := by simp [shpB, ez]; omega
  have hc0 := ho.c0
  simp only at hc0
  have hstd : standsF m ⟨j, 0, [], args ++ List.replicate (m[j].regs.length - args.length) 0, false, -1⟩ = true := by
    simp only [standsF, decide_eq_true_eq, Int.toNat_natCast]
    refine ⟨eb, by omega, by omega, hh0, by rw [ea]; simp; omega, by simp, ?_⟩
    have : (0 : Int).toNat = 0 := rfl
    rw [this, hs0]; simp
  have hrd : readyF m ⟨j, 0, [], args ++ List.replicate (m[j].regs.length - args.length) 0, false, -1⟩ 0 [] = true := by
    have : soundF m ⟨j, 0, [], args ++ List.replicate (m[j].regs.length - args.length) 0, false, -1⟩ = true := by
      simp only [soundF, decide_eq_true_eq]
      exact ⟨by omega, by omega, by omega, by omega, by rw [ea]; simp; omega, by simp, by simp⟩
    unfold readyF
    rw [if_neg (by simp [this])]
    simp
  have hs2 := fun η2 n2 => stands_ac m ⟨j, 0, [], args ++ List.replicate (m[j].regs.length - args.length) 0, false, -1⟩ η2 n2 hm i1 i2
  have hr2 := fun η2 n2 => ready_ac m ⟨j, 0, [], args ++ List.replicate (m[j].regs.length - args.length) 0, false, -1⟩ 0 [] η2 n2 i1 i2 hmo (by simp)
  rw [hstd] at hs2
  rw [hrd] at hr2
  simp only [modV, stC] at hs2 hr2
  simp [stC, s1, s2, astore, upd_eq, upd_upd, k0, k1, aload, afield, apart, upd_apply, b0, m0, aindex, hj, actC, c2']
  refine ACK.rt (hs2 _ _) ?_
  simp [aload, apart, upd_apply, b0, m0, s1, s2]
  refine ACK.rt (AC.args (hr2 _ _) ⟨Ent.refl _, Ent.refl _, Ent.refl _, Ent.nils _, trivial⟩) ?_
  simp [aload, afield, apart, upd_apply]
  have hcut : ∀ o, ∃ u, asliceV Try.prog 25 rv none (some (.int .i64 (args.length : Int))) none (upd η1 n1 (some o)) = some u ∧ IsL (upd η1 n1 (some o)) u args := fun o => by
    have i3 := i2.le (le_upd (AHeap.le_rfl _) (hf1 n1 (Nat.le_refl _)) : η1.le (upd η1 n1 (some o)))
    obtain ⟨u, g1, g2⟩ := i3.cutHi (P := Try.prog) (t := 25) (e := 2) (k := .i64) (x := (args.length : Int)) (by simp) (by simp) (by omega) (by simp; omega)
    refine ⟨u, g1, ?_⟩
    rw [Int.toNat_natCast, List.take_left' rfl] at g2
    exact g2
  obtain ⟨u, u1, u2⟩ := hcut (.cells 6 [[.int .i64 j, .int .i64 0, sv, rv, .bool false, .int .i64 (-1)]])
  simp [u1]
  refine ACK.rt (sameLongs_ac u2 (Or.inl rfl) ha.1) ?_
  simp
  exact resK.of (η' := η) (fin fun r hr => by rw [upd_ne (by omega)]; exact o1 r hr) _ (Nat.le_refl _) ⟨rfl, rfl⟩
end Go.Proofs.Ytkhoelmbcmkhjaa
namespace Go.Proofs.Ytkhoelmbcmkhjaa
set_option maxRecDepth 100000

structure Cse where
  m : List Actr
  self : Int
  s : Sta
  now : Int
  box : List (Int × Int)
def cseC (c : Cse) : List AVal := [.rs 5 (actsC c.m), .int .i64 c.self, .int .i64 c.s.actor, .int .i64 c.s.pc, .rs 1 (ints c.s.stack), .rs 1 (ints c.s.regs), .bool c.s.waiting, .int .i64 c.s.till, .int .i64 c.now, .rs 2 (pairs c.box)]
structure Cse64 (c : Cse) : Prop where
  m : Mod64 c.m
  self : I64 c.self
  s : Sta64 c.s
  now : I64 c.now
  box : Msgs64 c.box
  box2 : c.box.length * 16 ≤ 140737488351232
theorem lies_case {w : World} : Lies Try.prog w 30 cseC Cse64 := by
  refine Lies.map (lies_struct Try.underlying30 (size := 10) (by kernel_rfl) (liesF_cons (z := 1) rfl (by kernel_rfl) lies_mod (liesF_cons (z := 1) rfl (by kernel_rfl) (lies_i64 Try.underlying2) (liesF_cons (z := 6) rfl (by kernel_rfl) lies_sta (liesF_cons (z := 1) rfl (by kernel_rfl) (lies_i64 Try.underlying2) (liesF_one (z := 1) rfl (by kernel_rfl) lies_msgs2)))))) (fun p => (⟨p.1, p.2.1, p.2.2.1, p.2.2.2.1, p.2.2.2.2⟩ : Cse)) cseC Cse64 ?_
  intro p h
  exact ⟨rfl, ⟨h.1, h.2.1, h.2.2.1, h.2.2.2.1, h.2.2.2.2.2, h.2.2.2.2.1⟩⟩
theorem IsL.mono1 {η η' : AHeap} {v : AVal} {l : List Int} (h : IsL η v l) (hk : ∀ r rows, η r = some (.cells 1 rows) → η' r = some (.cells 1 rows)) : IsL η' v l := by
  rcases h with h | h | ⟨r, o, I, J, h1, h2, h3⟩
  · exact Or.inl h
  · exact Or.inr (Or.inl h)
  · exact Or.inr (Or.inr ⟨r, o, I, J, h1, h2, hk _ _ h3⟩)
theorem OwnFrom.mono1 {η η' : AHeap} {n m : Nat} {v : AVal} (h : OwnFrom η n v m) (hk : ∀ r rows, η r = some (.cells 1 rows) → η' r = some (.cells 1 rows)) : OwnFrom η' n v m := by
  rcases h with h | ⟨r, rows, h1, h2, h3, h4⟩
  · exact Or.inl h
  · exact Or.inr ⟨r, rows, h1, hk _ _ h2, h3, h4⟩
theorem OwnFrom.low {η : AHeap} {n n' m : Nat} {v : AVal} (h : OwnFrom η n v m) (hn : n' ≤ n) : OwnFrom η n' v m := by
  rcases h with h | ⟨r, rows, h1, h2, h3, h4⟩
  · exact Or.inl h
  · exact Or.inr ⟨r, rows, h1, h2, h3, by omega⟩
theorem case_step_ac (c : Cse) (hc : Cse64 c) (η : AHeap) (n : Nat) : AC Try.prog 16 [.agg (cseC c)] η n (StepW η n (stepF c.m c.self c.s c.now c.box).1 (stepF c.m c.self c.s c.now c.box).2.1 (stepF c.m c.self c.s c.now c.box).2.2) := by
  have hmo : ModOK c.m := ⟨fun a h => (hc.m.2 a h).params.1, fun a h t ht => ((hc.m.2 a h).tabs.2 t ht).1.1⟩
  have hst := fun (η : AHeap) n => stepW_ac c.m c.self c.s c.now c.box η n (sv := .rs 1 (ints c.s.stack)) (rv := .rs 1 (ints c.s.regs)) hmo hc.box.1 hc.s.regs.1 (Or.inl rfl) (Or.inl rfl)
  simp only [modV, stC] at hst
  refine AC.fresh fun hf => ?_; refine AC.enter Try.func16 rfl Try.ntmps16 (by simp) ?_
  simp [cseC, aload, afield, apart, upd_apply, Nat.add_assoc]
  refine ACK.use (hst _ _).freshP ?_
  intro r η1 n1 ⟨⟨sv, rv, av, e1, i1, i2, i3, a1, a2, o1, o2, o3⟩, hf1⟩
  subst e1
  have s1 := i1.sc
  have s2 := i2.sc
  have s3 := i3.sc
  have d1 := i1.ac
  have d2 := i2.ac
  have d3 := i3.ac
  have b1 := a1 (n + 1) (by omega)
  have b2 := a1 (n + 2) (by omega)
  simp [upd_apply] at b1 b2
  have m1 : ¬ n + 1 = n1 := by omega
  have m2 : ¬ n + 2 = n1 := by omega
  have m3 : ¬ n + 1 = n1 + 1 := by omega
  have m4 : ¬ n + 2 = n1 + 1 := by omega
  have o1' := o1.low (show n ≤ n + 3 by omega)
  have o2' := o2.low (show n ≤ n + 3 by omega)
  have o3' := o3.low (show n ≤ n + 3 by omega)
  have m5 : ¬ n = n1 := by omega
  have m6 : ¬ n1 = n := by omega
  have m7 : ¬ n1 = n + 1 := by omega
  have m8 : ¬ n1 = n + 2 := by omega
  have f0 := hf1 n1 (Nat.le_refl _)
  have f1 := hf1 (n1 + 1) (by omega)
  have kg : ∀ r rows, η1 r = some (.cells 1 rows) → ¬ r = n1 ∧ ¬ r = n1 + 1 ∧ ¬ r = n + 1 ∧ ¬ r = n + 2 := fun r rows hr => by
    refine ⟨fun e => ?_, fun e => ?_, fun e => ?_, fun e => ?_⟩
    · rw [e, f0] at hr; cases hr
    · rw [e, f1] at hr; cases hr
    · rw [e, b1] at hr; cases hr
    · rw [e, b2] at hr; cases hr
  generalize hS : stepF c.m c.self c.s c.now c.box = R at *
  obtain ⟨⟨Ra, Rp, Rs, Rr, Rw, Ru⟩, ⟨Rk, Rd, ⟨Rm1, Rm2⟩, Rac, Rar, Rn, ⟨Rr1, Rr2⟩, Rt⟩, Re⟩ := R
  simp only at i1 i2 i3 o1' o2' o3'
  simp [stC, effC, s1, s2, s3, upd_apply, Nat.add_assoc, astore]
  refine drawK.intro mixed [(0, []), (1, []), (2, []), (3, [1]), (4, []), (5, [])] (by kernel_rfl) ?_
  simp [s1, s2, s3, aload, apart, upd_apply, astore, b1, b2, m1, m2, m4, m5, m6, m7, lk_some, chkK]
  refine resK.rt ⟨sv, rv, av, rfl, i1.mono1 ?_, i2.mono1 ?_, i3.mono1 ?_, ?_, by omega, o1'.mono1 ?_, o2'.mono1 ?_, o3'.mono1 ?_⟩
  · intro r rows hr
    obtain ⟨q1, q2, q3, q4⟩ := kg r rows hr
    simp only [upd_apply, q1, q2, q3, q4, if_false]; exact hr
  · intro r rows hr
    obtain ⟨q1, q2, q3, q4⟩ := kg r rows hr
    simp only [upd_apply, q1, q2, q3, q4, if_false]; exact hr
  · intro r rows hr
    obtain ⟨q1, q2, q3, q4⟩ := kg r rows hr
    simp only [upd_apply, q1, q2, q3, q4, if_false]; exact hr
  · intro r hr
    simp only [upd_apply]
    repeat rw [if_neg (by omega)]
    rw [a1 r (by omega)]
    simp only [upd_apply]
    repeat rw [if_neg (by omega)]
  all_goals (intro r rows hr; obtain ⟨q1, q2, q3, q4⟩ := kg r rows hr; simp only [upd_apply, q1, q2, q3, q4, if_false]; exact hr)
theorem typed_ac (c : Cse) (η : AHeap) (n : Nat) (hc : Cse64 c) : AC Try.prog 13 [.agg (cseC c)] η n (Rt (.bool true) η n) := by
  refine AC.pure (.bool _) ?_
  have h1 := fun η n => check_ac c.m η n hc.m
  have h2 := fun (η : AHeap) n => stands_ac c.m c.s η n (η0 := η) (sv := .rs 1 (ints c.s.stack)) (rv := .rs 1 (ints c.s.regs)) hc.m (Or.inl rfl) (Or.inl rfl)
  have h3 := fun η n => case_step_ac c hc η n
  simp only [modV, fltV, stC, cseC] at h1 h2 h3
  refine AC.fresh fun hf => ?_; refine AC.enter Try.func13 rfl Try.ntmps13 (by simp) ?_
  have fin : ∀ {η' : AHeap}, (∀ r, r < n → η' r = η r) → η.le η' := fun h => le_old hf h
  simp [cseC]
  refine ACK.rt (lives15_ac _ _) ?_
  simp [aload, afield, apart, upd_eq]
  refine ACK.rt (h1 _ _) ?_
  simp [afldv, apart]
  by_cases hz : (checkF c.m).1 = 0
  rotate_left
  · simp [hz]
    exact resK.of (η' := η) (fin fun r hr => upd_ne (by omega)) _ (Nat.le_refl _) ⟨rfl, rfl⟩
  have ez := (checkF_zero hz).1
  have hr := (checkF_zero hz).2
  by_cases c1 : c.s.actor < 0
  · simp [hz, c1, aload, afield, apart, upd_eq]
    exact resK.of (η' := η) (fin fun r hr => upd_ne (by omega)) _ (Nat.le_refl _) ⟨rfl, rfl⟩
  by_cases c2 : (c.m.length : Int) ≤ c.s.actor
  · simp [hz, c1, c2, aload, afield, apart, upd_eq]
    exact resK.of (η' := η) (fin fun r hr => upd_ne (by omega)) _ (Nat.le_refl _) ⟨rfl, rfl⟩
  simp [hz, c1, c2, aload, afield, apart, upd_eq]
  refine ACK.rt (h2 _ _) ?_
  cases hst : standsF c.m c.s
  · simp
    exact resK.of (η' := η) (fin fun r hr => upd_ne (by omega)) _ (Nat.le_refl _) ⟨rfl, rfl⟩
  have hk : c.s.actor.toNat < c.m.length := by omega
  obtain ⟨A, hA⟩ : ∃ A, c.m[c.s.actor.toNat] = A := ⟨_, rfl⟩
  have hA2 : actr c.m c.s.actor = A := by rw [actr, List.getD_eq_getElem?_getD, List.getElem?_eq_getElem hk, hA]; rfl
  have hbl := hc.box.1
  have c0 : 0 ≤ c.s.actor := by omega
  simp
  refine loopK.inv [2, 3, 40, 41, 42, 43, 44, 45, 46, 47, 48, 49, 50, 51, 52, 53, 54, 55, 56, 57, 58, 59, 60, 61, 62, 63, 64, 65, 66, 67, 68, 69, 70, 71, 72] (fun k : Nat => k ≤ c.box.length ∧ ∀ j (hj : j < c.box.length), j < k → 0 ≤ c.box[j].1 ∧ c.box[j].1 < A.msgs.length) (fun k => [(3, .int .i64 k)]) (fun _ => upd η n (some (.cells 10 [cseC c]))) (fun _ => n + 1) (fun k => c.box.length - k) 0 ⟨by simp, by simp⟩ (by simp) (by simp [cseC, AHeap.le]) (by simp) ?_
  intro k ⟨k1, k2⟩
  simp [cseC, aload, afield, apart, upd_eq]
  refine CondP.dec (fun g1 => ?_) (fun g1 => ?_)
  · have hkb : k < c.box.length := by omega
    have ewk : IntKind.i64.wrap ((k : Int) + 1) = (k : Int) + 1 := wrap_id (by omega) (by omega)
    simp [g1]
    refine drawK.intro mixed [(0, []), (1, []), (2, []), (3, []), (4, []), (5, []), (6, []), (7, []), (8, []), (9, []), (10, []), (11, []), (12, []), (13, []), (14, []), (15, []), (16, []), (17, []), (18, []), (19, []), (20, []), (21, []), (22, []), (23, []), (24, []), (25, [])] (by kernel_rfl) ?_
    simp [aload, afield, apart, upd_eq, aindex, hkb]
    refine CondP.dec (fun g2 => ?_) (fun g2 => ?_)
    · simp [g2]
      exact resK.of (η' := η) (fin fun r hr => upd_ne (by omega)) _ (Nat.le_refl _) ⟨rfl, rfl⟩
    have g2' : 0 ≤ c.box[k].1 := by omega
    simp [g2, aload, afield, apart, upd_eq, aindex, hkb, c0, hk, hA, actC]
    refine CondP.dec (fun g3 => ?_) (fun g3 => ?_)
    · simp [g3]
      exact resK.of (η' := η) (fin fun r hr => upd_ne (by omega)) _ (Nat.le_refl _) ⟨rfl, rfl⟩
    simp [g3, ewk]
    refine endK.intro (k + 1) ⟨by omega, fun j hj hjk => ?_⟩ (by simp) (by repeat (first | exact Agree.mask _ _ | refine Agree.setf rfl ?_ | refine Agree.inner rfl ?_)) (AHeap.le_rfl _) (Nat.le_refl _) (show c.box.length - (k + 1) < c.box.length - k by omega)
    by_cases e : j = k
    · subst e; exact ⟨g2', by omega⟩
    · exact k2 j hj (by omega)
  have hbx : ∀ x ∈ c.box, 0 ≤ x.1 ∧ x.1 < (actr c.m c.s.actor).msgs.length := fun x hx => by
    obtain ⟨j, hj, rfl⟩ := List.getElem_of_mem hx
    rw [hA2]
    exact k2 j hj (by omega)
  obtain ⟨t1, t2⟩ := typed_law (self := c.self) (now := c.now) (box := c.box) ez hst hbx
  simp [g1, aload, apart, upd_eq]
  refine ACK.use (h3 _ _).freshP ?_
  intro r η1 n1 ⟨⟨sv, rv, av, e1, i1, i2, i3, a1, a2, o1, o2, o3⟩, hf1⟩
  subst e1
  generalize hR : stepF c.m c.self c.s c.now c.box = R at *
  obtain ⟨⟨Ra, Rp, Rs, Rr, Rw, Ru⟩, ⟨Rk, Rd, ⟨Rm1, Rm2⟩, Rac, Rar, Rn, ⟨Rr1, Rr2⟩, Rt⟩, Re⟩ := R
  dsimp only at t1 t2 i1 i2 i3
  subst t1
  have s1 := i1.sc
  have s2 := i2.sc
  have s3 := i3.sc
  have d1 := i1.ac
  have d2 := i2.ac
  have d3 := i3.ac
  have l3 : ∀ η', alenT Try.prog 25 av η' = some (Rar.length : Int) := i3.len (by simp)
  have b0 := a1 n (by omega)
  rw [upd_eq] at b0
  have o' : ∀ r, r < n → η1 r = η r := fun r hr => by rw [a1 r (by omega), upd_ne (by omega)]
  have m0 : ¬ n = n1 := by omega
  have m1 : ¬ n = n1 + 1 := by omega
  have m2 : ¬ n = n1 + 2 := by omega
  simp [stC, effC, s1, s2, s3, astore, upd_apply, Nat.add_assoc]
  rcases t2 with t2 | ⟨t2, t3, t4, t5, t6, t7, t8⟩ | ⟨t2, t3, t4⟩
  · simp [t2, aload, afield, apart, upd_apply]
    exact resK.of (η' := η) (fin fun r hr => by simp only [upd_apply]; repeat rw [if_neg (by omega)]
                                                exact o' r hr) _ (Nat.le_refl _) ⟨rfl, rfl⟩
  · have hgt : gotF ⟨Ra, Rp, Rs, Rr, Rw, Ru⟩ 5 = (⟨Ra, Rp, Rs ++ [5], Rr, Rw, Ru⟩, 0) := by unfold gotF; rw [if_neg (by show ¬ 16 ≤ Rs.length; omega)]
    have hrl : Rr.length ≤ 17592186044416 := by
      have := t8
      simp only [standsF, decide_eq_true_eq] at this
      have hx := this.2.2.2.2.1
      rw [t7, hA2] at hx
      rw [hx, ← hA]
      exact (hc.m.2 _ (List.getElem_mem ..)).regs.1
    have hg := fun η n k1 k2 => got_ac ⟨Ra, Rp, Rs, Rr, Rw, Ru⟩ 5 η n (sv := sv) (rv := rv) k1 k2 (by show Rs.length ≤ _; omega) hrl
    rw [hgt] at hg
    simp only [stC] at hg
    obtain ⟨j, rfl⟩ : ∃ j : Nat, Rac = j := ⟨Rac.toNat, by omega⟩
    have hj : j < c.m.length := by omega
    have ej : actr c.m (j : Int) = c.m[j] := by simp [actr, List.getD_eq_getElem?_getD, hj]
    rw [ej] at t5
    have t5' : (Rar.length : Int) = c.m[j].params.length := by omega
    have nj : ¬ (j : Int) < 0 := by omega
    have nj2 : ¬ (c.m.length : Int) ≤ j := by omega
    have nj3 : ¬ c.m.length ≤ j := by omega
    have f0 := hf1 n1 (Nat.le_refl _)
    have f1 := hf1 (n1 + 1) (by omega)
    simp [t2, aload, afield, apart, upd_apply, s1, s2]
    refine ACK.use (hg _ _ ?_ ?_).freshP ?_
    · refine IsL.mono1 i1 fun r rows hr => ?_
      have q1 : ¬ r = n1 := fun e => by rw [e, f0] at hr; cases hr
      have q2 : ¬ r = n1 + 1 := fun e => by rw [e, f1] at hr; cases hr
      simp only [upd_apply, q1, q2, if_false]; exact hr
    · refine IsL.mono1 i2 fun r rows hr => ?_
      have q1 : ¬ r = n1 := fun e => by rw [e, f0] at hr; cases hr
      have q2 : ¬ r = n1 + 1 := fun e => by rw [e, f1] at hr; cases hr
      simp only [upd_apply, q1, q2, if_false]; exact hr
    intro r η2 n2 ⟨⟨sv2, rv2, e1, j1, j2, g1, g2⟩, hf2⟩
    subst e1
    have u1 := j1.sc
    have u2 := j2.sc
    have v1 := j1.ac
    have v2 := j2.ac
    have c3 := g1 n (by omega)
    have c4 := g1 n1 (by omega)
    have c5 := g1 (n1 + 1) (by omega)
    simp [upd_apply, m0, m1, b0] at c3 c4 c5
    have w0 : ¬ n = n2 := by omega
    have w1 : ¬ n1 = n2 := by omega
    have w2 : ¬ n1 + 1 = n2 := by omega
    have w3 : ¬ n2 = n1 := by omega
    have w4 : ¬ n = n1 := by omega
    simp [stC, u1, u2, upd_apply, astore, upd_upd]
    refine drawK.intro mixed [(0, []), (1, []), (2, []), (3, []), (4, []), (5, []), (6, []), (7, []), (8, []), (9, []), (10, []), (11, []), (12, []), (13, []), (14, []), (15, []), (16, []), (17, []), (18, []), (19, []), (20, []), (21, []), (22, []), (23, []), (24, []), (25, []), (26, []), (27, []), (28, []), (29, []), (30, [])] (by kernel_rfl) ?_
    simp [aload, afield, apart, upd_apply, c3, c5, w0, w2, nj, nj2, aindex, hj, actC, l3, t5']
    have hs2 := fun (η : AHeap) n => stands_ac c.m ⟨Ra, Rp, Rs ++ [5], Rr, Rw, Ru⟩ η n (η0 := η2) (sv := sv2) (rv := rv2) hc.m j1 j2
    rw [t8] at hs2
    simp only [modV, stC] at hs2
    simp [aload, afield, apart, upd_apply, u1, u2, astore, c3, c4, w0, w1, w4, t7]
    rw [t7] at hs2
    refine ACK.rt (hs2 _ _) ?_
    simp
    refine resK.of (η' := η) (fin fun r hr => ?_) _ (Nat.le_refl _) ⟨rfl, rfl⟩
    simp only [upd_apply]
    repeat rw [if_neg (by omega)]
    rw [g1 r (by omega)]
    simp only [upd_apply]
    repeat rw [if_neg (by omega)]
    exact o' r hr
  · by_cases h5 : Rk = 5
    · simp [h5, aload, afield, apart, upd_apply]
      exact resK.of (η' := η) (fin fun r hr => by simp only [upd_apply]; repeat rw [if_neg (by omega)]
                                                  exact o' r hr) _ (Nat.le_refl _) ⟨rfl, rfl⟩
    subst t3
    have hs2 := fun (η : AHeap) n => stands_ac c.m ⟨c.s.actor, Rp, Rs, Rr, Rw, Ru⟩ η n (η0 := η1) (sv := sv) (rv := rv) hc.m i1 i2
    rw [t4] at hs2
    simp only [modV, stC] at hs2
    simp [h5, t2, aload, afield, apart, upd_apply, s1, s2, b0, m0, m1]
    refine ACK.rt (hs2 _ _) ?_
    simp
    exact resK.of (η' := η) (fin fun r hr => by simp only [upd_apply]; repeat rw [if_neg (by omega)]
                                                exact o' r hr) _ (Nat.le_refl _) ⟨rfl, rfl⟩
end Go.Proofs.Ytkhoelmbcmkhjaa
