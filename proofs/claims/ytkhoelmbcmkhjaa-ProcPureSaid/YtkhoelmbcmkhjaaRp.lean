/- ProcPure: what is handed in to a reduction (module, state, mailbox) stays as it is, whatever becomes of what is answered, and the same answers come again; for every input. With the reference Step on the way. -/
import Derived.Test.YtkhoelmbcmkhjaaSv
import Derived.Test.YtkhoelmbcmkhjaaAv
import Derived.Test.YtkhoelmbcmkhjaaPv
import Derived.Test.YtkhoelmbcmkhjaaUv
import Derived.Test.YtkhoelmbcmkhjaaR0
import Derived.Test.YtkhoelmbcmkhjaaRt
namespace Go.Proofs.Ytkhoelmbcmkhjaa
set_option maxRecDepth 100000

/-- a step's answer, all lists read only -/
def stepV (r : Sta × Eff × Int) : AVal := .tup [.agg (stC r.1 (.rs 1 (ints r.1.stack)) (.rs 1 (ints r.1.regs))), .agg (effC r.2.1 (.rs 1 (ints r.2.1.args))), .int .i64 r.2.2]
theorem stepV_nq (r : Sta × Eff × Int) (η : AHeap) : NQ η (stepV r) := by
  refine .tup _ ?_
  intro c hc
  simp at hc
  rcases hc with rfl | rfl | rfl
  · refine .agg _ ?_
    intro c hc
    simp [stC] at hc
    rcases hc with rfl | rfl | rfl | rfl | rfl | rfl
    · exact .int _ _
    · exact .int _ _
    · exact ints_nq _ _
    · exact ints_nq _ _
    · exact .bool _
    · exact .int _ _
  · refine .agg _ ?_
    intro c hc
    simp [effC] at hc
    rcases hc with rfl | rfl | rfl | rfl | rfl | rfl | rfl | rfl | rfl | rfl
    all_goals first | exact ints_nq _ _ | exact .int _ _
  · exact .int _ _
theorem fin15 {n n' : Nat} {η η' : AHeap} {s : Sta} {e : Eff} {err : Int} {sv rv av : AVal} (h1 : FL n η' sv s.stack) (h2 : FL n η' rv s.regs) (h3 : FL n η' av e.args) (l1 : s.stack.length ≤ lenMax) (l2 : s.regs.length ≤ lenMax) (l3 : e.args.length ≤ lenMax) (hk : ∀ r, r < n → η' r = η r) :
    (fun v η' (_ : Nat) => (∀ r, r < n → η' r = η r) ∧ Ent (gnd n η' 3 v) (stepV (s, e, err))) (.tup [.agg (stC s sv rv), .agg (effC e av), .int .i64 err]) η' n' := by
  refine ⟨hk, ?_⟩
  rw [gnd_tup]
  refine Ent.tup ⟨?_, ?_, ?_, trivial⟩
  · rw [gnd_agg]
    refine Ent.agg ⟨?_, ?_, h1.gnd l1 0, h2.gnd l2 0, ?_, ?_, trivial⟩ rfl
    all_goals (first | rw [gnd_int]; exact Ent.refl _ | rw [gnd_bool]; exact Ent.refl _)
  · rw [gnd_agg]
    refine Ent.agg ⟨?_, ?_, ?_, ?_, ?_, h3.gnd l3 0, ?_, ?_, ?_, ?_, trivial⟩ rfl
    all_goals (rw [gnd_int]; exact Ent.refl _)
  · rw [gnd_int]; exact Ent.refl _
theorem stepG_9 {c : Wc} {x : Wx} (h : ¬ (0 ≤ c.op ∧ c.op ≤ 26)) : stepG c x = (sta0, eff0, 9) := by
  unfold stepG
  have h2 : ∀ k : Int, 0 ≤ k → k ≤ 26 → ¬ c.op = k := fun k _ _ e => h (by omega)
  rw [if_neg (fun h3 => h ⟨by have := h3.1; omega, by have := h3.2.1; omega⟩)]
  have : deedOf c.op deedL = none := by
    unfold deedL
    simp only [deedOf]
    repeat rw [if_neg (h2 _ (by decide) (by decide))]
  rw [this]
theorem op_cases {op : Int} (h : 0 ≤ op ∧ op ≤ 26) : op = 0 ∨ op = 1 ∨ op = 2 ∨ op = 3 ∨ op = 4 ∨ op = 5 ∨ op = 6 ∨ op = 7 ∨ op = 8 ∨ op = 9 ∨ op = 10 ∨ op = 11 ∨ op = 12 ∨ op = 13 ∨ op = 14 ∨ op = 15 ∨ op = 16 ∨ op = 17 ∨ op = 18 ∨ op = 19 ∨ op = 20 ∨ op = 21 ∨ op = 22 ∨ op = 23 ∨ op = 24 ∨ op = 25 ∨ op = 26 := by omega
theorem stepG_6 {m : List Actr} {A : Actr} {op a self now : Int} {box : List (Int × Int)} {x : Wx} (h0 : x.err = 0) (hx : x.s.regs.length = A.regs.length) (h : 0 ≤ op ∧ op ≤ 26) (h1 : 0 ≤ cntF m A op) (h2 : a < 0 ∨ cntF m A op ≤ a) : stepG ⟨m, A, op, a, self, now, box⟩ x = (sta0, eff0, 6) := by
  have h3 : op = 4 ∨ op = 5 ∨ op = 19 ∨ op = 21 := by
    unfold cntF at h1
    split at h1
    · omega
    · split at h1
      · omega
      · split at h1
        · omega
        · omega
  have e : ∀ x : Wx, x.err = 6 → stepEnd x = (sta0, eff0, 6) := fun x hx => by simp [stepEnd, hx]
  have f : (x.fail 6).err = 6 := by simp [Wx.fail, h0]
  rcases h3 with rfl | rfl | rfl | rfl
  · simp [cntF] at h2
    unfold stepG
    rw [if_neg (by simp [isTwo])]
    simp only [deedOf, deedL]
    simp only [workF]
    simp
    refine e _ ?_
    rw [Wx.load, if_neg (by omega)]; exact f
  · simp [cntF] at h2
    unfold stepG
    rw [if_neg (by simp [isTwo])]
    simp only [deedOf, deedL]
    simp only [workF]
    simp
    refine e _ ?_
    rw [Wx.stow, if_neg (by omega)]; exact f
  · simp [cntF] at h2
    unfold stepG
    rw [if_neg (by simp [isTwo])]
    simp only [deedOf, deedL]
    simp only [workF]
    simp
    refine e _ ?_
    rw [Wx.spawn, if_neg (by omega)]; exact f
  · simp [cntF] at h2
    unfold stepG
    rw [if_neg (by simp [isTwo])]
    simp only [deedOf, deedL]
    simp only [workF]
    simp
    refine e _ ?_
    rw [Wx.recv, if_neg (by omega)]; exact f
theorem sound15_ac (m : List Actr) (s : Sta) (η : AHeap) (n : Nat) {sv rv : AVal} {η0 : AHeap} (k1 : IsL η0 sv s.stack) (k2 : IsL η0 rv s.regs) : AC Try.prog 39 [modV m, .agg (stC s sv rv)] η n (Rt (.bool (soundF m s)) η n) := by
  refine AC.pure (.bool _) ?_
  obtain ⟨sa, sp, ss, sr, sw, su⟩ := s
  have l1 : ∀ η', alenT Try.prog 25 sv η' = some (ss.length : Int) := k1.len (by simp)
  have l2 : ∀ η', alenT Try.prog 25 rv η' = some (sr.length : Int) := k2.len (by simp)
  have s1 := k1.sc
  have s2 := k2.sc
  have d1 := k1.ac
  have d2 := k2.ac
  refine AC.fresh fun hf => ?_
  have fin : ∀ {η' : AHeap}, (∀ r, r < n → η' r = η r) → η.le η' := fun h => le_old hf h
  by_cases c1 : sa < 0
  · refine AC.enter Try.func39 rfl Try.ntmps39 (by simp) ?_
    simp [modV, stC, aload, afield, apart, upd_apply, s1, s2, c1, Nat.add_assoc]
    exact resK.of (η' := η) (fin fun r hr => by simp only [upd_apply]; repeat rw [if_neg (by omega)]) _ (Nat.le_refl _) ⟨by simp [soundF]; omega, rfl⟩
  by_cases c2 : (m.length : Int) ≤ sa
  · refine AC.enter Try.func39 rfl Try.ntmps39 (by simp) ?_
    simp [modV, stC, aload, afield, apart, upd_apply, s1, s2, c1, c2, Nat.add_assoc]
    exact resK.of (η' := η) (fin fun r hr => by simp only [upd_apply]; repeat rw [if_neg (by omega)]) _ (Nat.le_refl _) ⟨by simp [soundF]; omega, rfl⟩
  obtain ⟨j, rfl⟩ : ∃ j : Nat, sa = (j : Int) := ⟨sa.toNat, by omega⟩
  have hj : j < m.length := by omega
  have ea : actr m (j : Int) = m[j] := by unfold actr; simp [List.getD_eq_getElem?_getD, hj]
  have hs : soundF m ⟨j, sp, ss, sr, sw, su⟩ = decide (0 ≤ sp ∧ sp < m[j].code.length ∧ sr.length = m[j].regs.length ∧ ss.length ≤ 16 ∧ (sw = true → (ins m[j] sp).1 = 21 ∧ 0 ≤ (ins m[j] sp).2 ∧ (ins m[j] sp).2 < m[j].tabs.length)) := by
    simp only [soundF, ea]
    have : (j : Int) < m.length := by omega
    simp [this]
  rw [hs]
  have c1' : ¬ ((j : Int) < 0) := c1
  by_cases c3 : sp < 0
  · have : ¬ 0 ≤ sp := by omega
    refine AC.enter Try.func39 rfl Try.ntmps39 (by simp) ?_
    simp [modV, stC, aload, afield, apart, upd_apply, s1, s2, c1', c2, aindex, hj, actC, astore, upd_upd, c3, Nat.add_assoc]
    exact resK.of (η' := η) (fin fun r hr => by simp only [upd_apply]; repeat rw [if_neg (by omega)]) _ (Nat.le_refl _) ⟨by simp [this], rfl⟩
  obtain ⟨i, rfl⟩ : ∃ i : Nat, sp = (i : Int) := ⟨sp.toNat, by omega⟩
  have c3' : ¬ ((i : Int) < 0) := c3
  by_cases c4 : m[j].code.length ≤ i
  · have : ¬ i < m[j].code.length := by omega
    refine AC.enter Try.func39 rfl Try.ntmps39 (by simp) ?_
    simp [modV, stC, aload, afield, apart, upd_apply, s1, s2, c1', c2, aindex, hj, actC, astore, upd_upd, c3', c4, Nat.add_assoc]
    exact resK.of (η' := η) (fin fun r hr => by simp only [upd_apply]; repeat rw [if_neg (by omega)]) _ (Nat.le_refl _) ⟨by simp [this], rfl⟩
  have hi : i < m[j].code.length := by omega
  have hins : ins m[j] (i : Int) = m[j].code[i] := by unfold ins; simp [List.getD_eq_getElem?_getD, hi]
  rw [hins]
  refine AC.enter Try.func39 rfl Try.ntmps39 (by simp) ?_
  simp [modV, stC, aload, afield, apart, upd_apply, l2, s1, s2, c1', c2, aindex, hj, actC, astore, upd_upd, c3', c4, Nat.add_assoc]
  refine CondP.ndec (fun c5 => ?_) (fun c5 => ?_)
  · have c5' : sr.length = m[j].regs.length := by omega
    simp [c5, aload, afield, apart, upd_apply, l1]
    refine CondP.dec (fun c6 => ?_) (fun c6 => ?_)
    · simp [c6]
      have n6 : ¬ ss.length ≤ 16 := by omega
      exact resK.of (η' := η) (fin fun r hr => by simp only [upd_apply]; repeat rw [if_neg (by omega)]) _ (Nat.le_refl _) ⟨by simp [n6], rfl⟩
    · have c6' : ss.length ≤ 16 := by omega
      simp [c6, aload, afield, apart, upd_apply, aindex, hi, astore, upd_upd, Nat.add_assoc]
      cases sw
      · simp
        exact resK.of (η' := η) (fin fun r hr => by simp only [upd_apply]; repeat rw [if_neg (by omega)]) _ (Nat.le_refl _) ⟨by simp [hi, c5', c6'], rfl⟩
      · simp [aload, afield, apart, upd_apply]
        refine CondP.dec (fun c7 => ?_) (fun c7 => ?_)
        · simp [c7, aload, afield, apart, upd_apply]
          refine CondP.dec (fun c8 => ?_) (fun c8 => ?_)
          · simp [c8, aload, afield, apart, upd_apply]
            exact resK.of (η' := η) (fin fun r hr => by simp only [upd_apply]; repeat rw [if_neg (by omega)]) _ (Nat.le_refl _) ⟨by simp [hi, c5', c6', c7, c8], rfl⟩
          · simp [c8]
            exact resK.of (η' := η) (fin fun r hr => by simp only [upd_apply]; repeat rw [if_neg (by omega)]) _ (Nat.le_refl _) ⟨by simp [c8], rfl⟩
        · simp [c7]
          exact resK.of (η' := η) (fin fun r hr => by simp only [upd_apply]; repeat rw [if_neg (by omega)]) _ (Nat.le_refl _) ⟨by simp [c7], rfl⟩
  · have c5' : ¬ sr.length = m[j].regs.length := by omega
    simp [c5]
    exact resK.of (η' := η) (fin fun r hr => by simp only [upd_apply]; repeat rw [if_neg (by omega)]) _ (Nat.le_refl _) ⟨by simp [c5'], rfl⟩
end Go.Proofs.Ytkhoelmbcmkhjaa
namespace Go.Proofs.Ytkhoelmbcmkhjaa
set_option maxRecDepth 100000

theorem push_12 {x : Wx} {n : Int} (h : x.err = 12) : (x.push n).err = 12 := by unfold Wx.push Wx.fail; split <;> simp [h]
theorem pop_12 {x : Wx} (h : x.err = 12) : x.pop.err = 12 := by unfold Wx.pop Wx.fail; split <;> simp [h]
theorem pop_e {x : Wx} (h : x.s.stack = []) (h0 : x.err = 0) : x.pop.err = 12 := by simp [Wx.pop, h, Wx.fail, h0]
theorem push_e {x : Wx} {n : Int} (h : 16 ≤ x.s.stack.length) (h0 : x.err = 0) : (x.push n).err = 12 := by simp [Wx.push, h, Wx.fail, h0]
theorem end_12 {x : Wx} (h : x.err = 12) : stepEnd x = (sta0, eff0, 12) := by simp [stepEnd, h]
theorem gets_12 {x : Wx} {t : Tbl} {now : Int} {box : List (Int × Int)} (h : x.err = 12) : (x.gets t now box).err = 12 := by
  unfold Wx.gets
  split
  · unfold Wx.took Wx.goes; exact push_12 h
  · split
    · exact h
    · exact h
theorem pop1 {x : Wx} {a : Int} (h : x.s.stack = [a]) : x.pop.s.stack = [] ∧ x.pop.err = x.err := by unfold Wx.pop; rw [if_neg (by simp [h]), h]; exact ⟨rfl, rfl⟩
theorem popl {x : Wx} (h : x.s.stack ≠ []) : x.pop.s.stack.length = x.s.stack.length - 1 ∧ x.pop.err = x.err := by unfold Wx.pop; rw [if_neg h]; exact ⟨by simp, rfl⟩
theorem stepG_12 {m : List Actr} {A : Actr} {op a self now : Int} {box : List (Int × Int)} {s : Sta} (h : 0 ≤ op ∧ op ≤ 26) (hA : actr m s.actor = A) (hr : s.regs.length = A.regs.length) (h16 : s.stack.length ≤ 16) (h6 : ¬ (0 ≤ cntF m A op ∧ (a < 0 ∨ cntF m A op ≤ a)))
    (h12 : s.stack.length < tkF m s (op, a) ∨ 16 < s.stack.length - tkF m s (op, a) + ptF op) : stepG ⟨m, A, op, a, self, now, box⟩ ⟨s, { eff0 with taken := -1 }, 0⟩ = (sta0, eff0, 12) := by
  have nil : s.stack.length < 1 → s.stack = [] := fun h => List.length_eq_zero_iff.1 (by omega)
  have two : ∀ k : Int, isTwo k → s.stack.length < 2 → stepG ⟨m, A, k, a, self, now, box⟩ ⟨s, { eff0 with taken := -1 }, 0⟩ = (sta0, eff0, 12) := fun k hk hl => by
    unfold stepG
    rw [if_pos hk]
    have hpp : (⟨s, { eff0 with taken := -1 }, 0⟩ : Wx).pop.pop.err = 12 := by
      by_cases h0 : s.stack = []
      · exact pop_12 (pop_e h0 rfl)
      · have hl1 : s.stack.length ≠ 0 := fun e => h0 (List.length_eq_zero_iff.1 e)
        obtain ⟨v, hv⟩ : ∃ v, s.stack = [v] := List.length_eq_one_iff.1 (by omega)
        have := pop1 (x := ⟨s, { eff0 with taken := -1 }, 0⟩) hv
        exact pop_e this.1 this.2
    refine end_12 ?_
    unfold Wx.two
    rw [if_neg (fun h => by have := h.2; rw [hpp] at this; omega)]
    exact push_12 hpp
  by_cases t2 : isTwo op
  · have : tkF m s (op, a) = 2 ∧ ptF op = 1 := by
      unfold isTwo at t2
      constructor
      · unfold tkF; rw [if_neg (by simp only [isOne]; omega), if_pos (by simp only [isBin]; omega)]
      · unfold ptF; rw [if_pos (by omega)]
    exact two op t2 (by omega)
  by_cases e1 : op = 1
  · subst e1
    rw [show tkF m s (1, a) = 0 by simp [tkF, isOne, isBin], show ptF 1 = 1 by simp [ptF]] at h12
    simp [cntF] at h6
    unfold stepG
    rw [if_neg (by simp [isTwo])]
    simp only [deedOf, deedL, workF]
    simp
    refine end_12 ?_
    exact push_e (by show 16 ≤ s.stack.length; omega) rfl
  by_cases e2 : op = 2
  · subst e2
    rw [show tkF m s (2, a) = 0 by simp [tkF, isOne, isBin], show ptF 2 = 1 by simp [ptF]] at h12
    simp [cntF] at h6
    unfold stepG
    rw [if_neg (by simp [isTwo])]
    simp only [deedOf, deedL, workF]
    simp
    refine end_12 ?_
    exact push_e (by show 16 ≤ s.stack.length; omega) rfl
  by_cases e3 : op = 3
  · subst e3
    rw [show tkF m s (3, a) = 0 by simp [tkF, isOne, isBin], show ptF 3 = 1 by simp [ptF]] at h12
    simp [cntF] at h6
    unfold stepG
    rw [if_neg (by simp [isTwo])]
    simp only [deedOf, deedL, workF]
    simp
    refine end_12 ?_
    exact push_e (by show 16 ≤ s.stack.length; omega) rfl
  by_cases e18 : op = 18
  · subst e18
    rw [show tkF m s (18, a) = 0 by simp [tkF, isOne, isBin], show ptF 18 = 1 by simp [ptF]] at h12
    simp [cntF] at h6
    unfold stepG
    rw [if_neg (by simp [isTwo])]
    simp only [deedOf, deedL, workF]
    simp
    refine end_12 ?_
    exact push_e (by show 16 ≤ s.stack.length; omega) rfl
  by_cases e4 : op = 4
  · subst e4
    rw [show tkF m s (4, a) = 0 by simp [tkF, isOne, isBin], show ptF 4 = 1 by simp [ptF]] at h12
    simp [cntF] at h6
    unfold stepG
    rw [if_neg (by simp [isTwo])]
    simp only [deedOf, deedL, workF]
    simp
    refine end_12 ?_
    rw [Wx.load, if_pos (by simp only; omega)]
    exact push_e (by show 16 ≤ s.stack.length; omega) rfl
  by_cases e5 : op = 5
  · subst e5
    rw [show tkF m s (5, a) = 1 by simp [tkF, isOne], show ptF 5 = 0 by simp [ptF]] at h12
    simp [cntF] at h6
    unfold stepG
    rw [if_neg (by simp [isTwo])]
    simp only [deedOf, deedL, workF]
    simp
    refine end_12 ?_
    rw [Wx.stow, if_pos (by simp only; omega)]
    exact pop_e (nil (by omega)) rfl
  by_cases e13 : op = 13
  · subst e13
    rw [show tkF m s (13, a) = 1 by simp [tkF, isOne], show ptF 13 = 1 by simp [ptF]] at h12
    simp [cntF] at h6
    unfold stepG
    rw [if_neg (by simp [isTwo])]
    simp only [deedOf, deedL, workF]
    simp
    refine end_12 ?_
    exact push_12 (pop_e (nil (by omega)) rfl)
  by_cases e17 : op = 17
  · subst e17
    rw [show tkF m s (17, a) = 1 by simp [tkF, isOne], show ptF 17 = 0 by simp [ptF]] at h12
    simp [cntF] at h6
    unfold stepG
    rw [if_neg (by simp [isTwo])]
    simp only [deedOf, deedL, workF]
    simp
    refine end_12 ?_
    have := pop_e (x := ⟨s, { eff0 with taken := -1 }, 0⟩) (nil (by omega)) rfl
    unfold Wx.unl
    split
    · exact this
    · exact this
  by_cases e19 : op = 19
  · subst e19
    rw [show tkF m s (19, a) = (actr m a).params.length by simp [tkF, isOne, isBin], show ptF 19 = 0 by simp [ptF]] at h12
    simp [cntF] at h6
    unfold stepG
    rw [if_neg (by simp [isTwo])]
    simp only [deedOf, deedL, workF]
    simp
    refine end_12 ?_
    have hn : ¬ (actr0 m a).params.length ≤ s.stack.length := by
      have e0 : actr0 m a = actr m a := rfl
      rw [e0]; omega
    rw [Wx.spawn, if_pos (by omega), if_neg hn]
    rfl
  by_cases e20 : op = 20
  · subst e20
    rw [show tkF m s (20, a) = 2 by simp [tkF, isOne, isBin], show ptF 20 = 0 by simp [ptF]] at h12
    simp [cntF] at h6
    unfold stepG
    rw [if_neg (by simp [isTwo])]
    simp only [deedOf, deedL, workF]
    simp
    refine end_12 ?_
    by_cases h0 : s.stack = []
    · exact pop_12 (pop_e h0 rfl)
    · obtain ⟨v, hv⟩ : ∃ v, s.stack = [v] := List.length_eq_one_iff.1 (by have : s.stack.length ≠ 0 := fun e => h0 (List.length_eq_zero_iff.1 e); omega)
      have := pop1 (x := ⟨s, { eff0 with taken := -1 }, 0⟩) hv
      exact pop_e this.1 this.2
  by_cases e21 : op = 21
  · subst e21
    rw [show tkF m s (21, a) = if s.waiting = false ∧ 0 ≤ (tbl (actr m s.actor) a).tmo then 1 else 0 by simp [tkF, isOne, isBin], show ptF 21 = 0 by simp [ptF]] at h12
    simp [cntF] at h6
    unfold stepG
    rw [if_neg (by simp [isTwo])]
    simp only [deedOf, deedL, workF]
    simp
    refine end_12 ?_
    rw [hA] at h12
    split at h12
    · rename_i hw
      rw [Wx.recv, if_pos (by omega)]
      refine gets_12 ?_
      unfold Wx.clock
      rw [if_neg (by show ¬ s.waiting = true; simp [hw.1]), if_pos (by simpa [tbl, noTbl] using hw.2)]
      exact pop_e (nil (by omega)) rfl
    · omega
  by_cases e22 : op = 22
  · subst e22
    rw [show tkF m s (22, a) = 1 by simp [tkF, isOne], show ptF 22 = 0 by simp [ptF]] at h12
    simp [cntF] at h6
    unfold stepG
    rw [if_neg (by simp [isTwo])]
    simp only [deedOf, deedL, workF]
    simp
    refine end_12 ?_
    exact pop_e (nil (by omega)) rfl
  by_cases e23 : op = 23
  · subst e23
    rw [show tkF m s (23, a) = 1 by simp [tkF, isOne], show ptF 23 = 0 by simp [ptF]] at h12
    simp [cntF] at h6
    unfold stepG
    rw [if_neg (by simp [isTwo])]
    simp only [deedOf, deedL, workF]
    simp
    refine end_12 ?_
    exact pop_e (nil (by omega)) rfl
  by_cases e24 : op = 24
  · subst e24
    rw [show tkF m s (24, a) = 1 by simp [tkF, isOne], show ptF 24 = 0 by simp [ptF]] at h12
    simp [cntF] at h6
    unfold stepG
    rw [if_neg (by simp [isTwo])]
    simp only [deedOf, deedL, workF]
    simp
    refine end_12 ?_
    exact pop_e (nil (by omega)) rfl
  by_cases e25 : op = 25
  · subst e25
    rw [show tkF m s (25, a) = 1 by simp [tkF, isOne], show ptF 25 = 0 by simp [ptF]] at h12
    simp [cntF] at h6
    unfold stepG
    rw [if_neg (by simp [isTwo])]
    simp only [deedOf, deedL, workF]
    simp
    refine end_12 ?_
    exact pop_e (nil (by omega)) rfl
  by_cases e26 : op = 26
  · subst e26
    rw [show tkF m s (26, a) = 1 by simp [tkF, isOne], show ptF 26 = 2 by simp [ptF]] at h12
    simp [cntF] at h6
    unfold stepG
    rw [if_neg (by simp [isTwo])]
    simp only [deedOf, deedL, workF]
    simp
    refine end_12 ?_
    by_cases h0 : s.stack = []
    · exact push_12 (push_12 (pop_e h0 rfl))
    · have hp := popl (x := ⟨s, { eff0 with taken := -1 }, 0⟩) h0
      simp only at hp
      have hl : s.stack.length ≠ 0 := fun e => h0 (List.length_eq_zero_iff.1 e)
      refine push_e ?_ ?_
      · rw [Wx.push, if_neg (by rw [hp.1]; omega)]
        simp only [List.length_append, List.length_singleton, hp.1]
        omega
      · rw [Wx.push, if_neg (by rw [hp.1]; omega)]
        exact hp.2
  exfalso
  have ht : tkF m s (op, a) = 0 ∧ ptF op = 0 := by
    unfold isTwo at t2
    have : op = 0 ∨ op = 16 := by omega
    rcases this with rfl | rfl <;> simp [tkF, ptF, isOne, isBin]
  omega
theorem two_err' {op : Int} (h : isTwo op) (a b : Int) : (twoF op a b).2 = 0 ∨ (twoF op a b).2 = 15 := by
  unfold isTwo at h
  unfold twoF divF
  repeat' split
  all_goals first | exact Or.inl rfl | exact Or.inr rfl | (exfalso; omega)
theorem FL.updN {n x : Nat} {η : AHeap} {v : AVal} {l : List Int} (h : FL n η v l) (hx : ∀ rows, η x ≠ some (.cells 1 rows)) (o : Option AObj) : FL n (upd η x o) v l := by
  rcases h with h | h | ⟨r, o', I, J, h0, h1, h2, h3⟩
  · exact Or.inl h
  · exact Or.inr (Or.inl h)
  · exact Or.inr (Or.inr ⟨r, o', I, J, h0, h1, h2, by rw [upd_ne (fun e => hx _ (e ▸ h3))]; exact h3⟩)
theorem FL.mono {n : Nat} {η η' : AHeap} {v : AVal} {l : List Int} (h : FL n η v l) (hk : ∀ r rows, η r = some (.cells 1 rows) → η' r = some (.cells 1 rows)) : FL n η' v l := by
  rcases h with h | h | ⟨r, o, I, J, h0, h1, h2, h3⟩
  · exact Or.inl h
  · exact Or.inr (Or.inl h)
  · exact Or.inr (Or.inr ⟨r, o, I, J, h0, h1, h2, hk _ _ h3⟩)
theorem len2 {l : List Int} (h : l.length = 2) : ∃ x y, l = [x, y] := by
  match l, h with
  | [x, y], _ => exact ⟨x, y, rfl⟩
set_option maxHeartbeats 8000000 in
theorem step15_ac (m : List Actr) (self : Int) (s : Sta) (now : Int) (box : List (Int × Int)) (η : AHeap) (n : Nat) (hm : Mod64 m) (hs : Sta64 s) (hb : box.length ≤ 17592186044416) :
    AC Try.prog 19 [modV m, .int .i64 self, .agg (stC s (.rs 1 (ints s.stack)) (.rs 1 (ints s.regs))), .int .i64 now, .rs 2 (pairs box)] η n (Rt (stepV (stepF m self s now box)) η n) := by
  refine AC.gnd1 (stepV_nq _ η) 3 ?_
  have hsd := fun η n => sound15_ac m s η n (sv := .rs 1 (ints s.stack)) (rv := .rs 1 (ints s.regs)) (η0 := η) (Or.inl rfl) (Or.inl rfl)
  have bad : ∀ (err : Int) (η' : AHeap) (n' : Nat), (∀ r, r < n → η' r = η r) → (fun v η' (_ : Nat) => (∀ r, r < n → η' r = η r) ∧ Ent (gnd n η' 3 v) (stepV (sta0, eff0, err))) (.tup [.agg (stC sta0 .nils .nils), .agg (effC eff0 .nils), .int .i64 err]) η' n' := fun err η' n' hk => fin15 (n' := n') (FL.nil' _ _) (FL.nil' _ _) (FL.nil' _ _) (by simp [sta0]) (by simp [sta0]) (by simp [eff0]) hk
  cases h : soundF m s
  · have e : stepF m self s now box = (sta0, eff0, 13) := by simp [stepF, h]
    rw [e]
    simp only [modV, stC, h] at hsd ⊢
    refine AC.fresh fun hf => ?_; refine AC.enter Try.func19 rfl Try.ntmps19 (by simp) ?_
    simp [aload, apart, upd_apply, Nat.add_assoc]
    refine ACK.rt (hsd _ _) ?_
    simp [aload, apart, upd_apply, abuild, aplace, afillP, astore]
    exact resK.rt (bad 13 _ 0 fun r hr => by simp only [upd_apply]; repeat rw [if_neg (by omega)])
  obtain ⟨sa, sp, ss, sr, sw, su⟩ := s
  have hd := h
  simp only [soundF, decide_eq_true_eq] at hd
  obtain ⟨p1, p2, p3, p4, p5, p6, p7⟩ := hd
  obtain ⟨j, rfl⟩ : ∃ j : Nat, sa = (j : Int) := ⟨sa.toNat, by omega⟩
  have hj : j < m.length := by omega
  have ea : actr m (j : Int) = m[j] := by unfold actr; simp [List.getD_eq_getElem?_getD, hj]
  rw [ea] at p4 p5 p7
  obtain ⟨i, rfl⟩ : ∃ i : Nat, sp = (i : Int) := ⟨sp.toNat, by omega⟩
  have hi : i < m[j].code.length := by omega
  have hins : ins m[j] (i : Int) = m[j].code[i] := by unfold ins; simp [List.getD_eq_getElem?_getD, hi]
  rw [hins] at p7
  obtain ⟨op, a, hI⟩ : ∃ op a, m[j].code[i] = (op, a) := ⟨_, _, rfl⟩
  rw [hI] at p7
  have hA64 := hm.2 m[j] (List.getElem_mem ..)
  have eg := stepF_go (self := self) (now := now) (box := box) h ea (hins.trans hI)
  simp only at eg
  rw [eg]
  simp only [modV, stC, h] at hsd ⊢
  have hct := fun η n => count15_ac m m[j] op η n
  simp only [modV, actC] at hct
  by_cases c9 : 0 ≤ op ∧ op ≤ 26
  rotate_left
  · rw [stepG_9 c9]
    refine AC.fresh fun hf => ?_; refine AC.enter Try.func19 rfl Try.ntmps19 (by simp) ?_
    simp [aload, apart, upd_apply, Nat.add_assoc]
    refine ACK.rt (hsd _ _) ?_
    simp [aload, afield, apart, upd_apply, Nat.add_assoc, aindex, hj, hi, hI, actC, astore, upd_upd]
    refine ACK.rt (is04_ac _ _ _) ?_
    simp [c9, aload, apart, upd_apply, abuild, aplace, afillP, astore]
    exact resK.rt (bad 9 _ 0 fun r hr => by simp only [upd_apply]; repeat rw [if_neg (by omega)])
  by_cases c6 : 0 ≤ cntF m m[j] op ∧ (a < 0 ∨ cntF m m[j] op ≤ a)
  · rw [stepG_6 rfl p5 c9 c6.1 c6.2]
    by_cases ha : a < 0
    · refine AC.fresh fun hf => ?_; refine AC.enter Try.func19 rfl Try.ntmps19 (by simp) ?_
      simp [aload, apart, upd_apply, Nat.add_assoc]
      refine ACK.rt (hsd _ _) ?_
      simp [aload, afield, apart, upd_apply, Nat.add_assoc, aindex, hj, hi, hI, actC, astore, upd_upd]
      refine ACK.rt (is04_ac _ _ _) ?_
      simp [c9, aload, afield, apart, upd_apply]
      refine ACK.rt (hct _ _) ?_
      simp [c6.1, ha, aload, afield, apart, upd_apply, abuild, aplace, afillP, astore]
      exact resK.rt (bad 6 _ 0 fun r hr => by simp only [upd_apply]; repeat rw [if_neg (by omega)])
    · have ha2 : cntF m m[j] op ≤ a := by omega
      refine AC.fresh fun hf => ?_; refine AC.enter Try.func19 rfl Try.ntmps19 (by simp) ?_
      simp [aload, apart, upd_apply, Nat.add_assoc]
      refine ACK.rt (hsd _ _) ?_
      simp [aload, afield, apart, upd_apply, Nat.add_assoc, aindex, hj, hi, hI, actC, astore, upd_upd]
      refine ACK.rt (is04_ac _ _ _) ?_
      simp [c9, aload, afield, apart, upd_apply]
      refine ACK.rt (hct _ _) ?_
      simp [c6.1, ha, ha2, aload, afield, apart, upd_apply, abuild, aplace, afillP, astore]
      exact resK.rt (bad 6 _ 0 fun r hr => by simp only [upd_apply]; repeat rw [if_neg (by omega)])
  have hok : ∀ k : Int, cntF m m[j] op = k → 0 ≤ k → 0 ≤ a ∧ a < k := fun k e hk => by rw [e] at c6; omega
  have hst := hs.stack
  have hrg := hs.regs
  simp only at hst hrg
  have hcp := fun (η : AHeap) n => copied15_ac (η := η) (n := n) (s := ⟨j, i, ss, sr, sw, su⟩) (sv := .rs 1 (ints ss)) (rv := .rs 1 (ints sr)) (Or.inl rfl) (Or.inl rfl) hst.1 hrg.1
  have htk := fun (η : AHeap) n (sv rv : AVal) k1 k2 => takes15_ac m ⟨j, i, ss, sr, sw, su⟩ (op, a) η n (η0 := η) (sv := sv) (rv := rv) k1 k2 (fun e => hok m.length (by rw [show op = 19 from e]; simp [cntF]) (by omega)) (fun e => ⟨by omega, by omega, by
    have := hok m[j].tabs.length (by rw [show op = 21 from e]; simp [cntF]) (by omega)
    rw [show actr m (j : Int) = m[j] from ea]; exact this⟩)
  simp only [modV, stC] at hcp htk
  by_cases c12 : ss.length < tkF m ⟨j, i, ss, sr, sw, su⟩ (op, a) ∨ 16 < ss.length - tkF m ⟨j, i, ss, sr, sw, su⟩ (op, a) + ptF op
  · have e12 := stepG_12 (self := self) (now := now) (box := box) (s := ⟨j, IntKind.i64.wrap ((i : Int) + 1), ss, sr, sw, su⟩) c9 ea p5 p6 c6 c12
    rw [e12]
    have hl16 : ss.length ≤ 16 := p6
    generalize ht : tkF m ⟨j, i, ss, sr, sw, su⟩ (op, a) = tk at *
    have pf2 : ptF op ≤ 2 := by unfold ptF; split <;> (try split) <;> omega
    by_cases c0 : 0 ≤ cntF m m[j] op
    all_goals
      have c0a : 0 ≤ cntF m m[j] op → ¬ a < 0 ∧ ¬ cntF m m[j] op ≤ a := fun h => by omega
      simp only [c0, true_implies, false_implies] at c0a
      refine AC.fresh fun hf => ?_; refine AC.enter Try.func19 rfl Try.ntmps19 (by simp) ?_
      simp [aload, apart, upd_apply, Nat.add_assoc]
      refine ACK.rt (hsd _ _) ?_
      simp [aload, afield, apart, upd_apply, Nat.add_assoc, aindex, hj, hi, hI, actC, astore, upd_upd]
      refine ACK.rt (is04_ac _ _ _) ?_
      simp [c9, aload, afield, apart, upd_apply]
      refine ACK.rt (hct _ _) ?_
      simp [c0, c0a, aload, afield, apart, upd_apply]
      refine ACK.use (hcp _ _).freshP ?_
      intro r η1 n1 ⟨⟨q, u, e1, a1, a2, a3, a4, a5, a6, a7, a8⟩, hf1⟩
      subst e1
      simp only at a1 a2
      have b0 := a8 n (by omega)
      have b1 := a8 (n + 1) (by omega)
      have b2 := a8 (n + 2) (by omega)
      have b3 := a8 (n + 3) (by omega)
      have b4 := a8 (n + 4) (by omega)
      have b5 := a8 (n + 5) (by omega)
      simp [upd_apply] at b0 b1 b2 b3 b4 b5
      have old : ∀ r, r < n → η1 r = η r := fun r hr => by
        rw [a8 r (by omega)]
        simp only [upd_apply]
        repeat rw [if_neg (by omega)]
      have m0 : ¬ n = n1 := by omega
      have m1 : ¬ n + 1 = n1 := by omega
      have m2 : ¬ n + 2 = n1 := by omega
      have m3 : ¬ n + 3 = n1 := by omega
      have m4 : ¬ n + 4 = n1 := by omega
      have m5 : ¬ n + 5 = n1 := by omega
      have r0 : ¬ n1 = n := by omega
      have mk : ∀ k, ¬ n = n1 + k := fun k => by omega
      have r1 : ∀ k, ¬ n1 + k = n + 1 := fun k => by omega
      have r2 : ∀ k, ¬ n1 + k = n + 2 := fun k => by omega
      have r3 : ∀ k, ¬ n1 + k = n + 3 := fun k => by omega
      have r4 : ∀ k, ¬ n1 + k = n := fun k => by omega
      have r5 : ¬ n1 = n + 1 := by omega
      have r6 : ¬ n1 = n + 2 := by omega
      have r7 : ¬ n1 = n + 3 := by omega
      have r8 : ¬ q = n + 2 := by omega
      have r9 : ¬ q = n + 3 := by omega
      have u2 : ¬ u = n + 2 := by omega
      have u3 : ¬ u = n + 3 := by omega
      have u4 : ¬ n + 2 = u := by omega
      have u5 : ¬ n + 3 = u := by omega
      have u6 : ¬ n + 1 = u := by omega
      have u7 : ¬ n + 5 = u := by omega
      have uk : ∀ k, ¬ n1 + k = u := fun k => by omega
      have k1 : ∀ k, ¬ n + 1 = n1 + k := fun k => by omega
      have k2 : ∀ k, ¬ n + 2 = n1 + k := fun k => by omega
      have k3 : ∀ k, ¬ n + 3 = n1 + k := fun k => by omega
      have k4 : ∀ k, ¬ n + 4 = n1 + k := fun k => by omega
      have k5 : ∀ k, ¬ n + 5 = n1 + k := fun k => by omega
      have kq : ∀ k, ¬ q = n1 + k := fun k => by omega
      have ku : ∀ k, ¬ u = n1 + k := fun k => by omega
      have mq : ¬ q = n1 := by omega
      have mu : ¬ u = n1 := by omega
      have mq' : ¬ n1 = q := by omega
      have mu' : ¬ n1 = u := by omega
      have qn : n + 6 ≤ q := by omega
      have un : n + 6 ≤ u := by omega
      have q5 : ¬ n + 5 = q := by omega
      have q4 : ¬ n + 4 = q := by omega
      have q3 : ¬ n + 3 = q := by omega
      have q2 : ¬ n + 2 = q := by omega
      have q1 : ¬ n + 1 = q := by omega
      have qu : ¬ q = u := a5
      have uq : ¬ u = q := fun e => a5 e.symm
      have qk : ∀ k, ¬ n1 + k = q := fun k => by omega
      simp [stA, aload, apart, upd_apply, astore, upd_upd, b0, b5, m0, m5]
      refine ACK.rt (htk _ _ _ _ (IsL.own1 (by simp) (by rw [upd_ne mq]; exact a1)) (IsL.own1 rfl (by rw [upd_ne mu]; exact a2))) ?_
      simp
      refine drawK.intro mixed [(0, []), (1, []), (2, []), (3, []), (4, []), (5, []), (6, []), (7, []), (8, []), (9, []), (10, []), (11, []), (12, [7, 8]), (13, []), (14, []), (15, [])] (by kernel_rfl) ?_
      by_cases w4 : ss.length < tk
      · simp [aload, afield, apart, upd_apply, w4, abuild, aplace, afillP, astore, b2, b3, m2, m3]
        refine resK.rt ?_
        refine bad 12 _ 0 fun r hr => ?_
        simp only [upd_apply]
        repeat rw [if_neg (by omega)]
        exact old r hr
      · have w1 : IntKind.i64.wrap ((ss.length : Int) - tk) = ss.length - tk := wrap_id (by omega) (by omega)
        have w2 : IntKind.i64.wrap ((ss.length : Int) - tk + ptF op) = ss.length - tk + ptF op := wrap_id (by omega) (by omega)
        have w3 : (16 : Int) < ss.length - tk + ptF op := by omega
        simp [aload, afield, apart, upd_apply, b5, m5, w4]
        refine ACK.rt (puts15_ac (op, a) _ _) ?_
        simp [lk_some, chkK, w1, w2, w3, aload, apart, upd_apply, b5, m5, abuild, aplace, afillP, astore, b2, b3, m2, m3]
        refine resK.rt ?_
        refine bad 12 _ 0 fun r hr => ?_
        simp only [upd_apply]
        repeat rw [if_neg (by omega)]
        exact old r hr
  generalize ht : tkF m ⟨j, i, ss, sr, sw, su⟩ (op, a) = tk at *
  obtain ⟨st, args, es, et⟩ : ∃ st args, ss = st ++ args ∧ args.length = tk := ⟨ss.take (ss.length - tk), ss.drop (ss.length - tk), (List.take_append_drop ..).symm, by simp; omega⟩
  subst es
  rw [← et] at c12 htk
  have hl16 : st.length + args.length ≤ 16 := by simpa using p6
  have hp16 : st.length + ptF op ≤ 16 := by simp at c12; omega
  have w1 : IntKind.i64.wrap (st.length : Int) = st.length := wrap_id (by omega) (by omega)
  have w2 : IntKind.i64.wrap ((st.length : Int) + ptF op) = st.length + ptF op := wrap_id (by omega) (by omega)
  have w3 : ¬ (16 : Int) < st.length + ptF op := by omega
  have w4 : ¬ (st.length : Int) + args.length < args.length := by omega
  have ia : ints (st ++ args) = ints st ++ ints args := by simp [ints]
  have s1 : List.take args.length (List.drop st.length (ints (st ++ args))) = ints args := by rw [ia, List.drop_left' (by simp)]; exact tk_ints args
  have s2 : List.take st.length (ints (st ++ args)) = ints st := by rw [ia, List.take_left' (by simp)]
  have g1 : args.length * 8 ≤ 140737488355328 := by omega
  have o1 : (st.length : Int) ≤ (st.length : Int) + args.length := by omega
  have o2 : ((st.length : Int) + args.length).toNat = st.length + args.length := by omega
  have g2 : args.length ≤ 17592186044416 := by omega
  by_cases c0 : 0 ≤ cntF m m[j] op
  rotate_left
  · have hn4 : ¬ op = 4 := fun e => c0 (by rw [e]; simp [cntF])
    have hn5 : ¬ op = 5 := fun e => c0 (by rw [e]; simp [cntF])
    have hn19 : ¬ op = 19 := fun e => c0 (by rw [e]; simp [cntF])
    have hn21 : ¬ op = 21 := fun e => c0 (by rw [e]; simp [cntF])
    refine AC.fresh fun hf => ?_; refine AC.enter Try.func19 rfl Try.ntmps19 (by simp) ?_
    simp [aload, apart, upd_apply, Nat.add_assoc]
    refine ACK.rt (hsd _ _) ?_
    simp [aload, afield, apart, upd_apply, Nat.add_assoc, aindex, hj, hi, hI, actC, astore, upd_upd]
    refine ACK.rt (is04_ac _ _ _) ?_
    simp [c9, aload, afield, apart, upd_apply]
    refine ACK.rt (hct _ _) ?_
    simp [c0, aload, apart, upd_apply]
    refine ACK.use (hcp _ _).freshP ?_
    intro r η1 n1 ⟨⟨q, u, e1, a1, a2, a3, a4, a5, a6, a7, a8⟩, hf1⟩
    subst e1
    simp only at a1 a2
    have b0 := a8 n (by omega)
    have b1 := a8 (n + 1) (by omega)
    have b2 := a8 (n + 2) (by omega)
    have b3 := a8 (n + 3) (by omega)
    have b4 := a8 (n + 4) (by omega)
    have b5 := a8 (n + 5) (by omega)
    simp [upd_apply] at b0 b1 b2 b3 b4 b5
    have old : ∀ r, r < n → η1 r = η r := fun r hr => by
      rw [a8 r (by omega)]
      simp only [upd_apply]
      repeat rw [if_neg (by omega)]
    have m0 : ¬ n = n1 := by omega
    have m1 : ¬ n + 1 = n1 := by omega
    have m2 : ¬ n + 2 = n1 := by omega
    have m3 : ¬ n + 3 = n1 := by omega
    have m4 : ¬ n + 4 = n1 := by omega
    have m5 : ¬ n + 5 = n1 := by omega
    have r0 : ¬ n1 = n := by omega
    have mk : ∀ k, ¬ n = n1 + k := fun k => by omega
    have r1 : ∀ k, ¬ n1 + k = n + 1 := fun k => by omega
    have r2 : ∀ k, ¬ n1 + k = n + 2 := fun k => by omega
    have r3 : ∀ k, ¬ n1 + k = n + 3 := fun k => by omega
    have r4 : ∀ k, ¬ n1 + k = n := fun k => by omega
    have r5 : ¬ n1 = n + 1 := by omega
    have r6 : ¬ n1 = n + 2 := by omega
    have r7 : ¬ n1 = n + 3 := by omega
    have r8 : ¬ q = n + 2 := by omega
    have r9 : ¬ q = n + 3 := by omega
    have u2 : ¬ u = n + 2 := by omega
    have u3 : ¬ u = n + 3 := by omega
    have u4 : ¬ n + 2 = u := by omega
    have u5 : ¬ n + 3 = u := by omega
    have u6 : ¬ n + 1 = u := by omega
    have u7 : ¬ n + 5 = u := by omega
    have uk : ∀ k, ¬ n1 + k = u := fun k => by omega
    have k1 : ∀ k, ¬ n + 1 = n1 + k := fun k => by omega
    have k2 : ∀ k, ¬ n + 2 = n1 + k := fun k => by omega
    have k3 : ∀ k, ¬ n + 3 = n1 + k := fun k => by omega
    have k4 : ∀ k, ¬ n + 4 = n1 + k := fun k => by omega
    have k5 : ∀ k, ¬ n + 5 = n1 + k := fun k => by omega
    have kq : ∀ k, ¬ q = n1 + k := fun k => by omega
    have ku : ∀ k, ¬ u = n1 + k := fun k => by omega
    have mq : ¬ q = n1 := by omega
    have mu : ¬ u = n1 := by omega
    have mq' : ¬ n1 = q := by omega
    have mu' : ¬ n1 = u := by omega
    have qn : n + 6 ≤ q := by omega
    have un : n + 6 ≤ u := by omega
    have q5 : ¬ n + 5 = q := by omega
    have q4 : ¬ n + 4 = q := by omega
    have q3 : ¬ n + 3 = q := by omega
    have q2 : ¬ n + 2 = q := by omega
    have q1 : ¬ n + 1 = q := by omega
    have qu : ¬ q = u := a5
    have uq : ¬ u = q := fun e => a5 e.symm
    have qk : ∀ k, ¬ n1 + k = q := fun k => by omega
    simp [stA, aload, apart, upd_apply, astore, upd_upd, b0, b5, m0, m5]
    refine ACK.rt (htk _ _ _ _ (IsL.own1 (by simp) (by rw [upd_ne mq]; exact a1)) (IsL.own1 rfl (by rw [upd_ne mu]; exact a2))) ?_
    simp
    refine drawK.intro mixed [(0, []), (1, []), (2, []), (3, []), (4, []), (5, []), (6, []), (7, []), (8, []), (9, []), (10, []), (11, []), (12, [7, 8]), (13, []), (14, []), (15, [])] (by kernel_rfl) ?_
    simp [aload, afield, apart, upd_apply, b5, m5, w4]
    refine ACK.rt (puts15_ac (op, a) _ _) ?_
    simp [lk_some, chkK, o1, o2, w1, w2, w3, aload, afield, apart, upd_apply, Nat.add_assoc, asliceV, abnd, a1, mq, s1, g1, g2, appK, aappend, arows, lenMax, astore, upd_upd, abuild, aplace, afillP, b5, k5, m5, kq]
    refine ⟨ints_sc, ?_⟩
    refine CondP.dec (fun h => ?_) (fun h => ?_)
    · have hk : args.length = 0 := by rw [et, ← ht, h]; simp [tkF, isOne, isBin]
      have hx : args = [] := List.length_eq_zero_iff.1 hk
      have hp : ptF op = 0 := by rw [h]; simp [ptF]
      rw [hp] at hp16
      have es : stepG ⟨m, m[j], op, a, self, now, box⟩ ⟨⟨j, IntKind.i64.wrap ((i : Int) + 1), st ++ args, sr, sw, su⟩, { eff0 with taken := -1 }, 0⟩ = (⟨j, IntKind.i64.wrap (IntKind.i64.wrap ((i : Int) + 1) - 1), st, sr, sw, su⟩, { eff0 with kind := 5, taken := -1 }, 0) := by
        rw [h, hx]
        simp [stepG, isTwo, deedOf, deedL, workF, stepEnd, Wx.exits, Wx.stays, eff0]
      rw [es]
      simp [aload, afield, apart, upd_apply, b5, k5, m5, astore, h]
      refine drawK.intro mixed [(0, []), (1, []), (2, [1]), (3, []), (4, [])] (by kernel_rfl) ?_
      simp [aload, apart, upd_apply, r0, r6, m0, m2, m3, astore, lk_some, chkK, b2, b3, k2, k3]
      refine resK.rt ?_
      refine fin15 (n' := 0) (s := ⟨j, IntKind.i64.wrap (IntKind.i64.wrap ((i : Int) + 1) - 1), st, sr, sw, su⟩) (e := { eff0 with kind := 5, taken := -1 }) (err := 0) ?_ ?_ ?_ ?_ ?_ ?_ ?_
      · exact Or.inr (Or.inr ⟨q, 0, [], args, by omega, rfl, rfl, by simp [upd_apply, mq, kq, r8, r9, a1]⟩)
      · exact FL.own (by omega) rfl (by simp [upd_apply, mu, ku, u2, u3, a2])
      · exact FL.nil' _ _
      · simp [lenMax]
        omega
      · simpa [lenMax] using hrg.1
      · exact (by simp [eff0])
      · intro r hr
        simp only [upd_apply]
        repeat rw [if_neg (by omega)]
        exact old r hr
    simp [h]
    refine CondP.dec (fun h => ?_) (fun h => ?_)
    · have hk : args.length = 1 := by rw [et, ← ht, h]; simp [tkF, isOne]
      obtain ⟨x, hx⟩ : ∃ x, args = [x] := List.length_eq_one_iff.1 hk
      have q0 : (ints args)[0]? = some [.int .i64 x] := by rw [hx]; rfl
      have hk0 : 0 < args.length := by omega
      have ax : args[0]'hk0 = x := (List.getElem_of_eq hx hk0).trans rfl
      have hp : ptF op = 0 := by rw [h]; simp [ptF]
      rw [hp] at hp16
      have es : stepG ⟨m, m[j], op, a, self, now, box⟩ ⟨⟨j, IntKind.i64.wrap ((i : Int) + 1), st ++ args, sr, sw, su⟩, { eff0 with taken := -1 }, 0⟩ = (⟨j, IntKind.i64.wrap (IntKind.i64.wrap ((i : Int) + 1) - 1), st, sr, sw, su⟩, { eff0 with kind := 5, reason := (1, x), taken := -1 }, 0) := by
        rw [h, hx]
        simp [stepG, isTwo, deedOf, deedL, workF, stepEnd, Wx.pop, Wx.top, Wx.exits, Wx.stays, eff0]
      rw [es]
      simp [aload, afield, apart, upd_apply, b5, k5, m5, aindex, afillP, astore, abuild, aplace, hk0, ax, h]
      refine drawK.intro mixed [(0, []), (1, []), (2, [1]), (3, []), (4, [])] (by kernel_rfl) ?_
      simp [aload, apart, upd_apply, r0, r6, m0, m2, m3, astore, lk_some, chkK, b2, b3, k2, k3]
      refine resK.rt ?_
      refine fin15 (n' := 0) (s := ⟨j, IntKind.i64.wrap (IntKind.i64.wrap ((i : Int) + 1) - 1), st, sr, sw, su⟩) (e := { eff0 with kind := 5, reason := (1, x), taken := -1 }) (err := 0) ?_ ?_ ?_ ?_ ?_ ?_ ?_
      · exact Or.inr (Or.inr ⟨q, 0, [], args, by omega, rfl, rfl, by simp [upd_apply, mq, kq, r8, r9, a1]⟩)
      · exact FL.own (by omega) rfl (by simp [upd_apply, mu, ku, u2, u3, a2])
      · exact FL.nil' _ _
      · simp [lenMax]
        omega
      · simpa [lenMax] using hrg.1
      · exact (by simp [eff0])
      · intro r hr
        simp only [upd_apply]
        repeat rw [if_neg (by omega)]
        exact old r hr
    simp [h]
    refine CondP.dec (fun h => ?_) (fun h => ?_)
    · have hk : args.length = 0 := by rw [et, ← ht, h]; simp [tkF, isOne, isBin]
      have hx : args = [] := List.length_eq_zero_iff.1 hk
      have hp : ptF op = 1 := by rw [h]; simp [ptF]
      rw [hp] at hp16
      have n16 : ¬ 16 ≤ st.length := by omega
      have g3 : (st.length + 1) * 8 ≤ 140737488355328 := by omega
      have g4 : st.length ≤ 17592186044415 := by omega
      have es : stepG ⟨m, m[j], op, a, self, now, box⟩ ⟨⟨j, IntKind.i64.wrap ((i : Int) + 1), st ++ args, sr, sw, su⟩, { eff0 with taken := -1 }, 0⟩ = (⟨j, IntKind.i64.wrap ((i : Int) + 1), st ++ [a], sr, sw, su⟩, { eff0 with taken := -1 }, 0) := by
        rw [h, hx]
        simp [stepG, isTwo, deedOf, deedL, workF, stepEnd, Wx.push, eff0, n16]
      rw [es]
      simp [aload, afield, apart, upd_apply, Nat.add_assoc, b5, k5, m5, mq, mq', kq, a1, abuildS, afillP, tek, chunk, appK, aappend, arows, lenMax, astore, s2, g3, g4]
      refine drawK.intro mixed [(0, []), (1, []), (2, [1]), (3, []), (4, [])] (by kernel_rfl) ?_
      simp [aload, apart, upd_apply, qk, mk, r0, r6, m0, m2, m3, astore, lk_some, chkK, b2, b3, k2, k3, q2, q3]
      refine resK.rt ?_
      refine fin15 (n' := 0) (s := ⟨j, IntKind.i64.wrap ((i : Int) + 1), st ++ [a], sr, sw, su⟩) (e := { eff0 with taken := -1 }) (err := 0) ?_ ?_ ?_ ?_ ?_ ?_ ?_
      · exact FL.own (r := n1 + 4) (by omega) (by simp) (by simp [upd_apply, ints, r2, r3])
      · exact FL.own (by omega) rfl (by simp [upd_apply, mu, ku, uq, u2, u3, a2])
      · exact FL.nil' _ _
      · simp [lenMax]
        omega
      · simpa [lenMax] using hrg.1
      · exact (by simp [eff0])
      · intro r hr
        simp only [upd_apply]
        repeat rw [if_neg (by omega)]
        exact old r hr
    simp [h]
    refine CondP.dec (fun h => ?_) (fun h => ?_)
    · have hk : args.length = 0 := by rw [et, ← ht, h]; simp [tkF, isOne, isBin]
      have hx : args = [] := List.length_eq_zero_iff.1 hk
      have hp : ptF op = 1 := by rw [h]; simp [ptF]
      rw [hp] at hp16
      have n16 : ¬ 16 ≤ st.length := by omega
      have g3 : (st.length + 1) * 8 ≤ 140737488355328 := by omega
      have g4 : st.length ≤ 17592186044415 := by omega
      have es : stepG ⟨m, m[j], op, a, self, now, box⟩ ⟨⟨j, IntKind.i64.wrap ((i : Int) + 1), st ++ args, sr, sw, su⟩, { eff0 with taken := -1 }, 0⟩ = (⟨j, IntKind.i64.wrap ((i : Int) + 1), st ++ [1], sr, sw, su⟩, { eff0 with taken := -1 }, 0) := by
        rw [h, hx]
        simp [stepG, isTwo, deedOf, deedL, workF, stepEnd, Wx.push, eff0, n16]
      rw [es]
      simp [aload, afield, apart, upd_apply, Nat.add_assoc, mq, mq', kq, a1, abuildS, afillP, tek, chunk, appK, aappend, arows, lenMax, astore, s2, g3, g4]
      refine drawK.intro mixed [(0, []), (1, []), (2, [1]), (3, []), (4, [])] (by kernel_rfl) ?_
      simp [aload, apart, upd_apply, qk, mk, r0, r6, m0, m2, m3, astore, lk_some, chkK, b2, b3, k2, k3, q2, q3]
      refine resK.rt ?_
      refine fin15 (n' := 0) (s := ⟨j, IntKind.i64.wrap ((i : Int) + 1), st ++ [1], sr, sw, su⟩) (e := { eff0 with taken := -1 }) (err := 0) ?_ ?_ ?_ ?_ ?_ ?_ ?_
      · exact FL.own (r := n1 + 4) (by omega) (by simp) (by simp [upd_apply, ints, r2, r3])
      · exact FL.own (by omega) rfl (by simp [upd_apply, mu, ku, uq, u2, u3, a2])
      · exact FL.nil' _ _
      · simp [lenMax]
        omega
      · simpa [lenMax] using hrg.1
      · exact (by simp [eff0])
      · intro r hr
        simp only [upd_apply]
        repeat rw [if_neg (by omega)]
        exact old r hr
    simp [h]
    refine CondP.dec (fun h => ?_) (fun h => ?_)
    · have hk : args.length = 0 := by rw [et, ← ht, h]; simp [tkF, isOne, isBin]
      have hx : args = [] := List.length_eq_zero_iff.1 hk
      have hp : ptF op = 1 := by rw [h]; simp [ptF]
      rw [hp] at hp16
      have n16 : ¬ 16 ≤ st.length := by omega
      have g3 : (st.length + 1) * 8 ≤ 140737488355328 := by omega
      have g4 : st.length ≤ 17592186044415 := by omega
      have es : stepG ⟨m, m[j], op, a, self, now, box⟩ ⟨⟨j, IntKind.i64.wrap ((i : Int) + 1), st ++ args, sr, sw, su⟩, { eff0 with taken := -1 }, 0⟩ = (⟨j, IntKind.i64.wrap ((i : Int) + 1), st ++ [0], sr, sw, su⟩, { eff0 with taken := -1 }, 0) := by
        rw [h, hx]
        simp [stepG, isTwo, deedOf, deedL, workF, stepEnd, Wx.push, eff0, n16]
      rw [es]
      simp [aload, afield, apart, upd_apply, Nat.add_assoc, mq, mq', kq, a1, abuildS, afillP, tek, chunk, appK, aappend, arows, lenMax, astore, s2, g3, g4]
      refine drawK.intro mixed [(0, []), (1, []), (2, [1]), (3, []), (4, [])] (by kernel_rfl) ?_
      simp [aload, apart, upd_apply, qk, mk, r0, r6, m0, m2, m3, astore, lk_some, chkK, b2, b3, k2, k3, q2, q3]
      refine resK.rt ?_
      refine fin15 (n' := 0) (s := ⟨j, IntKind.i64.wrap ((i : Int) + 1), st ++ [0], sr, sw, su⟩) (e := { eff0 with taken := -1 }) (err := 0) ?_ ?_ ?_ ?_ ?_ ?_ ?_
      · exact FL.own (r := n1 + 4) (by omega) (by simp) (by simp [upd_apply, ints, r2, r3])
      · exact FL.own (by omega) rfl (by simp [upd_apply, mu, ku, uq, u2, u3, a2])
      · exact FL.nil' _ _
      · simp [lenMax]
        omega
      · simpa [lenMax] using hrg.1
      · exact (by simp [eff0])
      · intro r hr
        simp only [upd_apply]
        repeat rw [if_neg (by omega)]
        exact old r hr
    simp [h, hn4, hn5]
    refine CondP.dec (fun h => ?_) (fun h => ?_)
    · have hk : args.length = 1 := by rw [et, ← ht, h]; simp [tkF, isOne]
      obtain ⟨x, hx⟩ : ∃ x, args = [x] := List.length_eq_one_iff.1 hk
      have q0 : (ints args)[0]? = some [.int .i64 x] := by rw [hx]; rfl
      have hk0 : 0 < args.length := by omega
      have ax : args[0]'hk0 = x := (List.getElem_of_eq hx hk0).trans rfl
      have hp : ptF op = 1 := by rw [h]; simp [ptF]
      rw [hp] at hp16
      have n16 : ¬ 16 ≤ st.length := by omega
      have g3 : (st.length + 1) * 8 ≤ 140737488355328 := by omega
      have g4 : st.length ≤ 17592186044415 := by omega
      have es : stepG ⟨m, m[j], op, a, self, now, box⟩ ⟨⟨j, IntKind.i64.wrap ((i : Int) + 1), st ++ args, sr, sw, su⟩, { eff0 with taken := -1 }, 0⟩ = (⟨j, IntKind.i64.wrap ((i : Int) + 1), st ++ [truthF (decide (x = 0))], sr, sw, su⟩, { eff0 with taken := -1 }, 0) := by
        rw [h, hx]
        simp [stepG, isTwo, deedOf, deedL, workF, stepEnd, Wx.push, Wx.pop, Wx.top, eff0, n16, truthF]
      rw [es]
      simp
      refine drawK.intro mixed [(0, []), (1, []), (2, []), (3, []), (4, []), (5, []), (6, [1]), (7, [1]), (8, []), (9, []), (10, [])] (by kernel_rfl) ?_
      simp [aload, afield, apart, upd_apply, aindex, lk_some, chkK, hk0, ax]
      refine ACK.rt (truth03_ac _ _ _) ?_
      simp [afield, upd_apply, Nat.add_assoc, mq, mq', kq, a1, abuildS, afillP, tek, chunk, appK, aappend, arows, lenMax, astore, s2, lk_some, chkK, hk0, ax, g3, g4]
      refine drawK.intro mixed [(0, []), (1, []), (2, [1]), (3, []), (4, [])] (by kernel_rfl) ?_
      simp [aload, apart, upd_apply, qk, mk, r0, r6, m0, m2, m3, astore, lk_some, chkK, b2, b3, k2, k3, q2, q3]
      refine resK.rt ?_
      refine fin15 (n' := 0) (s := ⟨j, IntKind.i64.wrap ((i : Int) + 1), st ++ [truthF (decide (x = 0))], sr, sw, su⟩) (e := { eff0 with taken := -1 }) (err := 0) ?_ ?_ ?_ ?_ ?_ ?_ ?_
      · exact FL.own (r := n1 + 4) (by omega) (by simp) (by simp [upd_apply, ints, r2, r3])
      · exact FL.own (by omega) rfl (by simp [upd_apply, mu, ku, uq, u2, u3, a2])
      · exact FL.nil' _ _
      · simp [lenMax]
        omega
      · simpa [lenMax] using hrg.1
      · exact (by simp [eff0])
      · intro r hr
        simp only [upd_apply]
        repeat rw [if_neg (by omega)]
        exact old r hr
    simp [h]
    refine CondP.dec (fun h => ?_) (fun h => ?_)
    · have hk : args.length = 0 := by rw [et, ← ht, h]; simp [tkF, isOne, isBin]
      have hx : args = [] := List.length_eq_zero_iff.1 hk
      have hp : ptF op = 0 := by rw [h]; simp [ptF]
      rw [hp] at hp16
      have es : stepG ⟨m, m[j], op, a, self, now, box⟩ ⟨⟨j, IntKind.i64.wrap ((i : Int) + 1), st ++ args, sr, sw, su⟩, { eff0 with taken := -1 }, 0⟩ = (⟨j, a, st, sr, sw, su⟩, { eff0 with taken := -1 }, 0) := by
        rw [h, hx]
        simp [stepG, isTwo, deedOf, deedL, workF, stepEnd, Wx.setpc, eff0]
      rw [es]
      simp [aload, afield, apart, upd_apply, b5, k5, m5, astore, upd_upd]
      refine drawK.intro mixed [(0, []), (1, []), (2, [1]), (3, []), (4, [])] (by kernel_rfl) ?_
      simp [aload, apart, upd_apply, r0, r6, m0, m2, m3, astore, lk_some, chkK, b2, b3, k2, k3]
      refine resK.rt ?_
      refine fin15 (n' := 0) (s := ⟨j, a, st, sr, sw, su⟩) (e := { eff0 with taken := -1 }) (err := 0) ?_ ?_ ?_ ?_ ?_ ?_ ?_
      · exact Or.inr (Or.inr ⟨q, 0, [], args, by omega, rfl, rfl, by simp [upd_apply, mq, kq, r8, r9, a1]⟩)
      · exact FL.own (by omega) rfl (by simp [upd_apply, mu, ku, u2, u3, a2])
      · exact FL.nil' _ _
      · simp [lenMax]
        omega
      · simpa [lenMax] using hrg.1
      · exact (by simp [eff0])
      · intro r hr
        simp only [upd_apply]
        repeat rw [if_neg (by omega)]
        exact old r hr
    simp [h]
    refine CondP.dec (fun h => ?_) (fun h => ?_)
    · have hk : args.length = 1 := by rw [et, ← ht, h]; simp [tkF, isOne]
      obtain ⟨x, hx⟩ : ∃ x, args = [x] := List.length_eq_one_iff.1 hk
      have q0 : (ints args)[0]? = some [.int .i64 x] := by rw [hx]; rfl
      have hk0 : 0 < args.length := by omega
      have ax : args[0]'hk0 = x := (List.getElem_of_eq hx hk0).trans rfl
      have hp : ptF op = 0 := by rw [h]; simp [ptF]
      rw [hp] at hp16
      have es : stepG ⟨m, m[j], op, a, self, now, box⟩ ⟨⟨j, IntKind.i64.wrap ((i : Int) + 1), st ++ args, sr, sw, su⟩, { eff0 with taken := -1 }, 0⟩ = (⟨j, (if x = 0 then a else IntKind.i64.wrap ((i : Int) + 1)), st, sr, sw, su⟩, { eff0 with taken := -1 }, 0) := by
        rw [h, hx]
        by_cases hx0 : x = 0 <;> simp [stepG, isTwo, deedOf, deedL, workF, stepEnd, Wx.pop, Wx.top, Wx.setpc, Wx.unl, eff0, hx0]
      rw [es]
      simp [aload, apart, upd_apply, aindex, hk0, ax]
      refine CondP.dec (fun h2 => ?_) (fun h2 => ?_)
      · rw [if_pos h2]
        simp [aload, afield, apart, upd_apply, b5, k5, m5, astore, upd_upd]
        refine drawK.intro mixed [(0, []), (1, []), (2, [1]), (3, []), (4, [])] (by kernel_rfl) ?_
        simp [aload, apart, upd_apply, r0, r6, m0, m2, m3, astore, lk_some, chkK, b2, b3, k2, k3]
        refine resK.rt ?_
        refine fin15 (n' := 0) (s := ⟨j, a, st, sr, sw, su⟩) (e := { eff0 with taken := -1 }) (err := 0) ?_ ?_ ?_ ?_ ?_ ?_ ?_
        · exact Or.inr (Or.inr ⟨q, 0, [], args, by omega, rfl, rfl, by simp [upd_apply, mq, kq, r8, r9, a1]⟩)
        · exact FL.own (by omega) rfl (by simp [upd_apply, mu, ku, u2, u3, a2])
        · exact FL.nil' _ _
        · simp [lenMax]
          omega
        · simpa [lenMax] using hrg.1
        · exact (by simp [eff0])
        · intro r hr
          simp only [upd_apply]
          repeat rw [if_neg (by omega)]
          exact old r hr
      · rw [if_neg h2]
        simp
        refine drawK.intro mixed [(0, []), (1, []), (2, [1]), (3, []), (4, [])] (by kernel_rfl) ?_
        simp [aload, apart, upd_apply, r0, r6, m0, m2, m3, astore, lk_some, chkK, b2, b3, k2, k3]
        refine resK.rt ?_
        refine fin15 (n' := 0) (s := ⟨j, IntKind.i64.wrap ((i : Int) + 1), st, sr, sw, su⟩) (e := { eff0 with taken := -1 }) (err := 0) ?_ ?_ ?_ ?_ ?_ ?_ ?_
        · exact Or.inr (Or.inr ⟨q, 0, [], args, by omega, rfl, rfl, by simp [upd_apply, mq, kq, r8, r9, a1]⟩)
        · exact FL.own (by omega) rfl (by simp [upd_apply, mu, ku, u2, u3, a2])
        · exact FL.nil' _ _
        · simp [lenMax]
          omega
        · simpa [lenMax] using hrg.1
        · exact (by simp [eff0])
        · intro r hr
          simp only [upd_apply]
          repeat rw [if_neg (by omega)]
          exact old r hr
    simp [h]
    refine CondP.dec (fun h => ?_) (fun h => ?_)
    · have hk : args.length = 0 := by rw [et, ← ht, h]; simp [tkF, isOne, isBin]
      have hx : args = [] := List.length_eq_zero_iff.1 hk
      have hp : ptF op = 1 := by rw [h]; simp [ptF]
      rw [hp] at hp16
      have n16 : ¬ 16 ≤ st.length := by omega
      have g3 : (st.length + 1) * 8 ≤ 140737488355328 := by omega
      have g4 : st.length ≤ 17592186044415 := by omega
      have es : stepG ⟨m, m[j], op, a, self, now, box⟩ ⟨⟨j, IntKind.i64.wrap ((i : Int) + 1), st ++ args, sr, sw, su⟩, { eff0 with taken := -1 }, 0⟩ = (⟨j, IntKind.i64.wrap ((i : Int) + 1), st ++ [self], sr, sw, su⟩, { eff0 with taken := -1 }, 0) := by
        rw [h, hx]
        simp [stepG, isTwo, deedOf, deedL, workF, stepEnd, Wx.push, eff0, n16]
      rw [es]
      simp [aload, afield, apart, upd_apply, Nat.add_assoc, mq, mq', kq, a1, abuildS, afillP, tek, chunk, appK, aappend, arows, lenMax, astore, s2, g3, g4]
      refine drawK.intro mixed [(0, []), (1, []), (2, [1]), (3, []), (4, [])] (by kernel_rfl) ?_
      simp [aload, apart, upd_apply, qk, mk, r0, r6, m0, m2, m3, astore, lk_some, chkK, b2, b3, k2, k3, q2, q3]
      refine resK.rt ?_
      refine fin15 (n' := 0) (s := ⟨j, IntKind.i64.wrap ((i : Int) + 1), st ++ [self], sr, sw, su⟩) (e := { eff0 with taken := -1 }) (err := 0) ?_ ?_ ?_ ?_ ?_ ?_ ?_
      · exact FL.own (r := n1 + 4) (by omega) (by simp) (by simp [upd_apply, ints, r2, r3])
      · exact FL.own (by omega) rfl (by simp [upd_apply, mu, ku, uq, u2, u3, a2])
      · exact FL.nil' _ _
      · simp [lenMax]
        omega
      · simpa [lenMax] using hrg.1
      · exact (by simp [eff0])
      · intro r hr
        simp only [upd_apply]
        repeat rw [if_neg (by omega)]
        exact old r hr
    simp [h, hn19]
    refine CondP.dec (fun h => ?_) (fun h => ?_)
    · have hk : args.length = 2 := by rw [et, ← ht, h]; simp [tkF, isOne, isBin]
      obtain ⟨x, y, hx⟩ : ∃ x y, args = [x, y] := len2 hk
      have q0 : (ints args)[0]? = some [.int .i64 x] := by rw [hx]; rfl
      have q0' : (ints args)[1]? = some [.int .i64 y] := by rw [hx]; rfl
      have hk0 : 0 < args.length := by omega
      have hk1 : 1 < args.length := by omega
      have hk1' : (1 : Int) < (args.length : Int) := by omega
      have ax : args[0]'hk0 = x := (List.getElem_of_eq hx hk0).trans rfl
      have ay : args[1]'hk1 = y := (List.getElem_of_eq hx hk1).trans rfl
      have hp : ptF op = 0 := by rw [h]; simp [ptF]
      rw [hp] at hp16
      have es : stepG ⟨m, m[j], op, a, self, now, box⟩ ⟨⟨j, IntKind.i64.wrap ((i : Int) + 1), st ++ args, sr, sw, su⟩, { eff0 with taken := -1 }, 0⟩ = (⟨j, IntKind.i64.wrap ((i : Int) + 1), st, sr, sw, su⟩, { eff0 with kind := 2, dest := x, msg := (a, y), taken := -1 }, 0) := by
        rw [h, hx]
        simp [stepG, isTwo, deedOf, deedL, workF, stepEnd, Wx.pop, Wx.top, Wx.send, eff0]
      rw [es]
      simp [aload, afield, apart, upd_apply, aindex, astore, upd_upd, hk0, ax]
      refine drawK.intro mixed [(0, []), (1, []), (2, []), (3, []), (4, []), (5, []), (6, []), (7, [])] (by kernel_rfl) ?_
      simp [aload, afield, apart, upd_apply, b5, k5, m5, aindex, afillP, astore, upd_upd, abuild, aplace, hk1, hk1', ay]
      refine drawK.intro mixed [(0, []), (1, []), (2, [1]), (3, []), (4, [])] (by kernel_rfl) ?_
      simp [aload, apart, upd_apply, r0, r6, m0, m2, m3, astore, lk_some, chkK, b2, b3, k2, k3]
      refine resK.rt ?_
      refine fin15 (n' := 0) (s := ⟨j, IntKind.i64.wrap ((i : Int) + 1), st, sr, sw, su⟩) (e := { eff0 with kind := 2, dest := x, msg := (a, y), taken := -1 }) (err := 0) ?_ ?_ ?_ ?_ ?_ ?_ ?_
      · exact Or.inr (Or.inr ⟨q, 0, [], args, by omega, rfl, rfl, by simp [upd_apply, mq, kq, r8, r9, a1]⟩)
      · exact FL.own (by omega) rfl (by simp [upd_apply, mu, ku, u2, u3, a2])
      · exact FL.nil' _ _
      · simp [lenMax]
        omega
      · simpa [lenMax] using hrg.1
      · exact (by simp [eff0])
      · intro r hr
        simp only [upd_apply]
        repeat rw [if_neg (by omega)]
        exact old r hr
    simp [h, hn21]
    refine CondP.dec (fun h => ?_) (fun h => ?_)
    · have hk : args.length = 1 := by rw [et, ← ht, h]; simp [tkF, isOne]
      obtain ⟨x, hx⟩ : ∃ x, args = [x] := List.length_eq_one_iff.1 hk
      have q0 : (ints args)[0]? = some [.int .i64 x] := by rw [hx]; rfl
      have hk0 : 0 < args.length := by omega
      have ax : args[0]'hk0 = x := (List.getElem_of_eq hx hk0).trans rfl
      have hp : ptF op = 0 := by rw [h]; simp [ptF]
      rw [hp] at hp16
      have es : stepG ⟨m, m[j], op, a, self, now, box⟩ ⟨⟨j, IntKind.i64.wrap ((i : Int) + 1), st ++ args, sr, sw, su⟩, { eff0 with taken := -1 }, 0⟩ = (⟨j, IntKind.i64.wrap ((i : Int) + 1), st, sr, sw, su⟩, { eff0 with kind := 4, dest := x, taken := -1 }, 0) := by
        rw [h, hx]
        simp [stepG, isTwo, deedOf, deedL, workF, stepEnd, Wx.pop, Wx.top, Wx.link, eff0]
      rw [es]
      simp [aload, afield, apart, upd_apply, aindex, astore, upd_upd, hk0, ax]
      refine drawK.intro mixed [(0, []), (1, []), (2, [1]), (3, []), (4, [])] (by kernel_rfl) ?_
      simp [aload, apart, upd_apply, r0, r6, m0, m2, m3, astore, lk_some, chkK, b2, b3, k2, k3]
      refine resK.rt ?_
      refine fin15 (n' := 0) (s := ⟨j, IntKind.i64.wrap ((i : Int) + 1), st, sr, sw, su⟩) (e := { eff0 with kind := 4, dest := x, taken := -1 }) (err := 0) ?_ ?_ ?_ ?_ ?_ ?_ ?_
      · exact Or.inr (Or.inr ⟨q, 0, [], args, by omega, rfl, rfl, by simp [upd_apply, mq, kq, r8, r9, a1]⟩)
      · exact FL.own (by omega) rfl (by simp [upd_apply, mu, ku, u2, u3, a2])
      · exact FL.nil' _ _
      · simp [lenMax]
        omega
      · simpa [lenMax] using hrg.1
      · exact (by simp [eff0])
      · intro r hr
        simp only [upd_apply]
        repeat rw [if_neg (by omega)]
        exact old r hr
    simp [h]
    refine CondP.dec (fun h => ?_) (fun h => ?_)
    · have hk : args.length = 1 := by rw [et, ← ht, h]; simp [tkF, isOne]
      obtain ⟨x, hx⟩ : ∃ x, args = [x] := List.length_eq_one_iff.1 hk
      have q0 : (ints args)[0]? = some [.int .i64 x] := by rw [hx]; rfl
      have hk0 : 0 < args.length := by omega
      have ax : args[0]'hk0 = x := (List.getElem_of_eq hx hk0).trans rfl
      have hp : ptF op = 0 := by rw [h]; simp [ptF]
      rw [hp] at hp16
      have es : stepG ⟨m, m[j], op, a, self, now, box⟩ ⟨⟨j, IntKind.i64.wrap ((i : Int) + 1), st ++ args, sr, sw, su⟩, { eff0 with taken := -1 }, 0⟩ = (⟨j, IntKind.i64.wrap ((i : Int) + 1), st, sr, sw, su⟩, { eff0 with kind := 1, n := x, taken := -1 }, 0) := by
        rw [h, hx]
        simp [stepG, isTwo, deedOf, deedL, workF, stepEnd, Wx.pop, Wx.top, Wx.out, eff0]
      rw [es]
      simp [aload, afield, apart, upd_apply, aindex, astore, upd_upd, hk0, ax]
      refine drawK.intro mixed [(0, []), (1, []), (2, [1]), (3, []), (4, [])] (by kernel_rfl) ?_
      simp [aload, apart, upd_apply, r0, r6, m0, m2, m3, astore, lk_some, chkK, b2, b3, k2, k3]
      refine resK.rt ?_
      refine fin15 (n' := 0) (s := ⟨j, IntKind.i64.wrap ((i : Int) + 1), st, sr, sw, su⟩) (e := { eff0 with kind := 1, n := x, taken := -1 }) (err := 0) ?_ ?_ ?_ ?_ ?_ ?_ ?_
      · exact Or.inr (Or.inr ⟨q, 0, [], args, by omega, rfl, rfl, by simp [upd_apply, mq, kq, r8, r9, a1]⟩)
      · exact FL.own (by omega) rfl (by simp [upd_apply, mu, ku, u2, u3, a2])
      · exact FL.nil' _ _
      · simp [lenMax]
        omega
      · simpa [lenMax] using hrg.1
      · exact (by simp [eff0])
      · intro r hr
        simp only [upd_apply]
        repeat rw [if_neg (by omega)]
        exact old r hr
    simp [h]
    refine CondP.dec (fun h => ?_) (fun h => ?_)
    · have hk : args.length = 1 := by rw [et, ← ht, h]; simp [tkF, isOne]
      obtain ⟨x, hx⟩ : ∃ x, args = [x] := List.length_eq_one_iff.1 hk
      have q0 : (ints args)[0]? = some [.int .i64 x] := by rw [hx]; rfl
      have hk0 : 0 < args.length := by omega
      have ax : args[0]'hk0 = x := (List.getElem_of_eq hx hk0).trans rfl
      have hp : ptF op = 0 := by rw [h]; simp [ptF]
      rw [hp] at hp16
      have es : stepG ⟨m, m[j], op, a, self, now, box⟩ ⟨⟨j, IntKind.i64.wrap ((i : Int) + 1), st ++ args, sr, sw, su⟩, { eff0 with taken := -1 }, 0⟩ = (⟨j, IntKind.i64.wrap ((i : Int) + 1), st, sr, sw, su⟩, { eff0 with taken := -1 }, 0) := by
        rw [h, hx]
        simp [stepG, isTwo, deedOf, deedL, workF, stepEnd, Wx.pop, eff0]
      rw [es]
      simp
      refine drawK.intro mixed [(0, []), (1, []), (2, [1]), (3, []), (4, [])] (by kernel_rfl) ?_
      simp [aload, apart, upd_apply, r0, r6, m0, m2, m3, astore, lk_some, chkK, b2, b3, k2, k3]
      refine resK.rt ?_
      refine fin15 (n' := 0) (s := ⟨j, IntKind.i64.wrap ((i : Int) + 1), st, sr, sw, su⟩) (e := { eff0 with taken := -1 }) (err := 0) ?_ ?_ ?_ ?_ ?_ ?_ ?_
      · exact Or.inr (Or.inr ⟨q, 0, [], args, by omega, rfl, rfl, by simp [upd_apply, mq, kq, r8, r9, a1]⟩)
      · exact FL.own (by omega) rfl (by simp [upd_apply, mu, ku, u2, u3, a2])
      · exact FL.nil' _ _
      · simp [lenMax]
        omega
      · simpa [lenMax] using hrg.1
      · exact (by simp [eff0])
      · intro r hr
        simp only [upd_apply]
        repeat rw [if_neg (by omega)]
        exact old r hr
    simp [h]
    refine CondP.dec (fun h => ?_) (fun h => ?_)
    · have hk : args.length = 1 := by rw [et, ← ht, h]; simp [tkF, isOne]
      obtain ⟨x, hx⟩ : ∃ x, args = [x] := List.length_eq_one_iff.1 hk
      have q0 : (ints args)[0]? = some [.int .i64 x] := by rw [hx]; rfl
      have hk0 : 0 < args.length := by omega
      have ax : args[0]'hk0 = x := (List.getElem_of_eq hx hk0).trans rfl
      have hp : ptF op = 2 := by rw [h]; simp [ptF]
      rw [hp] at hp16
      have n16 : ¬ 16 ≤ st.length := by omega
      have g3 : (st.length + 2) * 8 ≤ 140737488355328 := by omega
      have g4 : st.length ≤ 17592186044414 := by omega
      have es : stepG ⟨m, m[j], op, a, self, now, box⟩ ⟨⟨j, IntKind.i64.wrap ((i : Int) + 1), st ++ args, sr, sw, su⟩, { eff0 with taken := -1 }, 0⟩ = (⟨j, IntKind.i64.wrap ((i : Int) + 1), st ++ [x, x], sr, sw, su⟩, { eff0 with taken := -1 }, 0) := by
        rw [h, hx]
        simp [stepG, isTwo, deedOf, deedL, workF, stepEnd, Wx.push, Wx.pop, Wx.top, eff0, n16, show ¬ 16 ≤ st.length + 1 by omega]
      rw [es]
      simp
      refine drawK.intro mixed [(0, []), (1, []), (2, []), (3, []), (4, []), (5, []), (6, []), (7, []), (8, [1]), (9, []), (10, []), (11, [])] (by kernel_rfl) ?_
      simp [aload, afield, apart, upd_apply, Nat.add_assoc, mq, mq', kq, a1, aindex, abuildS, afillP, tek, chunk, appK, aappend, arows, lenMax, astore, s2, lk_some, chkK, hk0, ax, g3, g4]
      refine drawK.intro mixed [(0, []), (1, []), (2, [1]), (3, []), (4, [])] (by kernel_rfl) ?_
      simp [aload, apart, upd_apply, qk, mk, r0, r6, m0, m2, m3, astore, lk_some, chkK, b2, b3, k2, k3, q2, q3]
      refine resK.rt ?_
      refine fin15 (n' := 0) (s := ⟨j, IntKind.i64.wrap ((i : Int) + 1), st ++ [x, x], sr, sw, su⟩) (e := { eff0 with taken := -1 }) (err := 0) ?_ ?_ ?_ ?_ ?_ ?_ ?_
      · exact FL.own (r := n1 + 4) (by omega) (by simp) (by simp [upd_apply, ints, r2, r3])
      · exact FL.own (by omega) rfl (by simp [upd_apply, mu, ku, uq, u2, u3, a2])
      · exact FL.nil' _ _
      · simp [lenMax]
        omega
      · simpa [lenMax] using hrg.1
      · exact (by simp [eff0])
      · intro r hr
        simp only [upd_apply]
        repeat rw [if_neg (by omega)]
        exact old r hr
    simp [h]
    have h2 : isTwo op := by unfold isTwo; omega
    have hk : args.length = 2 := by
      rw [et, ← ht]; unfold tkF
      rw [if_neg (by simp only [isOne]; omega), if_pos (by simp only [isBin]; omega)]
    obtain ⟨x, y, hx⟩ : ∃ x y, args = [x, y] := len2 hk
    have q0 : (ints args)[0]? = some [.int .i64 x] := by rw [hx]; rfl
    have q0' : (ints args)[1]? = some [.int .i64 y] := by rw [hx]; rfl
    have hk0 : 0 < args.length := by omega
    have hk1 : 1 < args.length := by omega
    have hk1' : (1 : Int) < (args.length : Int) := by omega
    have ax : args[0]'hk0 = x := (List.getElem_of_eq hx hk0).trans rfl
    have ay : args[1]'hk1 = y := (List.getElem_of_eq hx hk1).trans rfl
    have x64 : I64 x := hst.2 x (by rw [hx]; simp)
    have y64 : I64 y := hst.2 y (by rw [hx]; simp)
    have ntw : (twoF op x y).2 = 0 ∨ (twoF op x y).2 = 15 := two_err' h2 x y
    refine drawK.intro mixed [(0, []), (1, []), (2, []), (3, []), (4, []), (5, []), (6, []), (7, []), (8, []), (9, []), (10, []), (11, []), (12, []), (13, [])] (by kernel_rfl) ?_
    simp [aload, afield, apart, upd_apply, b5, k5, m5, aindex, hk0, hk1, hk1', ax, ay]
    refine ACK.rt (two03_ac op x y _ _ x64 y64 h2) ?_
    simp
    have n16 : ¬ 16 ≤ st.length := by omega
    have g3 : (st.length + 1) * 8 ≤ 140737488355328 := by omega
    have g4 : st.length ≤ 17592186044415 := by omega
    by_cases he : (twoF op x y).2 = 0
    · have es : stepG ⟨m, m[j], op, a, self, now, box⟩ ⟨⟨j, IntKind.i64.wrap ((i : Int) + 1), st ++ args, sr, sw, su⟩, { eff0 with taken := -1 }, 0⟩ = (⟨j, IntKind.i64.wrap ((i : Int) + 1), st ++ [(twoF op x y).1], sr, sw, su⟩, { eff0 with taken := -1 }, 0) := by
        rw [hx]
        unfold stepG
        rw [if_pos h2]
        simp [Wx.two, Wx.pop, Wx.top, Wx.push, stepEnd, he, n16]
      rw [es]
      simp [he, aload, afield, apart, upd_apply, Nat.add_assoc, mq, mq', kq, a1, abuildS, afillP, tek, chunk, appK, aappend, arows, lenMax, astore, s2, g3, g4]
      refine drawK.intro mixed [(0, []), (1, []), (2, [1]), (3, []), (4, [])] (by kernel_rfl) ?_
      simp [aload, apart, upd_apply, qk, mk, r0, r6, m0, m2, m3, astore, lk_some, chkK, b2, b3, k2, k3, q2, q3]
      refine resK.rt ?_
      refine fin15 (n' := 0) (s := ⟨j, IntKind.i64.wrap ((i : Int) + 1), st ++ [(twoF op x y).1], sr, sw, su⟩) (e := { eff0 with taken := -1 }) (err := 0) ?_ ?_ ?_ ?_ ?_ ?_ ?_
      · exact FL.own (r := n1 + 4) (by omega) (by simp) (by simp [upd_apply, ints, r2, r3])
      · exact FL.own (by omega) rfl (by simp [upd_apply, mu, ku, uq, u2, u3, a2])
      · exact FL.nil' _ _
      · simp [lenMax]
        omega
      · simpa [lenMax] using hrg.1
      · exact (by simp [eff0])
      · intro r hr
        simp only [upd_apply]
        repeat rw [if_neg (by omega)]
        exact old r hr
    · have he15 : (twoF op x y).2 = 15 := by omega
      have es : stepG ⟨m, m[j], op, a, self, now, box⟩ ⟨⟨j, IntKind.i64.wrap ((i : Int) + 1), st ++ args, sr, sw, su⟩, { eff0 with taken := -1 }, 0⟩ = (⟨j, i, st ++ args, sr, sw, su⟩, { eff0 with kind := 5, reason := (2, 0), taken := -1 }, 0) := by
        have hcl := hA64.code.1
        have w5 : IntKind.i64.wrap (IntKind.i64.wrap ((i : Int) + 1) - 1) = i := by rw [wrap_id (x := (i : Int) + 1) (by omega) (by omega), wrap_id (by omega) (by omega)]; omega
        rw [hx]
        unfold stepG
        rw [if_pos h2]
        simp [Wx.two, Wx.pop, Wx.top, stepEnd, he15, Wx.div0, Wx.stays, Wx.exits, w5, eff0]
      rw [es]
      simp [he15, aload, apart, upd_apply, mk, m0, m1, b1]
      refine ACK.use (hcp _ _).freshP ?_
      intro r η2 n2 ⟨⟨q', u', e1, d1, d2, d3, d4, d5, d6, d7, d8⟩, hf2⟩
      subst e1
      simp only at d1 d2
      have v2 := d8 (n + 2) (by omega)
      have v3 := d8 (n + 3) (by omega)
      simp [upd_apply, m2, m3, k2, k3, b2, b3, m0] at v2 v3
      have q'2 : ¬ q' = n + 2 := fun e => by rw [e, v2] at d1; cases d1
      have q'3 : ¬ q' = n + 3 := fun e => by rw [e, v3] at d1; cases d1
      have u'2 : ¬ u' = n + 2 := fun e => by rw [e, v2] at d2; cases d2
      have u'3 : ¬ u' = n + 3 := fun e => by rw [e, v3] at d2; cases d2
      simp [stA, aload, apart, upd_apply, afillP, astore, abuild, aplace, v2, v3]
      refine resK.rt ?_
      refine fin15 (n' := 0) (s := ⟨j, i, st ++ args, sr, sw, su⟩) (e := { eff0 with kind := 5, reason := (2, 0), taken := -1 }) (err := 0) ?_ ?_ ?_ ?_ ?_ ?_ ?_
      · exact FL.own (r := q') (by omega) (by simp) (by simp [upd_apply, q'2, q'3, d1])
      · exact FL.own (r := u') (by omega) rfl (by simp [upd_apply, u'2, u'3, d2])
      · exact FL.nil' _ _
      · simp [lenMax]
        omega
      · simpa [lenMax] using hrg.1
      · exact (by simp [eff0])
      · intro r hr
        rw [upd_ne (by omega), upd_ne (by omega), d8 r (by omega)]
        simp only [upd_apply]
        repeat rw [if_neg (by omega)]
        exact old r hr
  have ha0 : ¬ a < 0 := by omega
  have ha1 : ¬ cntF m m[j] op ≤ a := by omega
  have hop : op = 4 ∨ op = 5 ∨ op = 19 ∨ op = 21 := by
    unfold cntF at c0
    split at c0
    · omega
    · split at c0
      · omega
      · split at c0
        · omega
        · omega
  rcases hop with h | h | h | h
  · have hr0 := (hok m[j].regs.length (by rw [h]; simp [cntF]) (by omega)).1
    have hr1 : a < (sr.length : Int) := by have := (hok m[j].regs.length (by rw [h]; simp [cntF]) (by omega)).2; omega
    have hr3 : a.toNat < sr.length := by omega
    refine AC.fresh fun hf => ?_; refine AC.enter Try.func19 rfl Try.ntmps19 (by simp) ?_
    simp [aload, apart, upd_apply, Nat.add_assoc]
    refine ACK.rt (hsd _ _) ?_
    simp [aload, afield, apart, upd_apply, Nat.add_assoc, aindex, hj, hi, hI, actC, astore, upd_upd]
    refine ACK.rt (is04_ac _ _ _) ?_
    simp [c9, aload, afield, apart, upd_apply]
    refine ACK.rt (hct _ _) ?_
    simp [c0, ha0, ha1, aload, afield, apart, upd_apply]
    refine ACK.use (hcp _ _).freshP ?_
    intro r η1 n1 ⟨⟨q, u, e1, a1, a2, a3, a4, a5, a6, a7, a8⟩, hf1⟩
    subst e1
    simp only at a1 a2
    have b0 := a8 n (by omega)
    have b1 := a8 (n + 1) (by omega)
    have b2 := a8 (n + 2) (by omega)
    have b3 := a8 (n + 3) (by omega)
    have b4 := a8 (n + 4) (by omega)
    have b5 := a8 (n + 5) (by omega)
    simp [upd_apply] at b0 b1 b2 b3 b4 b5
    have old : ∀ r, r < n → η1 r = η r := fun r hr => by
      rw [a8 r (by omega)]
      simp only [upd_apply]
      repeat rw [if_neg (by omega)]
    have m0 : ¬ n = n1 := by omega
    have m1 : ¬ n + 1 = n1 := by omega
    have m2 : ¬ n + 2 = n1 := by omega
    have m3 : ¬ n + 3 = n1 := by omega
    have m4 : ¬ n + 4 = n1 := by omega
    have m5 : ¬ n + 5 = n1 := by omega
    have r0 : ¬ n1 = n := by omega
    have mk : ∀ k, ¬ n = n1 + k := fun k => by omega
    have r1 : ∀ k, ¬ n1 + k = n + 1 := fun k => by omega
    have r2 : ∀ k, ¬ n1 + k = n + 2 := fun k => by omega
    have r3 : ∀ k, ¬ n1 + k = n + 3 := fun k => by omega
    have r4 : ∀ k, ¬ n1 + k = n := fun k => by omega
    have r5 : ¬ n1 = n + 1 := by omega
    have r6 : ¬ n1 = n + 2 := by omega
    have r7 : ¬ n1 = n + 3 := by omega
    have r8 : ¬ q = n + 2 := by omega
    have r9 : ¬ q = n + 3 := by omega
    have u2 : ¬ u = n + 2 := by omega
    have u3 : ¬ u = n + 3 := by omega
    have u4 : ¬ n + 2 = u := by omega
    have u5 : ¬ n + 3 = u := by omega
    have u6 : ¬ n + 1 = u := by omega
    have u7 : ¬ n + 5 = u := by omega
    have uk : ∀ k, ¬ n1 + k = u := fun k => by omega
    have k1 : ∀ k, ¬ n + 1 = n1 + k := fun k => by omega
    have k2 : ∀ k, ¬ n + 2 = n1 + k := fun k => by omega
    have k3 : ∀ k, ¬ n + 3 = n1 + k := fun k => by omega
    have k4 : ∀ k, ¬ n + 4 = n1 + k := fun k => by omega
    have k5 : ∀ k, ¬ n + 5 = n1 + k := fun k => by omega
    have kq : ∀ k, ¬ q = n1 + k := fun k => by omega
    have ku : ∀ k, ¬ u = n1 + k := fun k => by omega
    have mq : ¬ q = n1 := by omega
    have mu : ¬ u = n1 := by omega
    have mq' : ¬ n1 = q := by omega
    have mu' : ¬ n1 = u := by omega
    have qn : n + 6 ≤ q := by omega
    have un : n + 6 ≤ u := by omega
    have q5 : ¬ n + 5 = q := by omega
    have q4 : ¬ n + 4 = q := by omega
    have q3 : ¬ n + 3 = q := by omega
    have q2 : ¬ n + 2 = q := by omega
    have q1 : ¬ n + 1 = q := by omega
    have qu : ¬ q = u := a5
    have uq : ¬ u = q := fun e => a5 e.symm
    have qk : ∀ k, ¬ n1 + k = q := fun k => by omega
    simp [stA, aload, apart, upd_apply, astore, upd_upd, b0, b5, m0, m5]
    refine ACK.rt (htk _ _ _ _ (IsL.own1 (by simp) (by rw [upd_ne mq]; exact a1)) (IsL.own1 rfl (by rw [upd_ne mu]; exact a2))) ?_
    simp
    refine drawK.intro mixed [(0, []), (1, []), (2, []), (3, []), (4, []), (5, []), (6, []), (7, []), (8, []), (9, []), (10, []), (11, []), (12, [7, 8]), (13, []), (14, []), (15, [])] (by kernel_rfl) ?_
    simp [aload, afield, apart, upd_apply, b5, m5, w4]
    refine ACK.rt (puts15_ac (op, a) _ _) ?_
    simp [lk_some, chkK, o1, o2, w1, w2, w3, aload, afield, apart, upd_apply, Nat.add_assoc, asliceV, abnd, a1, mq, s1, g1, g2, appK, aappend, arows, lenMax, astore, upd_upd, abuild, aplace, afillP, b5, k5, m5, kq]
    refine ⟨ints_sc, ?_⟩
    simp (maxSteps := 2000000) [h]
    have hk : args.length = 0 := by rw [et, ← ht, h]; simp [tkF, isOne, isBin]
    have hx : args = [] := List.length_eq_zero_iff.1 hk
    have hp : ptF op = 1 := by rw [h]; simp [ptF]
    rw [hp] at hp16
    have n16 : ¬ 16 ≤ st.length := by omega
    have g3 : (st.length + 1) * 8 ≤ 140737488355328 := by omega
    have g4 : st.length ≤ 17592186044415 := by omega
    have es : stepG ⟨m, m[j], op, a, self, now, box⟩ ⟨⟨j, IntKind.i64.wrap ((i : Int) + 1), st ++ args, sr, sw, su⟩, { eff0 with taken := -1 }, 0⟩ = (⟨j, IntKind.i64.wrap ((i : Int) + 1), st ++ [sr[a.toNat]'hr3], sr, sw, su⟩, { eff0 with taken := -1 }, 0) := by
      rw [h, hx]
      simp [stepG, isTwo, deedOf, deedL, workF, stepEnd, Wx.push, Wx.load, eff0, n16, hr0, hr1, hr3]
    rw [es]
    refine drawK.intro mixed [(0, []), (1, []), (2, []), (3, []), (4, []), (5, []), (6, []), (7, []), (8, [1]), (9, []), (10, []), (11, [])] (by kernel_rfl) ?_
    simp [aload, afield, apart, upd_apply, Nat.add_assoc, b5, k5, m5, mq, mq', mu, kq, ku, a1, a2, aindex, abuildS, afillP, tek, chunk, appK, aappend, arows, lenMax, astore, s2, lk_some, chkK, g3, g4, hr0, hr1, hr3]
    refine drawK.intro mixed [(0, []), (1, []), (2, [1]), (3, []), (4, [])] (by kernel_rfl) ?_
    simp [aload, apart, upd_apply, qk, mk, r0, r6, m0, m2, m3, astore, lk_some, chkK, b2, b3, k2, k3, q2, q3]
    refine resK.rt ?_
    refine fin15 (n' := 0) (s := ⟨j, IntKind.i64.wrap ((i : Int) + 1), st ++ [sr[a.toNat]'hr3], sr, sw, su⟩) (e := { eff0 with taken := -1 }) (err := 0) ?_ ?_ ?_ ?_ ?_ ?_ ?_
    · exact FL.own (r := n1 + 4) (by omega) (by simp) (by simp [upd_apply, ints, r2, r3])
    · exact FL.own (by omega) rfl (by simp [upd_apply, mu, ku, uq, u2, u3, a2])
    · exact FL.nil' _ _
    · simp [lenMax]
      omega
    · simpa [lenMax] using hrg.1
    · exact (by simp [eff0])
    · intro r hr
      simp only [upd_apply]
      repeat rw [if_neg (by omega)]
      exact old r hr
  · have hr0 := (hok m[j].regs.length (by rw [h]; simp [cntF]) (by omega)).1
    have hr1 : a < (sr.length : Int) := by have := (hok m[j].regs.length (by rw [h]; simp [cntF]) (by omega)).2; omega
    have hr3 : a.toNat < sr.length := by omega
    refine AC.fresh fun hf => ?_; refine AC.enter Try.func19 rfl Try.ntmps19 (by simp) ?_
    simp [aload, apart, upd_apply, Nat.add_assoc]
    refine ACK.rt (hsd _ _) ?_
    simp [aload, afield, apart, upd_apply, Nat.add_assoc, aindex, hj, hi, hI, actC, astore, upd_upd]
    refine ACK.rt (is04_ac _ _ _) ?_
    simp [c9, aload, afield, apart, upd_apply]
    refine ACK.rt (hct _ _) ?_
    simp [c0, ha0, ha1, aload, afield, apart, upd_apply]
    refine ACK.use (hcp _ _).freshP ?_
    intro r η1 n1 ⟨⟨q, u, e1, a1, a2, a3, a4, a5, a6, a7, a8⟩, hf1⟩
    subst e1
    simp only at a1 a2
    have b0 := a8 n (by omega)
    have b1 := a8 (n + 1) (by omega)
    have b2 := a8 (n + 2) (by omega)
    have b3 := a8 (n + 3) (by omega)
    have b4 := a8 (n + 4) (by omega)
    have b5 := a8 (n + 5) (by omega)
    simp [upd_apply] at b0 b1 b2 b3 b4 b5
    have old : ∀ r, r < n → η1 r = η r := fun r hr => by
      rw [a8 r (by omega)]
      simp only [upd_apply]
      repeat rw [if_neg (by omega)]
    have m0 : ¬ n = n1 := by omega
    have m1 : ¬ n + 1 = n1 := by omega
    have m2 : ¬ n + 2 = n1 := by omega
    have m3 : ¬ n + 3 = n1 := by omega
    have m4 : ¬ n + 4 = n1 := by omega
    have m5 : ¬ n + 5 = n1 := by omega
    have r0 : ¬ n1 = n := by omega
    have mk : ∀ k, ¬ n = n1 + k := fun k => by omega
    have r1 : ∀ k, ¬ n1 + k = n + 1 := fun k => by omega
    have r2 : ∀ k, ¬ n1 + k = n + 2 := fun k => by omega
    have r3 : ∀ k, ¬ n1 + k = n + 3 := fun k => by omega
    have r4 : ∀ k, ¬ n1 + k = n := fun k => by omega
    have r5 : ¬ n1 = n + 1 := by omega
    have r6 : ¬ n1 = n + 2 := by omega
    have r7 : ¬ n1 = n + 3 := by omega
    have r8 : ¬ q = n + 2 := by omega
    have r9 : ¬ q = n + 3 := by omega
    have u2 : ¬ u = n + 2 := by omega
    have u3 : ¬ u = n + 3 := by omega
    have u4 : ¬ n + 2 = u := by omega
    have u5 : ¬ n + 3 = u := by omega
    have u6 : ¬ n + 1 = u := by omega
    have u7 : ¬ n + 5 = u := by omega
    have uk : ∀ k, ¬ n1 + k = u := fun k => by omega
    have k1 : ∀ k, ¬ n + 1 = n1 + k := fun k => by omega
    have k2 : ∀ k, ¬ n + 2 = n1 + k := fun k => by omega
    have k3 : ∀ k, ¬ n + 3 = n1 + k := fun k => by omega
    have k4 : ∀ k, ¬ n + 4 = n1 + k := fun k => by omega
    have k5 : ∀ k, ¬ n + 5 = n1 + k := fun k => by omega
    have kq : ∀ k, ¬ q = n1 + k := fun k => by omega
    have ku : ∀ k, ¬ u = n1 + k := fun k => by omega
    have mq : ¬ q = n1 := by omega
    have mu : ¬ u = n1 := by omega
    have mq' : ¬ n1 = q := by omega
    have mu' : ¬ n1 = u := by omega
    have qn : n + 6 ≤ q := by omega
    have un : n + 6 ≤ u := by omega
    have q5 : ¬ n + 5 = q := by omega
    have q4 : ¬ n + 4 = q := by omega
    have q3 : ¬ n + 3 = q := by omega
    have q2 : ¬ n + 2 = q := by omega
    have q1 : ¬ n + 1 = q := by omega
    have qu : ¬ q = u := a5
    have uq : ¬ u = q := fun e => a5 e.symm
    have qk : ∀ k, ¬ n1 + k = q := fun k => by omega
    simp [stA, aload, apart, upd_apply, astore, upd_upd, b0, b5, m0, m5]
    refine ACK.rt (htk _ _ _ _ (IsL.own1 (by simp) (by rw [upd_ne mq]; exact a1)) (IsL.own1 rfl (by rw [upd_ne mu]; exact a2))) ?_
    simp
    refine drawK.intro mixed [(0, []), (1, []), (2, []), (3, []), (4, []), (5, []), (6, []), (7, []), (8, []), (9, []), (10, []), (11, []), (12, [7, 8]), (13, []), (14, []), (15, [])] (by kernel_rfl) ?_
    simp [aload, afield, apart, upd_apply, b5, m5, w4]
    refine ACK.rt (puts15_ac (op, a) _ _) ?_
    simp [lk_some, chkK, o1, o2, w1, w2, w3, aload, afield, apart, upd_apply, Nat.add_assoc, asliceV, abnd, a1, mq, s1, g1, g2, appK, aappend, arows, lenMax, astore, upd_upd, abuild, aplace, afillP, b5, k5, m5, kq]
    refine ⟨ints_sc, ?_⟩
    simp (maxSteps := 2000000) [h]
    have hk : args.length = 1 := by rw [et, ← ht, h]; simp [tkF, isOne]
    obtain ⟨x, hx⟩ : ∃ x, args = [x] := List.length_eq_one_iff.1 hk
    have q0 : (ints args)[0]? = some [.int .i64 x] := by rw [hx]; rfl
    have hk0 : 0 < args.length := by omega
    have ax : args[0]'hk0 = x := (List.getElem_of_eq hx hk0).trans rfl
    have hp : ptF op = 0 := by rw [h]; simp [ptF]
    rw [hp] at hp16
    have es : stepG ⟨m, m[j], op, a, self, now, box⟩ ⟨⟨j, IntKind.i64.wrap ((i : Int) + 1), st ++ args, sr, sw, su⟩, { eff0 with taken := -1 }, 0⟩ = (⟨j, IntKind.i64.wrap ((i : Int) + 1), st, sr.set a.toNat x, sw, su⟩, { eff0 with taken := -1 }, 0) := by
      rw [h, hx]
      simp [stepG, isTwo, deedOf, deedL, workF, stepEnd, Wx.pop, Wx.top, Wx.stow, eff0, hr0, hr1]
    rw [es]
    refine drawK.intro mixed [(0, []), (1, []), (2, []), (3, []), (4, []), (5, []), (6, []), (7, []), (8, [])] (by kernel_rfl) ?_
    simp [aload, afield, apart, upd_apply, b5, k5, m5, mu, ku, a2, aindex, astore, hk0, ax, hr0, hr1, hr3]
    refine drawK.intro mixed [(0, []), (1, []), (2, [1]), (3, []), (4, [])] (by kernel_rfl) ?_
    simp [aload, apart, upd_apply, mu', uk, r0, r6, u4, u5, m0, m2, m3, astore, lk_some, chkK, b2, b3, k2, k3]
    refine resK.rt ?_
    refine fin15 (n' := 0) (s := ⟨j, IntKind.i64.wrap ((i : Int) + 1), st, sr.set a.toNat x, sw, su⟩) (e := { eff0 with taken := -1 }) (err := 0) ?_ ?_ ?_ ?_ ?_ ?_ ?_
    · exact Or.inr (Or.inr ⟨q, 0, [], args, by omega, rfl, rfl, by simp [upd_apply, mq, kq, qu, r8, r9, a1]⟩)
    · exact FL.own (by omega) (by simp) (by simp [upd_apply, u2, u3, ints, List.map_set])
    · exact FL.nil' _ _
    · simp [lenMax]
      omega
    · simpa [lenMax] using hrg.1
    · exact (by simp [eff0])
    · intro r hr
      simp only [upd_apply]
      repeat rw [if_neg (by omega)]
      exact old r hr
  · refine AC.fresh fun hf => ?_; refine AC.enter Try.func19 rfl Try.ntmps19 (by simp) ?_
    simp [aload, apart, upd_apply, Nat.add_assoc]
    refine ACK.rt (hsd _ _) ?_
    simp [aload, afield, apart, upd_apply, Nat.add_assoc, aindex, hj, hi, hI, actC, astore, upd_upd]
    refine ACK.rt (is04_ac _ _ _) ?_
    simp [c9, aload, afield, apart, upd_apply]
    refine ACK.rt (hct _ _) ?_
    simp [c0, ha0, ha1, aload, afield, apart, upd_apply]
    refine ACK.use (hcp _ _).freshP ?_
    intro r η1 n1 ⟨⟨q, u, e1, a1, a2, a3, a4, a5, a6, a7, a8⟩, hf1⟩
    subst e1
    simp only at a1 a2
    have b0 := a8 n (by omega)
    have b1 := a8 (n + 1) (by omega)
    have b2 := a8 (n + 2) (by omega)
    have b3 := a8 (n + 3) (by omega)
    have b4 := a8 (n + 4) (by omega)
    have b5 := a8 (n + 5) (by omega)
    simp [upd_apply] at b0 b1 b2 b3 b4 b5
    have old : ∀ r, r < n → η1 r = η r := fun r hr => by
      rw [a8 r (by omega)]
      simp only [upd_apply]
      repeat rw [if_neg (by omega)]
    have m0 : ¬ n = n1 := by omega
    have m1 : ¬ n + 1 = n1 := by omega
    have m2 : ¬ n + 2 = n1 := by omega
    have m3 : ¬ n + 3 = n1 := by omega
    have m4 : ¬ n + 4 = n1 := by omega
    have m5 : ¬ n + 5 = n1 := by omega
    have r0 : ¬ n1 = n := by omega
    have mk : ∀ k, ¬ n = n1 + k := fun k => by omega
    have r1 : ∀ k, ¬ n1 + k = n + 1 := fun k => by omega
    have r2 : ∀ k, ¬ n1 + k = n + 2 := fun k => by omega
    have r3 : ∀ k, ¬ n1 + k = n + 3 := fun k => by omega
    have r4 : ∀ k, ¬ n1 + k = n := fun k => by omega
    have r5 : ¬ n1 = n + 1 := by omega
    have r6 : ¬ n1 = n + 2 := by omega
    have r7 : ¬ n1 = n + 3 := by omega
    have r8 : ¬ q = n + 2 := by omega
    have r9 : ¬ q = n + 3 := by omega
    have u2 : ¬ u = n + 2 := by omega
    have u3 : ¬ u = n + 3 := by omega
    have u4 : ¬ n + 2 = u := by omega
    have u5 : ¬ n + 3 = u := by omega
    have u6 : ¬ n + 1 = u := by omega
    have u7 : ¬ n + 5 = u := by omega
    have uk : ∀ k, ¬ n1 + k = u := fun k => by omega
    have k1 : ∀ k, ¬ n + 1 = n1 + k := fun k => by omega
    have k2 : ∀ k, ¬ n + 2 = n1 + k := fun k => by omega
    have k3 : ∀ k, ¬ n + 3 = n1 + k := fun k => by omega
    have k4 : ∀ k, ¬ n + 4 = n1 + k := fun k => by omega
    have k5 : ∀ k, ¬ n + 5 = n1 + k := fun k => by omega
    have kq : ∀ k, ¬ q = n1 + k := fun k => by omega
    have ku : ∀ k, ¬ u = n1 + k := fun k => by omega
    have mq : ¬ q = n1 := by omega
    have mu : ¬ u = n1 := by omega
    have mq' : ¬ n1 = q := by omega
    have mu' : ¬ n1 = u := by omega
    have qn : n + 6 ≤ q := by omega
    have un : n + 6 ≤ u := by omega
    have q5 : ¬ n + 5 = q := by omega
    have q4 : ¬ n + 4 = q := by omega
    have q3 : ¬ n + 3 = q := by omega
    have q2 : ¬ n + 2 = q := by omega
    have q1 : ¬ n + 1 = q := by omega
    have qu : ¬ q = u := a5
    have uq : ¬ u = q := fun e => a5 e.symm
    have qk : ∀ k, ¬ n1 + k = q := fun k => by omega
    simp [stA, aload, apart, upd_apply, astore, upd_upd, b0, b5, m0, m5]
    refine ACK.rt (htk _ _ _ _ (IsL.own1 (by simp) (by rw [upd_ne mq]; exact a1)) (IsL.own1 rfl (by rw [upd_ne mu]; exact a2))) ?_
    simp
    refine drawK.intro mixed [(0, []), (1, []), (2, []), (3, []), (4, []), (5, []), (6, []), (7, []), (8, []), (9, []), (10, []), (11, []), (12, [7, 8]), (13, []), (14, []), (15, [])] (by kernel_rfl) ?_
    simp [aload, afield, apart, upd_apply, b5, m5, w4]
    refine ACK.rt (puts15_ac (op, a) _ _) ?_
    simp [lk_some, chkK, o1, o2, w1, w2, w3, aload, afield, apart, upd_apply, Nat.add_assoc, asliceV, abnd, a1, mq, s1, g1, g2, appK, aappend, arows, lenMax, astore, upd_upd, abuild, aplace, afillP, b5, k5, m5, kq]
    refine ⟨ints_sc, ?_⟩
    simp [h]
    have hk : args.length = (actr m a).params.length := by rw [et, ← ht, h]; simp [tkF, isOne, isBin]
    have hok19 := hok m.length (by rw [h]; simp [cntF]) (by omega)
    have es : stepG ⟨m, m[j], op, a, self, now, box⟩ ⟨⟨j, IntKind.i64.wrap ((i : Int) + 1), st ++ args, sr, sw, su⟩, { eff0 with taken := -1 }, 0⟩ = (⟨j, IntKind.i64.wrap ((i : Int) + 1), st, sr, sw, su⟩, { eff0 with kind := 3, actor := a, args := args, taken := -1 }, 0) := by
      have e0 : actr0 m a = actr m a := rfl
      rw [h]
      unfold stepG
      rw [if_neg (by simp [isTwo])]
      simp only [deedOf, deedL, workF]
      simp
      rw [Wx.spawn, if_pos hok19, e0, if_pos (by show _ ≤ (st ++ args).length; rw [← hk]; simp)]
      simp [Wx.spawned, stepEnd, ← hk, eff0]
    rw [es]
    simp [aload, afield, apart, upd_apply, b5, k5, m5, astore, upd_upd, h]
    refine drawK.intro mixed [(0, []), (1, []), (2, [1]), (3, []), (4, [])] (by kernel_rfl) ?_
    simp [aload, apart, upd_apply, r0, r6, m0, m2, m3, astore, lk_some, chkK, b2, b3, k2, k3]
    refine resK.rt ?_
    refine fin15 (n' := 0) (s := ⟨j, IntKind.i64.wrap ((i : Int) + 1), st, sr, sw, su⟩) (e := { eff0 with kind := 3, actor := a, args := args, taken := -1 }) (err := 0) ?_ ?_ ?_ ?_ ?_ ?_ ?_
    · exact Or.inr (Or.inr ⟨q, 0, [], args, by omega, rfl, rfl, by simp [upd_apply, mq, kq, r8, r9, a1]⟩)
    · exact FL.own (by omega) rfl (by simp [upd_apply, mu, ku, u2, u3, a2])
    · exact FL.own (r := n1 + 1) (by omega) rfl (by simp [upd_apply, r5, r6])
    · simp [lenMax]
      omega
    · simpa [lenMax] using hrg.1
    · exact (by simp only [lenMax]; omega)
    · intro r hr
      simp only [upd_apply]
      repeat rw [if_neg (by omega)]
      exact old r hr
  · refine AC.fresh fun hf => ?_; refine AC.enter Try.func19 rfl Try.ntmps19 (by simp) ?_
    simp [aload, apart, upd_apply, Nat.add_assoc]
    refine ACK.rt (hsd _ _) ?_
    simp [aload, afield, apart, upd_apply, Nat.add_assoc, aindex, hj, hi, hI, actC, astore, upd_upd]
    refine ACK.rt (is04_ac _ _ _) ?_
    simp [c9, aload, afield, apart, upd_apply]
    refine ACK.rt (hct _ _) ?_
    simp [c0, ha0, ha1, aload, afield, apart, upd_apply]
    refine ACK.use (hcp _ _).freshP ?_
    intro r η1 n1 ⟨⟨q, u, e1, a1, a2, a3, a4, a5, a6, a7, a8⟩, hf1⟩
    subst e1
    simp only at a1 a2
    have b0 := a8 n (by omega)
    have b1 := a8 (n + 1) (by omega)
    have b2 := a8 (n + 2) (by omega)
    have b3 := a8 (n + 3) (by omega)
    have b4 := a8 (n + 4) (by omega)
    have b5 := a8 (n + 5) (by omega)
    simp [upd_apply] at b0 b1 b2 b3 b4 b5
    have old : ∀ r, r < n → η1 r = η r := fun r hr => by
      rw [a8 r (by omega)]
      simp only [upd_apply]
      repeat rw [if_neg (by omega)]
    have m0 : ¬ n = n1 := by omega
    have m1 : ¬ n + 1 = n1 := by omega
    have m2 : ¬ n + 2 = n1 := by omega
    have m3 : ¬ n + 3 = n1 := by omega
    have m4 : ¬ n + 4 = n1 := by omega
    have m5 : ¬ n + 5 = n1 := by omega
    have r0 : ¬ n1 = n := by omega
    have mk : ∀ k, ¬ n = n1 + k := fun k => by omega
    have r1 : ∀ k, ¬ n1 + k = n + 1 := fun k => by omega
    have r2 : ∀ k, ¬ n1 + k = n + 2 := fun k => by omega
    have r3 : ∀ k, ¬ n1 + k = n + 3 := fun k => by omega
    have r4 : ∀ k, ¬ n1 + k = n := fun k => by omega
    have r5 : ¬ n1 = n + 1 := by omega
    have r6 : ¬ n1 = n + 2 := by omega
    have r7 : ¬ n1 = n + 3 := by omega
    have r8 : ¬ q = n + 2 := by omega
    have r9 : ¬ q = n + 3 := by omega
    have u2 : ¬ u = n + 2 := by omega
    have u3 : ¬ u = n + 3 := by omega
    have u4 : ¬ n + 2 = u := by omega
    have u5 : ¬ n + 3 = u := by omega
    have u6 : ¬ n + 1 = u := by omega
    have u7 : ¬ n + 5 = u := by omega
    have uk : ∀ k, ¬ n1 + k = u := fun k => by omega
    have k1 : ∀ k, ¬ n + 1 = n1 + k := fun k => by omega
    have k2 : ∀ k, ¬ n + 2 = n1 + k := fun k => by omega
    have k3 : ∀ k, ¬ n + 3 = n1 + k := fun k => by omega
    have k4 : ∀ k, ¬ n + 4 = n1 + k := fun k => by omega
    have k5 : ∀ k, ¬ n + 5 = n1 + k := fun k => by omega
    have kq : ∀ k, ¬ q = n1 + k := fun k => by omega
    have ku : ∀ k, ¬ u = n1 + k := fun k => by omega
    have mq : ¬ q = n1 := by omega
    have mu : ¬ u = n1 := by omega
    have mq' : ¬ n1 = q := by omega
    have mu' : ¬ n1 = u := by omega
    have qn : n + 6 ≤ q := by omega
    have un : n + 6 ≤ u := by omega
    have q5 : ¬ n + 5 = q := by omega
    have q4 : ¬ n + 4 = q := by omega
    have q3 : ¬ n + 3 = q := by omega
    have q2 : ¬ n + 2 = q := by omega
    have q1 : ¬ n + 1 = q := by omega
    have qu : ¬ q = u := a5
    have uq : ¬ u = q := fun e => a5 e.symm
    have qk : ∀ k, ¬ n1 + k = q := fun k => by omega
    simp [stA, aload, apart, upd_apply, astore, upd_upd, b0, b5, m0, m5]
    refine ACK.rt (htk _ _ _ _ (IsL.own1 (by simp) (by rw [upd_ne mq]; exact a1)) (IsL.own1 rfl (by rw [upd_ne mu]; exact a2))) ?_
    simp
    refine drawK.intro mixed [(0, []), (1, []), (2, []), (3, []), (4, []), (5, []), (6, []), (7, []), (8, []), (9, []), (10, []), (11, []), (12, [7, 8]), (13, []), (14, []), (15, [])] (by kernel_rfl) ?_
    simp [aload, afield, apart, upd_apply, b5, m5, w4]
    refine ACK.rt (puts15_ac (op, a) _ _) ?_
    simp [lk_some, chkK, o1, o2, w1, w2, w3, aload, afield, apart, upd_apply, Nat.add_assoc, asliceV, abnd, a1, mq, s1, g1, g2, appK, aappend, arows, lenMax, astore, upd_upd, abuild, aplace, afillP, b5, k5, m5, kq]
    refine ⟨ints_sc, ?_⟩
    simp [h]
    have hok21 := hok m[j].tabs.length (by rw [h]; simp [cntF]) (by omega)
    have hk : args.length = if sw = false ∧ 0 ≤ (tbl m[j] a).tmo then 1 else 0 := by rw [et, ← ht, h]; simp [tkF, isOne, isBin, ea]
    have es : stepG ⟨m, m[j], op, a, self, now, box⟩ ⟨⟨j, IntKind.i64.wrap ((i : Int) + 1), st ++ args, sr, sw, su⟩, { eff0 with taken := -1 }, 0⟩ = recv15 (tbl m[j] a) ⟨j, IntKind.i64.wrap (IntKind.i64.wrap ((i : Int) + 1) - 1), st, sr, sw, su⟩ (args.headD 0) now box := by
      rw [h]
      exact stepG_21 hok21 hk
    rw [es]
    have h3 : a.toNat < m[j].tabs.length := by omega
    have h4 : tbl m[j] a = m[j].tabs[a.toNat] := by simp [tbl, List.getD_eq_getElem?_getD, h3]
    have hcls := (hA64.tabs.2 (tbl m[j] a) (by rw [h4]; exact List.getElem_mem ..)).1.1
    have hrc := fun ticks (η : AHeap) (k : Nat) hq hu hN => recv15_ac (tbl m[j] a) ⟨j, IntKind.i64.wrap (IntKind.i64.wrap ((i : Int) + 1) - 1), st, sr, sw, su⟩ ticks now box η n k q u args hq hu a5 hN (by omega) (by omega) hcls hb (by show st.length ≤ 16; omega)
    simp only [tblC, stC] at hrc
    rw [h4] at hrc ⊢
    have l16 : ∀ ticks, (recv15 m[j].tabs[a.toNat] ⟨j, IntKind.i64.wrap (IntKind.i64.wrap ((i : Int) + 1) - 1), st, sr, sw, su⟩ ticks now box).1.stack.length ≤ 17 ∧ (recv15 m[j].tabs[a.toNat] ⟨j, IntKind.i64.wrap (IntKind.i64.wrap ((i : Int) + 1) - 1), st, sr, sw, su⟩ ticks now box).1.regs.length ≤ 17592186044416 ∧ (recv15 m[j].tabs[a.toNat] ⟨j, IntKind.i64.wrap (IntKind.i64.wrap ((i : Int) + 1) - 1), st, sr, sw, su⟩ ticks now box).2.1.args = [] := fun ticks => by
      have := hrg.1
      unfold recv15
      split
      · split
        · simp [sta0, eff0]
        · simp [eff0]; omega
      · split
        · simp [eff0]; omega
        · simp [eff0]; omega
    rcases (show args.length = 1 ∨ args.length = 0 by rw [hk]; split <;> simp) with hk1 | hk0
    · obtain ⟨x, hx⟩ : ∃ x, args = [x] := List.length_eq_one_iff.1 hk1
      have hk0 : 0 < args.length := by omega
      have ax : args[0]'hk0 = x := (List.getElem_of_eq hx hk0).trans rfl
      have eh : args.headD 0 = x := by rw [hx]; rfl
      rw [eh]
      simp [aload, afield, apart, upd_apply, aindex, astore, upd_upd, hk1, ax]
      refine drawK.introF mixed [15, 16] [(0, []), (1, []), (2, []), (3, []), (4, []), (5, []), (6, []), (7, []), (8, []), (9, []), (10, []), (11, []), (12, []), (13, []), (14, []), (15, [1, 3, 4, 5, 6, 10]), (16, [1, 3, 4, 5, 6, 10]), (17, []), (18, []), (19, [])] (by kernel_rfl) (by simp [fltC]) ?_
      simp [aload, afield, apart, upd_apply, b5, k5, m5, m4, aindex, b4, k4, h3, hok21, tblC]
      refine ACK.use (hrc _ _ _ (by simp [upd_apply, mq, kq, a1]) (by simp [upd_apply, mu, ku, a2]) (by omega)).freshP ?_
      intro r η2 n2 ⟨⟨⟨sv2, rv2, av2, e1, d1, d2, d3⟩, d4, d5⟩, hf2⟩
      subst e1
      have x1 := d1.isL.sc
      have x2 := d2.isL.sc
      have x3 := d3.isL.sc
      have y1 := d1.isL.ac
      have y2 := d2.isL.ac
      have y3 := d3.isL.ac
      have v2 := d5 (n + 2) (by omega) (by omega)
      have v3 := d5 (n + 3) (by omega) (by omega)
      have v1 := d5 n1 (by omega) (by omega)
      have v4 := d5 (n + 4) (by omega) (by omega)
      have v5 := d5 (n + 5) (by omega) (by omega)
      simp [upd_apply, m2, m3, m4, m5, k2, k3, k4, k5, b2, b3, b4, b5, m0] at v1 v2 v3 v4 v5
      have z2 : ¬ n + 2 = n2 := by omega
      have z3 : ¬ n + 3 = n2 := by omega
      have z4 : ¬ n + 2 = n2 + 1 := by omega
      have z6 : ¬ n1 = n2 := by omega
      have zf : ¬ n2 = n + 1 := by omega
      have zg : ¬ n2 = n + 2 := by omega
      have zh : ¬ n2 = n + 3 := by omega
      have zi : ¬ n2 = n := by omega
      have za : ¬ n + 5 = n2 := by omega
      have zb : ¬ n + 5 = n2 + 1 := by omega
      have zc : ¬ n + 4 = n2 := by omega
      have zd : ¬ n + 4 = n2 + 1 := by omega
      have ze : ¬ n + 3 = n2 := by omega
      have z7 : ¬ n1 = n2 + 1 := by omega
      have z8 : ¬ n2 = n1 := by omega
      have z9 : ∀ k, ¬ n2 + k = n1 := fun k => by omega
      have z5 : ¬ n + 3 = n2 + 1 := by omega
      have ll := l16 x
      generalize recv15 m[j].tabs[a.toNat] ⟨j, IntKind.i64.wrap (IntKind.i64.wrap ((i : Int) + 1) - 1), st, sr, sw, su⟩ x now box = R at *
      obtain ⟨⟨Ra, Rp, Rs, Rr, Rw, Ru⟩, ⟨Rk, Rd, ⟨Rm1, Rm2⟩, Rac, Rar, Rn, ⟨Rr1, Rr2⟩, Rt⟩, Re⟩ := R
      simp only at ll d1 d2 d3
      simp [stC, effC, lk_some, chkK, upd_apply, Nat.add_assoc, astore, x1, x2, x3, z6, z7, za, zb, zc, zd, v1, v4, v5, hok21, h3, tblC]
      refine drawK.intro mixed [(0, []), (1, []), (2, []), (3, [1]), (4, []), (5, [])] (by kernel_rfl) ?_
      simp [aload, apart, upd_apply, astore, x1, x2, x3, v2, v3, z2, z3, z4, z5, zf, zg, lk_some, chkK]
      have f0 := hf2 n2 (Nat.le_refl _)
      have f1 := hf2 (n2 + 1) (by omega)
      have kg : ∀ r rows, η2 r = some (.cells 1 rows) → ¬ r = n2 ∧ ¬ r = n2 + 1 ∧ ¬ r = n + 2 ∧ ¬ r = n + 3 := fun r rows hr => by
        refine ⟨fun e => ?_, fun e => ?_, fun e => ?_, fun e => ?_⟩
        · rw [e, f0] at hr; cases hr
        · rw [e, f1] at hr; cases hr
        · rw [e, v2] at hr; cases hr
        · rw [e, v3] at hr; cases hr
      refine resK.rt ?_
      refine fin15 (n' := 0) (s := ⟨Ra, Rp, Rs, Rr, Rw, Ru⟩) (e := ⟨Rk, Rd, (Rm1, Rm2), Rac, Rar, Rn, (Rr1, Rr2), Rt⟩) (err := Re) (d1.mono ?_) (d2.mono ?_) (d3.mono ?_) (by simp only [lenMax]; omega) (by simp only [lenMax]; omega) (by simp [ll.2.2]) ?_
      · intro r rows hr
        obtain ⟨q1, q2, q3, q4⟩ := kg r rows hr
        simp only [upd_apply, q1, q2, q3, q4, if_false]
        exact hr
      · intro r rows hr
        obtain ⟨q1, q2, q3, q4⟩ := kg r rows hr
        simp only [upd_apply, q1, q2, q3, q4, if_false]
        exact hr
      · intro r rows hr
        obtain ⟨q1, q2, q3, q4⟩ := kg r rows hr
        simp only [upd_apply, q1, q2, q3, q4, if_false]
        exact hr
      intro r hr
      simp only [upd_apply]
      repeat rw [if_neg (by omega)]
      rw [d5 r (by omega) (by omega)]
      simp only [upd_apply]
      repeat rw [if_neg (by omega)]
      exact old r hr
    · have hx : args = [] := List.length_eq_zero_iff.1 hk0
      have eh : args.headD 0 = 0 := by rw [hx]; rfl
      rw [eh]
      simp [aload, afield, apart, upd_apply, astore, upd_upd, hk0]
      refine drawK.introF mixed [15, 16] [(0, []), (1, []), (2, []), (3, []), (4, []), (5, []), (6, []), (7, []), (8, []), (9, []), (10, []), (11, []), (12, []), (13, []), (14, []), (15, [1, 3, 4, 5, 6, 10]), (16, [1, 3, 4, 5, 6, 10]), (17, []), (18, []), (19, [])] (by kernel_rfl) (by simp [fltC]) ?_
      simp [aload, afield, apart, upd_apply, b5, k5, m5, m4, aindex, b4, k4, h3, hok21, tblC]
      refine ACK.use (hrc _ _ _ (by simp [upd_apply, mq, kq, a1]) (by simp [upd_apply, mu, ku, a2]) (by omega)).freshP ?_
      intro r η2 n2 ⟨⟨⟨sv2, rv2, av2, e1, d1, d2, d3⟩, d4, d5⟩, hf2⟩
      subst e1
      have x1 := d1.isL.sc
      have x2 := d2.isL.sc
      have x3 := d3.isL.sc
      have y1 := d1.isL.ac
      have y2 := d2.isL.ac
      have y3 := d3.isL.ac
      have v2 := d5 (n + 2) (by omega) (by omega)
      have v3 := d5 (n + 3) (by omega) (by omega)
      have v1 := d5 n1 (by omega) (by omega)
      have v4 := d5 (n + 4) (by omega) (by omega)
      have v5 := d5 (n + 5) (by omega) (by omega)
      simp [upd_apply, m2, m3, m4, m5, k2, k3, k4, k5, b2, b3, b4, b5, m0] at v1 v2 v3 v4 v5
      have z2 : ¬ n + 2 = n2 := by omega
      have z3 : ¬ n + 3 = n2 := by omega
      have z4 : ¬ n + 2 = n2 + 1 := by omega
      have z6 : ¬ n1 = n2 := by omega
      have zf : ¬ n2 = n + 1 := by omega
      have zg : ¬ n2 = n + 2 := by omega
      have zh : ¬ n2 = n + 3 := by omega
      have zi : ¬ n2 = n := by omega
      have za : ¬ n + 5 = n2 := by omega
      have zb : ¬ n + 5 = n2 + 1 := by omega
      have zc : ¬ n + 4 = n2 := by omega
      have zd : ¬ n + 4 = n2 + 1 := by omega
      have ze : ¬ n + 3 = n2 := by omega
      have z7 : ¬ n1 = n2 + 1 := by omega
      have z8 : ¬ n2 = n1 := by omega
      have z9 : ∀ k, ¬ n2 + k = n1 := fun k => by omega
      have z5 : ¬ n + 3 = n2 + 1 := by omega
      have ll := l16 0
      generalize recv15 m[j].tabs[a.toNat] ⟨j, IntKind.i64.wrap (IntKind.i64.wrap ((i : Int) + 1) - 1), st, sr, sw, su⟩ 0 now box = R at *
      obtain ⟨⟨Ra, Rp, Rs, Rr, Rw, Ru⟩, ⟨Rk, Rd, ⟨Rm1, Rm2⟩, Rac, Rar, Rn, ⟨Rr1, Rr2⟩, Rt⟩, Re⟩ := R
      simp only at ll d1 d2 d3
      simp [stC, effC, lk_some, chkK, upd_apply, Nat.add_assoc, astore, x1, x2, x3, z6, z7, za, zb, zc, zd, v1, v4, v5, hok21, h3, tblC]
      refine drawK.intro mixed [(0, []), (1, []), (2, []), (3, [1]), (4, []), (5, [])] (by kernel_rfl) ?_
      simp [aload, apart, upd_apply, astore, x1, x2, x3, v2, v3, z2, z3, z4, z5, zf, zg, lk_some, chkK]
      have f0 := hf2 n2 (Nat.le_refl _)
      have f1 := hf2 (n2 + 1) (by omega)
      have kg : ∀ r rows, η2 r = some (.cells 1 rows) → ¬ r = n2 ∧ ¬ r = n2 + 1 ∧ ¬ r = n + 2 ∧ ¬ r = n + 3 := fun r rows hr => by
        refine ⟨fun e => ?_, fun e => ?_, fun e => ?_, fun e => ?_⟩
        · rw [e, f0] at hr; cases hr
        · rw [e, f1] at hr; cases hr
        · rw [e, v2] at hr; cases hr
        · rw [e, v3] at hr; cases hr
      refine resK.rt ?_
      refine fin15 (n' := 0) (s := ⟨Ra, Rp, Rs, Rr, Rw, Ru⟩) (e := ⟨Rk, Rd, (Rm1, Rm2), Rac, Rar, Rn, (Rr1, Rr2), Rt⟩) (err := Re) (d1.mono ?_) (d2.mono ?_) (d3.mono ?_) (by simp only [lenMax]; omega) (by simp only [lenMax]; omega) (by simp [ll.2.2]) ?_
      · intro r rows hr
        obtain ⟨q1, q2, q3, q4⟩ := kg r rows hr
        simp only [upd_apply, q1, q2, q3, q4, if_false]
        exact hr
      · intro r rows hr
        obtain ⟨q1, q2, q3, q4⟩ := kg r rows hr
        simp only [upd_apply, q1, q2, q3, q4, if_false]
        exact hr
      · intro r rows hr
        obtain ⟨q1, q2, q3, q4⟩ := kg r rows hr
        simp only [upd_apply, q1, q2, q3, q4, if_false]
        exact hr
      intro r hr
      simp only [upd_apply]
      repeat rw [if_neg (by omega)]
      rw [d5 r (by omega) (by omega)]
      simp only [upd_apply]
      repeat rw [if_neg (by omega)]
      exact old r hr
end Go.Proofs.Ytkhoelmbcmkhjaa
namespace Go.Proofs.Ytkhoelmbcmkhjaa

def Lens (x : Wx) : Prop := x.s.stack.length ≤ 17592186044416 ∧ x.s.regs.length ≤ 17592186044416 ∧ x.eff.args.length ≤ 17592186044416
theorem Lens.fail {x : Wx} (h : Lens x) (e : Int) : Lens (x.fail e) := by unfold Wx.fail; split <;> exact h
theorem Lens.pop {x : Wx} (h : Lens x) : Lens x.pop := by
  unfold Wx.pop; split
  · exact h.fail _
  · exact ⟨by simp; have := h.1; omega, h.2⟩
theorem Lens.push {x : Wx} (h : Lens x) (n : Int) : Lens (x.push n) := by
  unfold Wx.push; split
  · exact h.fail _
  · exact ⟨by simp; omega, h.2⟩
theorem Lens.stays {x : Wx} (h : Lens x) : Lens x.stays := h
theorem Lens.goes {x : Wx} (h : Lens x) (q : Int) : Lens (x.goes q) := h
theorem Lens.setpc {x : Wx} (h : Lens x) (q : Int) : Lens (x.setpc q) := h
theorem Lens.till {x : Wx} (h : Lens x) (q : Int) : Lens (x.till q) := h
theorem Lens.exits {x : Wx} (h : Lens x) (k n : Int) : Lens (x.exits k n) := ⟨h.1, h.2.1, by simp [Wx.exits]⟩
theorem Lens.unl {x : Wx} (h : Lens x) (a m : Int) : Lens (x.unl a m) := by unfold Wx.unl; split <;> exact h
theorem Lens.link {x : Wx} (h : Lens x) (m : Int) : Lens (x.link m) := h
theorem Lens.out {x : Wx} (h : Lens x) (m : Int) : Lens (x.out m) := h
theorem Lens.load {x : Wx} (h : Lens x) (a : Int) : Lens (x.load a) := by
  unfold Wx.load; split
  · exact h.push _
  · exact h.fail _
theorem Lens.stow {x : Wx} (h : Lens x) (a : Int) : Lens (x.stow a) := by
  unfold Wx.stow; split
  · exact ⟨h.pop.1, by simpa using h.2.1, h.pop.2.2⟩
  · exact h.fail _
theorem Lens.send {x : Wx} (h : Lens x) (a m : Int) : Lens (x.send a m) := ⟨h.pop.1, h.pop.2.1, h.pop.2.2⟩
theorem Lens.two {x : Wx} (h : Lens x) (op : Int) : Lens (x.two op) := by
  unfold Wx.two; split
  · unfold Wx.div0
    refine Lens.exits (Lens.stays ?_) _ _
    exact ⟨h.1, h.2.1, h.pop.pop.2.2⟩
  · exact h.pop.pop.push _
theorem Lens.spawn {x : Wx} (h : Lens x) (l : List Actr) (a : Int) : Lens (x.spawn l a) := by
  unfold Wx.spawn; split
  · split
    · have := h.1
      exact ⟨by simp [Wx.spawned]; omega, h.2.1, by simp [Wx.spawned]; omega⟩
    · exact h.fail _
  · exact h.fail _
theorem Lens.clock {x : Wx} (h : Lens x) (t n : Int) : Lens (x.clock t n) := by
  unfold Wx.clock; split
  · exact h
  · split
    · exact ((h.till _).pop).till _
    · exact h.till _
theorem Lens.gets {x : Wx} (h : Lens x) (t : Tbl) (n : Int) (box : List (Int × Int)) : Lens (x.gets t n box) := by
  unfold Wx.gets; split
  · exact (h.push _).goes _
  · split
    · exact h.goes _
    · exact h
theorem Lens.recv {x : Wx} (h : Lens x) (l : List Tbl) (a n : Int) (box : List (Int × Int)) : Lens (x.recv l a n box) := by
  unfold Wx.recv; split
  · exact (h.stays.clock _ _).gets _ _ _
  · exact h.fail _
theorem Lens.ite {p : Prop} [Decidable p] {x y : Wx} (h : Lens x) (k : Lens y) : Lens (if p then x else y) := by split <;> assumption
theorem Lens.workF {x : Wx} (h : Lens x) (c : Wc) : Lens (workF c x) := by
  unfold Go.Proofs.Ytkhoelmbcmkhjaa.workF
  exact (h.exits _ _).stays.ite <| (h.push _).ite <| (h.push _).ite <| (h.push _).ite <| (h.push _).ite <| (h.load _).ite <| (h.stow _).ite <| (h.pop.push _).ite <| (h.setpc _).ite <| (h.pop.unl _ _).ite <| (h.spawn _ _).ite <| (h.pop.send _ _).ite <| (h.recv _ _ _ _).ite <|
    (h.pop.link _).ite <| (h.pop.exits _ _).stays.ite <| (h.pop.out _).ite <| h.pop.ite ((h.pop.push _).push _)
theorem stepF_lens (m : List Actr) (self : Int) (s : Sta) (now : Int) (box : List (Int × Int)) (h1 : s.stack.length ≤ 17592186044416) (h2 : s.regs.length ≤ 17592186044416) :
    (stepF m self s now box).1.stack.length ≤ 17592186044416 ∧ (stepF m self s now box).1.regs.length ≤ 17592186044416 ∧ (stepF m self s now box).2.1.args.length ≤ 17592186044416 := by
  have he : ∀ x : Wx, Lens x → (stepEnd x).1.stack.length ≤ 17592186044416 ∧ (stepEnd x).1.regs.length ≤ 17592186044416 ∧ (stepEnd x).2.1.args.length ≤ 17592186044416 := fun x hx => by
    unfold stepEnd; split
    · exact hx
    · simp [sta0, eff0]
  have h0 : Lens ((wx0 s).setpc (IntKind.i64.wrap (s.pc + 1))) := ⟨h1, h2, by simp [Wx.setpc, wx0, eff0]⟩
  unfold stepF; split
  · unfold stepG; split
    · exact he _ (h0.two _)
    · split
      · simp [sta0, eff0]
      · exact he _ (h0.workF _)
  · simp [sta0, eff0]
end Go.Proofs.Ytkhoelmbcmkhjaa
namespace Go.Proofs.Ytkhoelmbcmkhjaa
set_option maxRecDepth 100000

theorem pairs_sc {l : List (Int × Int)} : ∀ r ∈ pairs l, ∀ c ∈ r, c.sc = true := by intro r hr c hc; simp [pairs] at hr; obtain ⟨x, y, _, rfl⟩ := hr; simp at hc; rcases hc with rfl | rfl <;> rfl

theorem loopK.heap {P : Program} {c : Code} {fr : Nat → AVal} {nt : Nat} {η : AHeap} {n : Nat} {Q : Exit → AState → Prop} {gc : Tag c} {gQ : Tag Q} (h : ∀ H, H = η → loopK P c ⟨fr, nt, H, n⟩ Q gc gQ) : loopK P c ⟨fr, nt, η, n⟩ Q gc gQ := h _ rfl
theorem OwnFrom.len {P : Program} {t : TypeId} (ht : isSlT P t = true) {η : AHeap} {n m : Nat} {v : AVal} (h : OwnFrom η n v m) (η' : AHeap) : alenT P t v η' = some (m : Int) := by
  rcases h with ⟨rfl, rfl⟩ | ⟨r, rows, rfl, _⟩
  · exact IsL.len (η := η) (l := []) (Or.inr (Or.inl ⟨rfl, rfl⟩)) ht η'
  · have := IsL.len (η := fun _ => some (.cells 1 (ints (List.replicate m 0)))) (v := .sl r 0 m) (l := List.replicate m 0) (Or.inr (Or.inr ⟨r, 0, [], [], by simp, rfl, by simp⟩)) ht η'
    simpa using this
theorem OwnFrom.put {P : Program} {t e : TypeId} (ht : telem P t = some e) (hz : tsize P e = some 1) {η : AHeap} {n m : Nat} {v : AVal} (h : OwnFrom η n v m) {k : Nat} (hk : k < m) : ∃ r rows row, aindex P t v (.int .i64 k) η = some (.ptr r k 0) ∧ η r = some (.cells 1 rows) ∧ rows[k]? = some row ∧ n ≤ r := by
  rcases h with ⟨rfl, rfl⟩ | ⟨r, rows, rfl, h1, h2, h3⟩
  · omega
  · refine ⟨r, rows, rows[k]'(by omega), ?_, h1, List.getElem?_eq_getElem (by omega), h3⟩
    simp [aindex, ht, h1, hz, hk]
theorem OwnFrom.set {η : AHeap} {n m : Nat} {v : AVal} (h : OwnFrom η n v m) {r : Nat} {rows rows' : List (List AVal)} (hr : η r = some (.cells 1 rows)) (hl : rows'.length = rows.length) : OwnFrom (upd η r (some (.cells 1 rows'))) n v m := by
  rcases h with h | ⟨q, rows2, h1, h2, h3, h4⟩
  · exact Or.inl h
  · by_cases e : q = r
    · subst e
      rw [hr] at h2; cases h2
      exact Or.inr ⟨q, rows', h1, upd_eq _ _ _, by omega, h4⟩
    · exact Or.inr ⟨q, rows2, h1, by rw [upd_ne e]; exact h2, h3, h4⟩
/-- the heap while the lists are overwritten -/
structure PI (η2 : AHeap) (n1 n2 : Nat) (S E : List AVal) (sv rv av : AVal) (a b c : Nat) (H : AHeap) : Prop where
  old : ∀ r, r < n1 + 2 → H r = η2 r
  s : H n2 = some (.cells 6 [S])
  e : H (n2 + 1) = some (.cells 10 [E])
  o1 : OwnFrom H (n1 + 2) sv a
  o2 : OwnFrom H (n1 + 2) rv b
  o3 : OwnFrom H (n1 + 2) av c
theorem PI.put {η2 : AHeap} {n1 n2 : Nat} {S E : List AVal} {sv rv av : AVal} {a b c : Nat} {H : AHeap} (h : PI η2 n1 n2 S E sv rv av a b c H) {r : Nat} {rows rows' : List (List AVal)} (hr : H r = some (.cells 1 rows)) (hn : n1 + 2 ≤ r) (hl : rows'.length = rows.length) : PI η2 n1 n2 S E sv rv av a b c (upd H r (some (.cells 1 rows'))) := by
  refine ⟨fun q hq => by rw [upd_ne (by omega)]; exact h.old q hq, ?_, ?_, h.o1.set hr hl, h.o2.set hr hl, h.o3.set hr hl⟩
  · rw [upd_ne (fun e => by rw [← e, h.s] at hr; cases hr)]; exact h.s
  · rw [upd_ne (fun e => by rw [← e, h.e] at hr; cases hr)]; exact h.e

theorem copied15R_ac {η : AHeap} {n : Nat} {s : Sta} {sv rv : AVal} (h1 : IsL η sv s.stack) (h2 : IsL η rv s.regs) (hl1 : s.stack.length ≤ 17592186044416) (hl2 : s.regs.length ≤ 17592186044416) :
    AC Try.prog 15 [.agg (stC s sv rv)] η n (Rt (.agg (stC s (.rs 1 (ints s.stack)) (.rs 1 (ints s.regs)))) η n) := by
  refine AC.gnd1 ?_ 2 ((copied15_ac h1 h2 hl1 hl2).mono ?_)
  · refine .agg _ ?_
    intro c hc
    simp [stC] at hc
    rcases hc with rfl | rfl | rfl | rfl | rfl | rfl
    · exact .int _ _
    · exact .int _ _
    · exact ints_nq _ _
    · exact ints_nq _ _
    · exact .bool _
    · exact .int _ _
  · rintro v η' n' ⟨a, b, rfl, k1, k2, k3, k4, k5, k6, k7, k8⟩
    refine ⟨k8, ?_⟩
    rw [gnd_agg]
    refine Ent.agg ⟨?_, ?_, (FL.own k3 rfl k1).gnd hl1 0, (FL.own k4 rfl k2).gnd hl2 0, ?_, ?_, trivial⟩ rfl
    all_goals (first | rw [gnd_int]; exact Ent.refl _ | rw [gnd_bool]; exact Ent.refl _)

theorem OwnFrom.fl {η : AHeap} {n : Nat} {v : AVal} {l : List Int} (h : OwnFrom η n v l.length) (k : IsL η v l) : FL n η v l := by
  rcases k with rfl | ⟨rfl, rfl⟩ | ⟨r, o, I, J, rfl, h1, h2⟩
  · exact Or.inl rfl
  · exact Or.inr (Or.inl ⟨rfl, rfl⟩)
  · rcases h with ⟨h, _⟩ | ⟨q, rows, h3, _, _, h4⟩
    · cases h
    · cases h3; exact Or.inr (Or.inr ⟨_, _, I, J, h4, rfl, h1, h2⟩)
theorem case_stepR_ac (c : Cse) (hc : Cse64 c) (η : AHeap) (n : Nat) : AC Try.prog 16 [.agg (cseC c)] η n (Rt (stepV (stepF c.m c.self c.s c.now c.box)) η n) := by
  have hlen := stepF_lens c.m c.self c.s c.now c.box hc.s.stack.1 hc.s.regs.1
  refine AC.gnd1 (stepV_nq _ η) 3 ((case_step_ac c hc η n).mono ?_)
  rintro v η' n' ⟨sv, rv, av, rfl, h1, h2, h3, h4, h5, o1, o2, o3⟩
  exact fin15 (n' := n') (o1.fl h1) (o2.fl h2) (o3.fl h3) hlen.1 hlen.2.1 hlen.2.2 h4
theorem pairs_frz (F : Nat → Bool) (η : AHeap) (f : Nat) (l : List (Int × Int)) : (pairs l).map (fun row => row.map (frz F η f)) = pairs l := by
  have h : ∀ k n, frz F η f (.int k n) = .int k n := fun k n => by cases f <;> rfl
  simp [pairs, h]

set_option maxHeartbeats 4000000 in
theorem pure_ac (c : Cse) (η : AHeap) (n : Nat) (hc : Cse64 c) : AC Try.prog 3 [.agg (cseC c)] η n (Rt (.bool true) η n) := by
  refine AC.pure (.bool _) ?_
  have h3 := fun η n => case_step_ac c hc η n
  have h8 := fun η n => case_stepR_ac c hc η n
  have h5 := fun η n => step15_ac c.m c.self c.s c.now c.box η n hc.m hc.s hc.box.1
  have h4 := fun (η : AHeap) n => copied15R_ac (η := η) (n := n) (s := c.s) (sv := .rs 1 (ints c.s.stack)) (rv := .rs 1 (ints c.s.regs)) (Or.inl rfl) (Or.inl rfl) hc.s.stack.1 hc.s.regs.1
  have h6 := fun (η : AHeap) n => same15_ac (η := η) (n := n) (s := c.s) (t := c.s) (sv := .rs 1 (ints c.s.stack)) (rv := .rs 1 (ints c.s.regs)) (tv := .rs 1 (ints c.s.stack)) (uv := .rs 1 (ints c.s.regs)) (Or.inl rfl) (Or.inl rfl) (Or.inl rfl) (Or.inl rfl) hc.s.stack.1 hc.s.regs.1
  have e6 : sameS c.s c.s = true := (sameS_eq _ _).2 rfl
  rw [e6] at h6
  have h7 := fun η n => same13_ac (η := η) (n := n) c.box c.box hc.box.1
  simp only [cseC, stC, modV] at h3 h4 h5 h6 h8
  refine AC.fresh fun hf => ?_; refine AC.enter Try.func3 rfl Try.ntmps3 (by simp) ?_
  have fin : ∀ {η' : AHeap}, (∀ r, r < n → η' r = η r) → η.le η' := fun h => le_old hf h
  simp [cseC]
  refine ACK.rt (lives15_ac _ _) ?_
  simp [aload, afield, apart, upd_apply]
  refine ACK.rt (h4 _ _) ?_
  have hb2 : c.box.length * 16 ≤ 140737488355328 := Nat.le_trans hc.box2 (by decide)
  have hb1 : c.box.length ≤ 8796093022208 := by omega
  simp [aload, afield, apart, upd_apply, Nat.add_assoc, astore, upd_upd, appK, aappend, arows, lenMax]
  refine ⟨pairs_sc, by omega, by omega, ?_⟩
  refine ACK.use (h3 _ _).freshP ?_
  intro r2 η2 n2 ⟨⟨sv, rv, av, e1, i1, i2, i3, c1, c2, o1, o2, o3⟩, hf2⟩
  subst e1
  have p0 := c1 n (by omega)
  have p1 := c1 (n + 1) (by omega)
  have p2 := c1 (n + 2) (by omega)
  simp [upd_apply] at p0 p1 p2
  have s1 := i1.sc
  have s2 := i2.sc
  have s3 := i3.sc
  have d1 := i1.ac
  have d2 := i2.ac
  have d3 := i3.ac
  have z0 : ¬ n = n2 := by omega
  have z1 : ¬ n + 1 = n2 := by omega
  have z2 : ¬ n + 2 = n2 := by omega
  have z3 : ¬ n = n2 + 1 := by omega
  have z4 : ¬ n = n2 := by omega
  have hlen := stepF_lens c.m c.self c.s c.now c.box hc.s.stack.1 hc.s.regs.1
  generalize hR : stepF c.m c.self c.s c.now c.box = R at *
  obtain ⟨⟨Ra, Rp, Rs, Rr, Rw, Ru⟩, ⟨Rk, Rd, ⟨Rm1, Rm2⟩, Rac, Rar, Rn, ⟨Rr1, Rr2⟩, Rt⟩, Re⟩ := R
  simp only at i1 i2 i3 o1 o2 o3 hlen
  simp only [stepV] at h5 h8
  obtain ⟨l1, l2, l3⟩ := hlen
  simp [stC, effC, upd_apply, Nat.add_assoc, astore, s1, s2, s3]
  have low : ∀ {v : AVal} {m : Nat} (o o' : Option AObj), OwnFrom η2 (n + 3) v m → OwnFrom (upd (upd η2 n2 o) (n2 + 1) o') (n + 3) v m := fun o o' h => by
    rcases h with h | ⟨r, rows, k1, k2, k3, k4⟩
    · exact Or.inl h
    · have r1 : r ≠ n2 := fun e => by rw [e, hf2 n2 (Nat.le_refl _)] at k2; cases k2
      have r2 : r ≠ n2 + 1 := fun e => by rw [e, hf2 (n2 + 1) (by omega)] at k2; cases k2
      exact Or.inr ⟨r, rows, k1, by rw [upd_ne r2, upd_ne r1]; exact k2, k3, k4⟩
  refine loopK.heap fun H0 hH0 => ?_
  refine loopK.inv [8, 31, 32, 33, 34, 35, 36, 37, 38, 39, 40, 41] (fun x : Nat × AHeap => x.1 ≤ Rs.length ∧ PI η2 (n + 1) n2 [.int .i64 Ra, .int .i64 Rp, sv, rv, .bool Rw, .int .i64 Ru] [.int .i64 Rk, .int .i64 Rd, .int .i64 Rm1, .int .i64 Rm2, .int .i64 Rac, av, .int .i64 Rn, .int .i64 Rr1, .int .i64 Rr2, .int .i64 Rt] sv rv av Rs.length Rr.length Rar.length x.2) (fun x => [(8, .int .i64 x.1)]) (fun x => x.2) (fun _ => n2 + 2) (fun x => Rs.length - x.1) (0, H0) ?_ (by simp) (AHeap.le_rfl _) (Nat.le_refl _) ?_
  · have hH : H0 = upd (upd η2 n2 (some (.cells 6 [[.int .i64 Ra, .int .i64 Rp, sv, rv, .bool Rw, .int .i64 Ru]]))) (n2 + 1) (some (.cells 10 [[.int .i64 Rk, .int .i64 Rd, .int .i64 Rm1, .int .i64 Rm2, .int .i64 Rac, av, .int .i64 Rn, .int .i64 Rr1, .int .i64 Rr2, .int .i64 Rt]])) := by
      rw [hH0]
      funext x
      simp only [upd_apply]
      by_cases x1 : x = n2 + 1
      · subst x1; simp
      · by_cases x2 : x = n2
        · subst x2; simp
        · simp [x1, x2]
    refine ⟨Nat.zero_le _, ?_⟩
    show PI η2 (n + 1) n2 _ _ sv rv av _ _ _ H0
    rw [hH]
    exact ⟨fun r hr => by rw [upd_ne (by omega), upd_ne (by omega)], by rw [upd_ne (by omega), upd_eq], by rw [upd_eq], low _ _ o1, low _ _ o2, low _ _ o3⟩
  intro ⟨k, H⟩ ⟨k1, k2⟩
  simp only at k1 k2
  have hl1 := k2.o1.len (P := Try.prog) (t := 25) (by simp)
  simp [aload, afield, apart, k2.s, hl1]
  refine CondP.dec (fun g1 => ?_) (fun g1 => ?_)
  · have hk : k < Rs.length := by omega
    have ewk : IntKind.i64.wrap ((k : Int) + 1) = (k : Int) + 1 := wrap_id (by omega) (by omega)
    obtain ⟨r, rows, row, t1, t2, t3, t4⟩ := k2.o1.put (P := Try.prog) (t := 25) (e := 2) (by simp) (by simp) hk
    simp [g1, aload, afield, apart, k2.s, t1, astore, t2, t3, ewk]
    refine endK.heap fun G hG => ?_
    refine endK.intro (k + 1, G) ⟨by simp only; omega, ?_⟩ (by simp) (by repeat (first | exact Agree.mask _ _ | refine Agree.setf rfl ?_ | refine Agree.inner rfl ?_)) (AHeap.le_rfl _) (Nat.le_refl _) (show Rs.length - (k + 1) < Rs.length - k by omega)
    subst hG
    exact k2.put t2 t4 (by simp)
  simp [g1]
  refine loopK.inv [9, 42, 43, 44, 45, 46, 47, 48, 49, 50, 51, 52] (fun x : Nat × AHeap => x.1 ≤ Rr.length ∧ PI η2 (n + 1) n2 [.int .i64 Ra, .int .i64 Rp, sv, rv, .bool Rw, .int .i64 Ru] [.int .i64 Rk, .int .i64 Rd, .int .i64 Rm1, .int .i64 Rm2, .int .i64 Rac, av, .int .i64 Rn, .int .i64 Rr1, .int .i64 Rr2, .int .i64 Rt] sv rv av Rs.length Rr.length Rar.length x.2) (fun x => [(9, .int .i64 x.1)]) (fun x => x.2) (fun _ => n2 + 2) (fun x => Rr.length - x.1) (0, H) ⟨Nat.zero_le _, k2⟩ (by simp) (AHeap.le_rfl _) (Nat.le_refl _) ?_
  clear k2
  intro ⟨j1, H1⟩ ⟨k1, k2⟩
  simp only at k1 k2
  have hl1 := k2.o2.len (P := Try.prog) (t := 25) (by simp)
  simp [aload, afield, apart, k2.s, hl1]
  refine CondP.dec (fun g1 => ?_) (fun g1 => ?_)
  · have hk : j1 < Rr.length := by omega
    have ewk : IntKind.i64.wrap ((j1 : Int) + 1) = (j1 : Int) + 1 := wrap_id (by omega) (by omega)
    obtain ⟨r, rows, row, t1, t2, t3, t4⟩ := k2.o2.put (P := Try.prog) (t := 25) (e := 2) (by simp) (by simp) hk
    simp [g1, aload, afield, apart, k2.s, t1, astore, t2, t3, ewk]
    refine endK.heap fun G hG => ?_
    refine endK.intro (j1 + 1, G) ⟨by simp only; omega, ?_⟩ (by simp) (by repeat (first | exact Agree.mask _ _ | refine Agree.setf rfl ?_ | refine Agree.inner rfl ?_)) (AHeap.le_rfl _) (Nat.le_refl _) (show Rr.length - (j1 + 1) < Rr.length - j1 by omega)
    subst hG
    exact k2.put t2 t4 (by simp)
  clear hl1
  simp [g1]
  refine loopK.inv [10, 53, 54, 55, 56, 57, 58, 59, 60, 61, 62, 63] (fun x : Nat × AHeap => x.1 ≤ Rar.length ∧ PI η2 (n + 1) n2 [.int .i64 Ra, .int .i64 Rp, sv, rv, .bool Rw, .int .i64 Ru] [.int .i64 Rk, .int .i64 Rd, .int .i64 Rm1, .int .i64 Rm2, .int .i64 Rac, av, .int .i64 Rn, .int .i64 Rr1, .int .i64 Rr2, .int .i64 Rt] sv rv av Rs.length Rr.length Rar.length x.2) (fun x => [(10, .int .i64 x.1)]) (fun x => x.2) (fun _ => n2 + 2) (fun x => Rar.length - x.1) (0, H1) ⟨Nat.zero_le _, k2⟩ (by simp) (AHeap.le_rfl _) (Nat.le_refl _) ?_
  clear k2
  intro ⟨j2, H2⟩ ⟨k1, k2⟩
  simp only at k1 k2
  have hl1 := k2.o3.len (P := Try.prog) (t := 25) (by simp)
  simp [aload, afield, apart, k2.e, hl1]
  refine CondP.dec (fun g1 => ?_) (fun g1 => ?_)
  · have hk : j2 < Rar.length := by omega
    have ewk : IntKind.i64.wrap ((j2 : Int) + 1) = (j2 : Int) + 1 := wrap_id (by omega) (by omega)
    obtain ⟨r, rows, row, t1, t2, t3, t4⟩ := k2.o3.put (P := Try.prog) (t := 25) (e := 2) (by simp) (by simp) hk
    simp [g1, aload, afield, apart, k2.e, t1, astore, t2, t3, ewk]
    refine endK.heap fun G hG => ?_
    refine endK.intro (j2 + 1, G) ⟨by simp only; omega, ?_⟩ (by simp) (by repeat (first | exact Agree.mask _ _ | refine Agree.setf rfl ?_ | refine Agree.inner rfl ?_)) (AHeap.le_rfl _) (Nat.le_refl _) (show Rar.length - (j2 + 1) < Rar.length - j2 by omega)
    subst hG
    exact k2.put t2 t4 (by simp)
  clear hl1
  simp [g1, aload, afield, apart]
  have q0 : H2 n = η2 n := k2.old n (by omega)
  have q1 : H2 (n + 1) = η2 (n + 1) := k2.old (n + 1) (by omega)
  have q2 : H2 (n + 2) = η2 (n + 2) := k2.old (n + 2) (by omega)
  rw [p0] at q0; rw [p1] at q1; rw [p2] at q2
  simp [aload, apart, q0, q1]
  refine ACK.rt (h6 _ _) ?_
  simp [aload, afield, apart, q0]
  refine ACK.rt (AC.lend 3 (fun _ _ _ _ _ h => by cases h; exact .bool _) (AC.args (h7 _ _) ?_)) ?_
  · simp only [List.map_cons, List.map_nil, frz, q2, lenMax]
    rw [if_pos ⟨trivial, by simp, hc.box.1⟩]
    simp only [List.drop_zero]
    rw [List.take_of_length_le (by simp)]
    exact ⟨Ent.refl _, by rw [pairs_frz]; exact Ent.refl _, trivial⟩
  simp [aload, apart, q0]
  refine ACK.rt (h8 _ _) ?_
  have zk : ∀ k, ¬ n = n2 + k := fun k => by omega
  simp [stC, effC, aload, afield, apart, upd_apply, Nat.add_assoc, astore, q0, q1, zk]
  refine ACK.freeze [n + 2] [] 1 ?_
  refine ACK.rt (AC.args (h5 _ _) ?_) ?_
  · simp [frz, upd_apply, q2, zk, z0, lenMax, hc.box.1]
    rw [List.take_of_length_le (by simp)]; exact Ent.refl _
  have zr : ∀ k, ¬ n2 + k = n := fun k => by omega
  have z5 : ¬ n2 = n := by omega
  have h9 := fun (η : AHeap) n => same15_ac (η := η) (n := n) (s := ⟨Ra, Rp, Rs, Rr, Rw, Ru⟩) (t := ⟨Ra, Rp, Rs, Rr, Rw, Ru⟩) (sv := .rs 1 (ints Rs)) (rv := .rs 1 (ints Rr)) (tv := .rs 1 (ints Rs)) (uv := .rs 1 (ints Rr)) (Or.inl rfl) (Or.inl rfl) (Or.inl rfl) (Or.inl rfl) l1 l2
  have h10 := fun (η : AHeap) n => sameE15_ac (η := η) (n := n) (a := ⟨Rk, Rd, (Rm1, Rm2), Rac, Rar, Rn, (Rr1, Rr2), Rt⟩) (b := ⟨Rk, Rd, (Rm1, Rm2), Rac, Rar, Rn, (Rr1, Rr2), Rt⟩) (av := .rs 1 (ints Rar)) (bv := .rs 1 (ints Rar)) (Or.inl rfl) (Or.inl rfl) l3
  rw [(sameS_eq _ _).2 rfl] at h9
  rw [sameE_rfl] at h10
  simp only [stC, effC] at h9 h10
  simp [stC, effC, frzH, aload, apart, upd_apply, Nat.add_assoc, astore, z5]
  refine ACK.rt (h9 _ _) ?_
  simp [aload, apart, upd_apply, frzH, zr]
  refine ACK.rt (h10 _ _) ?_
  simp
  refine resK.of (η' := η) (fin fun r hr => ?_) _ (Nat.le_refl _) ⟨rfl, rfl⟩
  have g0 : ∀ k, ¬ r = n + k := fun k => by omega
  have g1 : ∀ k, ¬ r = n2 + k := fun k => by omega
  have g2 : ¬ r = n := by omega
  have g3 : ¬ r = n2 := by omega
  simp [upd_apply, frzH, g0, g1, g2, k2.old r (by omega), c1 r (by omega)]
end Go.Proofs.Ytkhoelmbcmkhjaa
namespace Go.Proofs.Ytkhoelmbcmkhjaa
open Go.ChangeShapes Go.WideShapes Go.ChangeAt Go.WideMaps Go.WideElems Go.RowKit

set_option maxRecDepth 100000 in
theorem procPure_lifted (os : Os) (started : os.Started) (H : Type) (enc : TypeId × Value → H) :
    ReturnsInHanded {} Try.checked os 3 .any (Rows.procPureSpec.pre6 enc Try.prog Try.f3 Rows.procPureRow.domain false) (Rows.procPureSpec.post enc Try.prog Try.f3 false true false false) := by
  refine returnsInHanded_of_change_sized (C := Try.checked) own started (by kernel_rfl) Try.func3
    (ChangeSpec.witness6 (enc := enc) (C := Try.checked) false ⟨#[], #[.agg #[.slice none 0 0, .int .i64 0, .int .i64 0, .int .i64 0, .slice none 0 0, .slice none 0 0, .bool false, .int .i64 0, .int .i64 0, .slice none 0 0]], []⟩ 12 (by kernel_rfl) (by kernel_rfl) (by kernel_rfl) (by kernel_rfl)) ?_
  intro W base args ds gs before hval0 hW _ hsz0 _
  have hval : ∀ (j : Nat) t v, Try.f3.params[j]? = some t → args[j]? = some v → Value.okWide Try.prog W .any base t v := hval0
  obtain ⟨p, q, hA0, hV, rfl, hfz, hnd⟩ := id hW
  have hA : DataW.TrodAll enc Try.prog W 0 (fun _ => true) true Try.f3.params.toList args.toList ds p := hA0
  have hsz : (DataW.weightsEach Try.prog (Try.f3.params.toList ++ Rows.procPureSpec.plain.varTypes Try.prog) (ds ++ gs)).all (· ≤ reachBytes) = true := hsz0
  rw [Try.params3] at hA hval hsz
  obtain ⟨v0, d0, rfl, rfl, h0⟩ := trodAll_one hA
  obtain ⟨a0, w0, g0⟩ := arg_agg (okWide_agg Try.underlying30 (hval 0 30 v0 rfl rfl)) (fun _ => rfl) lies_case h0 (fun n hn => by simpa using List.all_eq_true.1 hsz _ (DataW.weights_mem_each (j := 0) (t := 30) rfl rfl n hn))
  refine (law_calls (((pure_ac a0 heap0 0 w0).mono fun v _ _ h => h.1)) (W := W) (vals := #[v0]) rfl (args1 g0)).mono fun e W' ⟨he, hw⟩ => ?_
  subst he
  exact ⟨_, rfl, post_true laidOut (by kernel_rfl) rfl rfl Try.underlying4 hW rfl hw⟩

theorem procPure_holds : Rows.ProcPureSaid :=
  OpenClaim.holds_of_wide 3 Try.f3 rfl rfl rfl rfl rfl rfl rfl ⟨rfl, rfl, rfl, rfl, rfl⟩ rfl rfl rfl rfl rfl (by kernel_rfl) Try.func3 (by kernel_rfl)
    (of_decide_eq_true (by kernel_rfl)) (by unfold Func.isWrapper; first | (rw [if_pos (by decide +kernel)]; kernel_rfl) | (rw [if_neg (by decide +kernel)]; exact ⟨rfl, rfl⟩))
    (fun os started H enc _ => procPure_lifted os started H enc)
#print axioms procPure_holds
end Go.Proofs.Ytkhoelmbcmkhjaa
