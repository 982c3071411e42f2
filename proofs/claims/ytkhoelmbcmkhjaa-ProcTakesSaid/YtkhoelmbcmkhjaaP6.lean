/- proc's deeds, those that reach the registers; a value from the stack. -/
import Derived.Test.YtkhoelmbcmkhjaaP5
namespace Go.Proofs.Ytkhoelmbcmkhjaa
set_option maxRecDepth 100000

section
variable {B : Nat} {F : List Nat} {η : AHeap} {g n : Nat} {c : Wc} {x : Wx}
def Wx.load (x : Wx) (a : Int) : Wx := if 0 ≤ a ∧ a < x.s.regs.length then x.push (x.s.regs.getD a.toNat 0) else x.fail 6
def Wx.stow (x : Wx) (a : Int) : Wx := if 0 ≤ a ∧ a < x.s.regs.length then { x.pop with s := { x.pop.s with regs := x.s.regs.set a.toNat x.top } } else x.fail 6
def Wx.send (x : Wx) (tag m : Int) : Wx := { x.pop with eff := { x.pop.eff with kind := 2, dest := x.top, msg := (tag, m) } }
/-- a deed that takes a value from the stack -/
theorem asks1_ac {q f : Nat} {G : Int → Wx → Wx} (hq : η q = some (.cells 1 [[.func f [] []]])) (hqi : ¬ In B F q) (hb : HB Try.prog f = true) (hl : x.s.stack.length ≤ 17592186044416)
    (hc : ∀ η n x m, B ≤ n → x.s.stack.length ≤ 17592186044416 → WkAt B F η g c x → AC Try.prog f [.ptr g 0 0, .int .i64 m] η n (WPost B F η g c (G m x) (.tup []) n)) (hn : B ≤ n) (h : WkAt B F η g c x) :
    AC Try.prog 136 [.ptr g 0 0, .ptr q 0 0] η n (WPost B F η g c (G x.top x.pop) (.tup []) n) := by
  have h1 := pop_ac (n := n) h hl
  have hl2 : x.pop.s.stack.length ≤ 17592186044416 := by
    unfold Wx.pop Wx.fail; split
    · split <;> exact hl
    · simp; omega
  refine AC.enter Try.func136 rfl Try.ntmps136 (by simp) ?_
  simp
  refine drawK.intro mixed [(0, []), (1, []), (2, []), (3, [0]), (4, [])] (by kernel_rfl) ?_
  simp [aload, apart, hq, hb]
  refine ACK.use h1 ?_
  intro r η1 n1 ⟨e1, e2, e3, e4⟩
  subst e1
  have hq1 := (e3 q hqi).trans hq
  simp [lk_some, chkK, aload, apart, hq1, hb]
  refine ACK.use (hc η1 n1 _ _ (by omega) hl2 e2) ?_
  intro r η2 n2 ⟨f1, f2, f3, f4⟩
  subst f1
  have hq2 := (f3 q hqi).trans hq1
  simp [lk_some, chkK, aload, apart, hq2, hb]
  exact resK.rt ⟨rfl, f2, e3.trans f3, by omega⟩
theorem regs_get {l : List Int} {a : Int} (h : 0 ≤ a ∧ a < l.length) : (ints l)[a.toNat]? = some [.int .i64 (l.getD a.toNat 0)] := by
  have : a.toNat < l.length := by omega
  rw [ints_get, List.getElem?_eq_getElem this, List.getD_eq_getElem?_getD, List.getElem?_eq_getElem this]; rfl
theorem d6_ac (h : WkAt B F η g c x) (hn : B ≤ n) : AC Try.prog 105 [.ptr g 0 0] η n (WPost B F η g c (x.load c.arg) (.tup []) n) := by
  have h1 := named_ac (n := n) h x.s.regs.length
  obtain ⟨sr, rr, av, J, h⟩ := h
  have hb := h.blk
  have hr := h.rg
  by_cases hd : 0 ≤ c.arg ∧ c.arg < x.s.regs.length
  · have hu : x.load c.arg = x.push (x.s.regs.getD c.arg.toNat 0) := if_pos hd
    have hg := regs_get hd
    rw [if_pos hd, decide_eq_true hd] at h1
    rw [hu]
    refine AC.enter Try.func105 rfl Try.ntmps105 (by simp) ?_
    simp [aload, afield, apart, hb, workC, alenT]
    refine ACK.use h1 ?_
    intro r η1 n1 ⟨e1, e2, e3, e4⟩
    subst e1
    simp
    refine drawK.intro mixed [(0, []), (1, []), (2, []), (3, []), (4, []), (5, []), (6, []), (7, []), (8, []), (9, []), (10, []), (11, []), (12, []), (13, [])] (by kernel_rfl) ?_
    have e2' := e2
    obtain ⟨sr, rr, av, J, k⟩ := e2'
    have hb1 := k.blk
    have hr1 := k.rg
    simp [aload, afield, apart, hb1, workC, aindex, hr1, hd, hg, lk_some, chkK]
    refine ACK.use (push_ac e2 (by omega) _) ?_
    intro r η2 n2 ⟨f1, f2, f3, f4⟩
    subst f1
    simp
    exact resK.rt ⟨rfl, by rw [List.getD_eq_getElem?_getD, List.getElem?_eq_getElem (show c.arg.toNat < x.s.regs.length by omega)]; exact f2, e3.trans f3, by omega⟩
  · have hu : x.load c.arg = x.fail 6 := if_neg hd
    rw [if_neg hd, decide_eq_false hd] at h1
    rw [hu]
    refine AC.enter Try.func105 rfl Try.ntmps105 (by simp) ?_
    simp [aload, afield, apart, hb, workC, alenT]
    refine ACK.use h1 ?_
    intro r η1 n1 ⟨e1, e2, e3, e4⟩
    subst e1
    simp
    exact resK.rt ⟨rfl, e2, e3, e4⟩
theorem regs_set {l : List Int} {a m : Int} : (ints l).set a.toNat [.int .i64 m] = ints (l.set a.toNat m) := by simp [ints, List.map_set]
theorem d7_ac (h : WkAt B F η g c x) (hl : x.s.stack.length ≤ 17592186044416) : AC Try.prog 107 [.ptr g 0 0] η n (WPost B F η g c (x.stow c.arg) (.tup []) n) := by
  have h1 := named_ac (n := n) h x.s.regs.length
  obtain ⟨sr, rr, av, J, h⟩ := h
  have hb := h.blk
  have hr := h.rg
  by_cases hd : 0 ≤ c.arg ∧ c.arg < x.s.regs.length
  · have hu : x.stow c.arg = { x.pop with s := { x.pop.s with regs := x.s.regs.set c.arg.toNat x.top } } := if_pos hd
    have hp : x.pop.s.regs = x.s.regs := by unfold Wx.pop Wx.fail; split <;> (try split) <;> rfl
    have hlt : c.arg.toNat < x.s.regs.length := by omega
    have hz : (ints x.s.regs)[c.arg.toNat]? = some [.int .i64 (x.s.regs.getD c.arg.toNat 0)] := regs_get hd
    rw [if_pos hd, decide_eq_true hd] at h1
    rw [hu]
    refine AC.enter Try.func107 rfl Try.ntmps107 (by simp) ?_
    simp [aload, afield, apart, hb, workC, alenT]
    refine ACK.use h1 ?_
    intro r η1 n1 ⟨e1, e2, e3, e4⟩
    subst e1
    simp
    refine drawK.intro mixed [(0, []), (1, []), (2, []), (3, []), (4, []), (5, []), (6, []), (7, []), (8, []), (9, []), (10, []), (11, [4, 9]), (12, []), (13, [])] (by kernel_rfl) ?_
    obtain ⟨sr, rr, av, J, k⟩ := e2
    have hb1 := k.blk
    simp [aload, afield, apart, hb1, workC]
    refine ACK.use (pop_acR k hl) ?_
    intro r η2 n2 ⟨f1, ⟨J', f2⟩, f3, f4⟩
    subst f1
    have hb2 := f2.blk
    have hr2 := f2.rg
    rw [hp] at hr2 hb2
    simp [aload, afield, apart, hb2, workC, aindex, hr2, hd, hz, lk_some, chkK, astore, regs_set]
    refine resK.rt ⟨rfl, ⟨sr, rr, av, J', ?_⟩, (e3.trans f3).upd f2.ir, by omega⟩
    refine ⟨by rw [upd_ne f2.gr, f2.blk, hp]; simp [workC], by rw [upd_ne f2.srr]; exact f2.st, upd_eq .., ?_, f2.gs, f2.gr, f2.srr, f2.ig, f2.is, f2.ir⟩
    rcases f2.ar with k | ⟨ar, k1, k2, k3, k4, k5, k6⟩
    · exact Or.inl k
    · exact Or.inr ⟨ar, k1, by rw [upd_ne k5]; exact k2, k3, k4, k5, k6⟩
  · have hu : x.stow c.arg = x.fail 6 := if_neg hd
    rw [if_neg hd, decide_eq_false hd] at h1
    rw [hu]
    refine AC.enter Try.func107 rfl Try.ntmps107 (by simp) ?_
    simp [aload, afield, apart, hb, workC, alenT]
    refine ACK.use h1 ?_
    intro r η1 n1 ⟨e1, e2, e3, e4⟩
    subst e1
    simp
    exact resK.rt ⟨rfl, e2, e3, e4⟩
theorem d11_ac (h : WkAt B F η g c x) (hl : x.s.stack.length ≤ 17592186044416) (m : Int) : AC Try.prog 113 [.ptr g 0 0, .int .i64 m] η n (WPost B F η g c (x.send c.arg m) (.tup []) n) := by
  obtain ⟨sr, rr, av, J, h⟩ := h
  have hb := h.blk
  refine AC.enter Try.func113 rfl Try.ntmps113 (by simp) ?_
  simp
  refine drawK.intro mixed [(0, []), (1, []), (2, []), (3, []), (5, []), (6, []), (7, []), (8, []), (9, []), (10, []), (11, []), (4, [9]), (12, []), (13, []), (14, []), (15, []), (16, []), (17, []), (18, []), (19, []), (20, []), (21, []), (22, []), (23, [])] (by kernel_rfl) ?_
  simp [aload, afield, apart, hb, workC, abuild, aplace, afillP]
  refine ACK.use (pop_acR h hl) ?_
  intro r η2 n2 ⟨f1, ⟨J', f2⟩, f3, f4⟩
  subst f1
  have hb2 := f2.blk
  simp [aload, afield, apart, hb2, workC, lk_some, chkK, astore, upd_eq, upd_upd]
  exact resK.rt ⟨rfl, ⟨sr, rr, av, J', f2.turn (x.send c.arg m) rfl rfl rfl (by simp [workC, Wx.send])⟩, f3.upd f2.ig, by omega⟩
end
end Go.Proofs.Ytkhoelmbcmkhjaa
