/- proc's deeds, the small ones. -/
import Derived.Test.YtkhoelmbcmkhjaaP4
namespace Go.Proofs.Ytkhoelmbcmkhjaa
set_option maxRecDepth 100000

section
variable {B : Nat} {F : List Nat} {η : AHeap} {g n : Nat} {c : Wc} {x : Wx}
def Wx.setpc (x : Wx) (a : Int) : Wx := { x with s := { x.s with pc := a } }
def Wx.unl (x : Wx) (a m : Int) : Wx := if m = 0 then x.setpc a else x
def Wx.link (x : Wx) (m : Int) : Wx := { x with eff := { x.eff with kind := 4, dest := m } }
def Wx.out (x : Wx) (m : Int) : Wx := { x with eff := { x.eff with kind := 1, n := m } }
theorem d1_ac (h : WkAt B F η g c x) : AC Try.prog 99 [.ptr g 0 0] η n (WPost B F η g c (x.exits 0 0).stays (.tup []) n) := by
  have h1 := exits_ac (n := n) h 0 0
  refine AC.enter Try.func99 rfl Try.ntmps99 (by simp) ?_
  simp
  refine ACK.use h1 ?_
  intro r η1 n1 ⟨e1, e2, e3, e4⟩
  subst e1
  simp
  refine ACK.use (stays_ac e2) ?_
  intro r η2 n2 ⟨f1, f2, f3, f4⟩
  subst f1
  simp
  exact resK.rt ⟨rfl, f2, e3.trans f3, by omega⟩
theorem d2_ac (h : WkAt B F η g c x) : AC Try.prog 101 [.ptr g 0 0] η n (WPost B F η g c x (.int .i64 c.arg) n) := by
  have hh := h
  obtain ⟨sr, rr, av, J, h⟩ := h
  have hb := h.blk
  refine AC.enter Try.func101 rfl Try.ntmps101 (by simp) ?_
  simp [aload, afield, apart, hb, workC]
  exact resK.rt ⟨rfl, hh, Keep.refl _ _ _, Nat.le_refl _⟩
theorem d3_ac (h : WkAt B F η g c x) : AC Try.prog 102 [.ptr g 0 0] η n (WPost B F η g c x (.int .i64 1) n) := by
  refine AC.enter Try.func102 rfl Try.ntmps102 (by simp) ?_
  simp
  exact resK.rt ⟨rfl, h, Keep.refl _ _ _, Nat.le_refl _⟩
theorem d4_ac (h : WkAt B F η g c x) : AC Try.prog 103 [.ptr g 0 0] η n (WPost B F η g c x (.int .i64 0) n) := by
  refine AC.enter Try.func103 rfl Try.ntmps103 (by simp) ?_
  simp
  exact resK.rt ⟨rfl, h, Keep.refl _ _ _, Nat.le_refl _⟩
theorem d5_ac (h : WkAt B F η g c x) : AC Try.prog 104 [.ptr g 0 0] η n (WPost B F η g c x (.int .i64 c.self) n) := by
  have hh := h
  obtain ⟨sr, rr, av, J, h⟩ := h
  have hb := h.blk
  refine AC.enter Try.func104 rfl Try.ntmps104 (by simp) ?_
  simp [aload, afield, apart, hb, workC]
  exact resK.rt ⟨rfl, hh, Keep.refl _ _ _, Nat.le_refl _⟩
theorem d8_ac (h : WkAt B F η g c x) (hl : x.s.stack.length ≤ 17592186044416) : AC Try.prog 108 [.ptr g 0 0] η n (WPost B F η g c x.pop (.int .i64 (if x.top = 0 then 1 else 0)) n) := by
  have h1 := pop_ac (n := n) h hl
  refine AC.enter Try.func108 rfl Try.ntmps108 (by simp) ?_
  simp
  refine ACK.use h1 ?_
  intro r η1 n1 ⟨e1, e2, e3, e4⟩
  subst e1
  simp
  refine ACK.rt (truth_ac _ _ _) ?_
  simp
  exact resK.rt ⟨by simp [truthF], e2, e3, e4⟩
theorem d9_ac (h : WkAt B F η g c x) : AC Try.prog 109 [.ptr g 0 0] η n (WPost B F η g c (x.setpc c.arg) (.tup []) n) := by
  obtain ⟨sr, rr, av, J, h⟩ := h
  have hb := h.blk
  have fin := fun cs hc => h.turn (cs := cs) (x.setpc c.arg) rfl rfl rfl hc
  refine AC.enter Try.func109 rfl Try.ntmps109 (by simp) ?_
  simp [aload, afield, apart, hb, workC, astore]
  exact resK.rt ⟨rfl, ⟨sr, rr, av, J, fin _ (by simp [workC, Wx.setpc])⟩, (Keep.refl _ _ _).upd h.ig, Nat.le_refl _⟩
theorem d10_ac (h : WkAt B F η g c x) (m : Int) : AC Try.prog 111 [.ptr g 0 0, .int .i64 m] η n (WPost B F η g c (x.unl c.arg m) (.tup []) n) := by
  have hh := h
  obtain ⟨sr, rr, av, J, h⟩ := h
  have hb := h.blk
  by_cases hm : m = 0
  · have fin := fun cs hc => h.turn (cs := cs) (x.setpc c.arg) rfl rfl rfl hc
    have hu : x.unl c.arg m = x.setpc c.arg := if_pos hm
    rw [hu]
    refine AC.enter Try.func111 rfl Try.ntmps111 (by simp) ?_
    simp [aload, afield, apart, hb, workC, astore, hm]
    exact resK.rt ⟨rfl, ⟨sr, rr, av, J, fin _ (by simp [workC, Wx.setpc])⟩, (Keep.refl _ _ _).upd h.ig, Nat.le_refl _⟩
  · have hu : x.unl c.arg m = x := if_neg hm
    rw [hu]
    refine AC.enter Try.func111 rfl Try.ntmps111 (by simp) ?_
    simp [hm]
    exact resK.rt ⟨rfl, hh, Keep.refl _ _ _, Nat.le_refl _⟩
theorem d12_ac (h : WkAt B F η g c x) (m : Int) : AC Try.prog 115 [.ptr g 0 0, .int .i64 m] η n (WPost B F η g c (x.link m) (.tup []) n) := by
  obtain ⟨sr, rr, av, J, h⟩ := h
  have hb := h.blk
  have fin := fun cs hc => h.turn (cs := cs) (x.link m) rfl rfl rfl hc
  refine AC.enter Try.func115 rfl Try.ntmps115 (by simp) ?_
  simp [aload, afield, apart, hb, workC, astore, upd_eq, upd_upd]
  exact resK.rt ⟨rfl, ⟨sr, rr, av, J, fin _ (by simp [workC, Wx.link])⟩, (Keep.refl _ _ _).upd h.ig, Nat.le_refl _⟩
theorem d13_ac (h : WkAt B F η g c x) (m : Int) : AC Try.prog 116 [.ptr g 0 0, .int .i64 m] η n (WPost B F η g c (x.exits 1 m).stays (.tup []) n) := by
  have h1 := exits_ac (n := n) h 1 m
  refine AC.enter Try.func116 rfl Try.ntmps116 (by simp) ?_
  simp
  refine ACK.use h1 ?_
  intro r η1 n1 ⟨e1, e2, e3, e4⟩
  subst e1
  simp
  refine ACK.use (stays_ac e2) ?_
  intro r η2 n2 ⟨f1, f2, f3, f4⟩
  subst f1
  simp
  exact resK.rt ⟨rfl, f2, e3.trans f3, by omega⟩
theorem d14_ac (h : WkAt B F η g c x) (m : Int) : AC Try.prog 117 [.ptr g 0 0, .int .i64 m] η n (WPost B F η g c (x.out m) (.tup []) n) := by
  obtain ⟨sr, rr, av, J, h⟩ := h
  have hb := h.blk
  have fin := fun cs hc => h.turn (cs := cs) (x.out m) rfl rfl rfl hc
  refine AC.enter Try.func117 rfl Try.ntmps117 (by simp) ?_
  simp [aload, afield, apart, hb, workC, astore, upd_eq, upd_upd]
  exact resK.rt ⟨rfl, ⟨sr, rr, av, J, fin _ (by simp [workC, Wx.out])⟩, (Keep.refl _ _ _).upd h.ig, Nat.le_refl _⟩
theorem d15_ac (h : WkAt B F η g c x) (m : Int) : AC Try.prog 118 [.ptr g 0 0, .int .i64 m] η n (WPost B F η g c x (.tup []) n) := by
  refine AC.enter Try.func118 rfl Try.ntmps118 (by simp) ?_
  simp
  exact resK.rt ⟨rfl, h, Keep.refl _ _ _, Nat.le_refl _⟩
theorem d16_ac (h : WkAt B F η g c x) (hn : B ≤ n) (m : Int) : AC Try.prog 119 [.ptr g 0 0, .int .i64 m] η n (WPost B F η g c ((x.push m).push m) (.tup []) n) := by
  have h1 := push_ac (n := n) h hn m
  refine AC.enter Try.func119 rfl Try.ntmps119 (by simp) ?_
  simp
  refine ACK.use h1 ?_
  intro r η1 n1 ⟨e1, e2, e3, e4⟩
  subst e1
  simp
  refine ACK.use (push_ac e2 (by omega) m) ?_
  intro r η2 n2 ⟨f1, f2, f3, f4⟩
  subst f1
  simp
  exact resK.rt ⟨rfl, f2, e3.trans f3, by omega⟩
/-- a deed that puts a value onto the stack -/
theorem puts1_ac {q f : Nat} {V : Int} {x' : Wx} (hq : η q = some (.cells 1 [[.func f [] []]])) (hb : HB Try.prog f = true) (hn : B ≤ n) (hc : AC Try.prog f [.ptr g 0 0] η n (WPost B F η g c x' (.int .i64 V) n)) :
    AC Try.prog 135 [.ptr g 0 0, .ptr q 0 0] η n (WPost B F η g c (x'.push V) (.tup []) n) := by
  refine AC.enter Try.func135 rfl Try.ntmps135 (by simp) ?_
  simp [aload, apart, hq, hb]
  refine ACK.use hc ?_
  intro r η1 n1 ⟨e1, e2, e3, e4⟩
  subst e1
  simp
  refine ACK.use (push_ac e2 (by omega) V) ?_
  intro r η2 n2 ⟨f1, f2, f3, f4⟩
  subst f1
  simp
  exact resK.rt ⟨rfl, f2, e3.trans f3, by omega⟩
end
end Go.Proofs.Ytkhoelmbcmkhjaa
