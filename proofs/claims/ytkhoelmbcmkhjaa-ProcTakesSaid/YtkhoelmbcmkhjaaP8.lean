/- proc's spawns. -/
import Derived.Test.YtkhoelmbcmkhjaaP7
namespace Go.Proofs.Ytkhoelmbcmkhjaa
set_option maxRecDepth 100000

section
variable {B : Nat} {F : List Nat} {η : AHeap} {g n : Nat} {c : Wc} {x : Wx}
def noActr : Actr := ⟨[], [], [], [], []⟩
def actr0 (acts : List Actr) (a : Int) : Actr := acts.getD a.toNat noActr
def Wx.spawned (x : Wx) (a : Int) (k : Nat) : Wx := { x with s := { x.s with stack := x.s.stack.take k }, eff := { x.eff with kind := 3, actor := a, args := x.s.stack.drop k } }
def Wx.spawn (x : Wx) (acts : List Actr) (a : Int) : Wx :=
  if 0 ≤ a ∧ a < acts.length then
    (if (actr0 acts a).params.length ≤ x.s.stack.length then x.spawned a (x.s.stack.length - (actr0 acts a).params.length) else x.fail 12)
  else x.fail 6
theorem actr0_get {l : List Actr} {a : Int} (h : 0 ≤ a ∧ a < l.length) : (actsC l)[a.toNat]? = some (actC (actr0 l a)) := by
  have : a.toNat < l.length := by omega
  rw [actsC_get, List.getElem?_eq_getElem this, actr0, List.getD_eq_getElem?_getD, List.getElem?_eq_getElem this]; rfl
theorem spawns_ac (h : WkAt B F η g c x) (hn : B ≤ n) (hl : x.s.stack.length ≤ 17592186044416) (hp : ∀ a ∈ c.m, a.params.length ≤ 17592186044416) :
    AC Try.prog 112 [.ptr g 0 0] η n (WPost B F η g c (x.spawn c.m c.arg) (.tup []) n) := by
  have h1 := named_ac (n := n) h c.m.length
  obtain ⟨sr, rr, av, J, h⟩ := h
  have hb := h.blk
  by_cases hd : 0 ≤ c.arg ∧ c.arg < c.m.length
  · rw [if_pos hd, decide_eq_true hd] at h1
    have hlt : c.arg.toNat < c.m.length := by omega
    have hg := actr0_get hd
    have hpl : (actr0 c.m c.arg).params.length ≤ 17592186044416 := by
      rw [actr0, List.getD_eq_getElem?_getD, List.getElem?_eq_getElem hlt]; exact hp _ (List.getElem_mem ..)
    have hw : IntKind.i64.wrap ((x.s.stack.length : Int) - (actr0 c.m c.arg).params.length) = (x.s.stack.length : Int) - (actr0 c.m c.arg).params.length := wrap_id (by omega) (by omega)
    have ea : actr0 c.m c.arg = c.m[c.arg.toNat]'hlt := by
      rw [actr0, List.getD_eq_getElem?_getD, List.getElem?_eq_getElem hlt]; rfl
    have hw2 := hw
    rw [ea] at hw2
    by_cases hq : (actr0 c.m c.arg).params.length ≤ x.s.stack.length
    · obtain ⟨k, hk⟩ : ∃ k : Nat, x.s.stack.length - (actr0 c.m c.arg).params.length = k := ⟨_, rfl⟩
      have hu : x.spawn c.m c.arg = x.spawned c.arg k := by rw [Wx.spawn, if_pos hd, if_pos hq, hk]
      have hkl : k ≤ x.s.stack.length := by omega
      have hw3 : IntKind.i64.wrap ((x.s.stack.length : Int) - (c.m[c.arg.toNat]'hlt).params.length) = (k : Int) := by rw [hw2, ← ea]; omega
      have hk0 : ¬ (k : Int) < 0 := by omega
      have hdl : (x.s.stack.drop k).length = x.s.stack.length - k := by simp
      have htl : (x.s.stack.take k).length = k := by simp; omega
      have hdc : (x.s.stack.drop k).length ≤ 17592186044416 := by omega
      rw [hu]
      refine AC.enter Try.func112 rfl Try.ntmps112 (by simp) ?_
      simp [aload, afield, apart, hb, workC, alenT]
      refine ACK.use h1.freshP ?_
      intro r η1 n1 ⟨⟨e1, e2, e3, e4⟩, hf1⟩
      subst e1
      simp
      refine drawK.intro mixed [(0, []), (1, []), (2, []), (3, []), (4, []), (5, []), (6, []), (7, []), (8, []), (9, []), (10, []), (11, []), (12, []), (13, []), (14, []), (15, []), (16, []), (17, []), (18, []), (19, []), (20, []), (21, [])] (by kernel_rfl) ?_
      obtain ⟨sr, rr, av, J, y⟩ := e2
      have hb1 := y.blk
      have lt : ∀ r o, η1 r = some o → r < n1 := fun r o hr => by
        rcases Nat.lt_or_ge r n1 with h' | h'
        · exact h'
        · rw [hf1 r h'] at hr; cases hr
      have lg := lt _ _ y.blk
      have ls := lt _ _ y.st
      have lr := lt _ _ y.rg
      have hs1 := y.st
      have i1 : IsL η1 (.sl sr k (x.s.stack.length - k)) (x.s.stack.drop k) := Or.inr (Or.inr ⟨sr, k, x.s.stack.take k, J, by rw [hdl], htl.symm, by rw [← List.append_assoc, List.take_append_drop]; exact hs1⟩)
      simp [aload, afield, apart, hb1, workC, alenT, aindex, hd, actC, hw3, hk0, lk_some, chkK]
      refine drawK.intro mixed [(0, []), (1, []), (2, []), (3, []), (4, []), (5, []), (6, []), (7, []), (8, []), (9, []), (10, []), (11, []), (12, []), (13, []), (14, []), (15, [7]), (16, []), (17, []), (18, []), (19, []), (20, []), (21, []), (22, []), (23, []), (24, []), (25, []), (26, []), (27, [])] (by kernel_rfl) ?_
      simp [aload, afield, apart, hb1, workC, asliceV, abnd, hkl, hs1, lk_some, chkK]
      refine ACK.use (clone_ac i1 hdc) ?_
      intro r η2 n2 ⟨q, e1, a1, a2, a3, a4⟩
      subst e1
      have hb2 := (a4 g lg).trans hb1
      have hs2 := (a4 sr ls).trans hs1
      have hr2 := (a4 rr lr).trans y.rg
      have hgs := y.gs
      rw [hdl]
      simp [aload, afield, apart, hb2, workC, asliceV, abnd, hkl, hs2, lk_some, chkK, astore, upd_eq, upd_upd, upd_ne hgs.symm]
      have K2 : Keep B F η1 η2 := fun r hr => a4 r (by
        rcases Nat.lt_or_ge r n1 with h' | h'
        · exact h'
        · exact absurd (Or.inr (by omega)) hr)
      refine resK.rt ⟨rfl, ⟨sr, rr, .sl q 0 (x.s.stack.length - k), x.s.stack.drop k ++ J, ?_⟩, (e3.trans K2).upd y.ig, by omega⟩
      have hmin : min k x.s.stack.length = k := by omega
      refine ⟨by rw [upd_eq]; simp [workC, Wx.spawned, hmin], by rw [upd_ne hgs.symm, hs2]; simp [Wx.spawned, ← List.append_assoc], by rw [upd_ne y.gr.symm, hr2]; rfl, Or.inr ⟨q, by simp [Wx.spawned], by rw [upd_ne (by omega)]; exact a1, by omega, by omega, by omega, Or.inr (by omega)⟩, y.gs, y.gr, y.srr, y.ig, y.is, y.ir⟩
    · have hu : x.spawn c.m c.arg = x.fail 12 := by rw [Wx.spawn, if_pos hd, if_neg hq]
      have hq' : (x.s.stack.length : Int) - (actr0 c.m c.arg).params.length < 0 := by omega
      have hq2 := hq'
      rw [ea] at hq2
      rw [hu]
      refine AC.enter Try.func112 rfl Try.ntmps112 (by simp) ?_
      simp [aload, afield, apart, hb, workC, alenT]
      refine ACK.use h1 ?_
      intro r η1 n1 ⟨e1, e2, e3, e4⟩
      subst e1
      simp
      refine drawK.intro mixed [(0, []), (1, []), (2, []), (3, []), (4, []), (5, []), (6, []), (7, []), (8, []), (9, []), (10, []), (11, []), (12, []), (13, []), (14, []), (15, []), (16, []), (17, []), (18, []), (19, []), (20, []), (21, [])] (by kernel_rfl) ?_
      have e2' := e2
      obtain ⟨sr, rr, av, J, k⟩ := e2'
      have hb1 := k.blk
      simp [aload, afield, apart, hb1, workC, alenT, aindex, hd, actC, hw2, hq2, lk_some, chkK]
      refine ACK.use (fail_ac e2 12) ?_
      intro r η2 n2 ⟨f1, f2, f3, f4⟩
      subst f1
      simp
      exact resK.rt ⟨rfl, f2, e3.trans f3, by omega⟩
  · have hu : x.spawn c.m c.arg = x.fail 6 := by rw [Wx.spawn, if_neg hd]
    rw [if_neg hd, decide_eq_false hd] at h1
    rw [hu]
    refine AC.enter Try.func112 rfl Try.ntmps112 (by simp) ?_
    simp [aload, afield, apart, hb, workC, alenT]
    refine ACK.use h1 ?_
    intro r η1 n1 ⟨e1, e2, e3, e4⟩
    subst e1
    simp
    exact resK.rt ⟨rfl, e2, e3, e4⟩
end
end Go.Proofs.Ytkhoelmbcmkhjaa
