/- proc's receives (printed by recv9.py). -/
import Derived.Test.YtkhoelmbcmkhjaaP8
namespace Go.Proofs.Ytkhoelmbcmkhjaa
set_option maxRecDepth 100000

def noTbl : Tbl := ⟨[], 0⟩
def Wx.till (x : Wx) (u : Int) : Wx := { x with s := { x.s with till := u } }
/-- a receive's clock -/
def Wx.clock (x : Wx) (tmo now : Int) : Wx :=
  if x.s.waiting = true then x else if 0 ≤ tmo then (x.till (-1)).pop.till (clipF (clipF now + clipF (x.till (-1)).top)) else x.till (-1)
def Wx.took (x : Wx) (m at_ k : Int) : Wx := { (x.push m).goes at_ with eff := { ((x.push m).goes at_).eff with taken := k } }
def Wx.waits (x : Wx) : Wx := { x with s := { x.s with waiting := true }, eff := { x.eff with kind := 6, n := x.s.till } }
def Wx.gets (x : Wx) (t : Tbl) (now : Int) (box : List (Int × Int)) : Wx :=
  if (matchF t.cls box 0).2.2 = true then x.took (box.getD (matchF t.cls box 0).1.toNat (0, 0)).2 (matchF t.cls box 0).2.1 (matchF t.cls box 0).1
  else if dueF x.s.till now = true then x.goes t.tmo else x.waits
def Wx.recv (x : Wx) (tabs : List Tbl) (a now : Int) (box : List (Int × Int)) : Wx :=
  if 0 ≤ a ∧ a < tabs.length then (x.stays.clock (tabs.getD a.toNat noTbl).tmo now).gets (tabs.getD a.toNat noTbl) now box else x.fail 6
theorem matchF_in {cls : List (Int × Int)} : ∀ (box : List (Int × Int)) (i : Int), (matchF cls box i).2.2 = true → ∃ k, k < box.length ∧ (matchF cls box i).1 = i + (k : Nat)
  | [], i, h => by simp [matchF] at h
  | m :: r, i, h => by
    by_cases hm : (toF cls m.1).2 = true
    · rw [matchF, if_pos hm]; exact ⟨0, by simp, by simp⟩
    · rw [matchF, if_neg hm] at h ⊢
      obtain ⟨k, h1, h2⟩ := matchF_in r (i + 1) h
      exact ⟨k + 1, by simp; omega, by rw [h2]; omega⟩
theorem clip_wf (a : Int) : 0 ≤ clipF a ∧ clipF a ≤ 1099511627776 := by unfold clipF; omega

section
variable {B : Nat} {F : List Nat} {η : AHeap} {g n : Nat} {c : Wc} {x : Wx}
theorem receives_ac (h : WkAt B F η g c x) (hn : B ≤ n) (hl : x.s.stack.length ≤ 17592186044416) (hp : ∀ t ∈ c.own.tabs, t.cls.length ≤ 17592186044416) (hbx : c.box.length ≤ 17592186044416) :
    AC Try.prog 114 [.ptr g 0 0] η n (WPost B F η g c (x.recv c.own.tabs c.arg c.now c.box) (.tup []) n) := by
  have h1 := named_ac (n := n) h c.own.tabs.length
  obtain ⟨sr, rr, av, J, h⟩ := h
  have hb := h.blk
  by_cases hd : 0 ≤ c.arg ∧ c.arg < c.own.tabs.length
  · rw [if_pos hd, decide_eq_true hd] at h1
    have hlt : c.arg.toNat < c.own.tabs.length := by omega
    obtain ⟨T, hT⟩ : ∃ T, c.own.tabs[c.arg.toNat]'hlt = T := ⟨_, rfl⟩
    have hTl : T.cls.length ≤ 17592186044416 := by rw [← hT]; exact hp _ (List.getElem_mem ..)
    have hu : x.recv c.own.tabs c.arg c.now c.box = (x.stays.clock T.tmo c.now).gets T c.now c.box := by
      rw [Wx.recv, if_pos hd, List.getD_eq_getElem?_getD, List.getElem?_eq_getElem hlt, hT]; rfl
    rw [hu]
    refine AC.enter Try.func114 rfl Try.ntmps114 (by simp) ?_
    simp [aload, afield, apart, hb, workC, alenT]
    refine ACK.use h1.freshP ?_
    intro r η1 n1 ⟨⟨e1, e2, e3, e4⟩, hf1⟩
    subst e1
    simp
    refine drawK.intro mixed [(0, []), (1, []), (2, []), (3, []), (4, []), (5, []), (6, []), (7, []), (8, []), (9, []), (10, []), (11, []), (12, [4, 9, 10, 11]), (13, [])] (by kernel_rfl) ?_
    obtain ⟨F', hF', H⟩ := e2.tight hf1
    have hin := fun r hr => (hF' r hr).1
    have fin : ∀ o η' x' n', WkAt (n1 + 1) F' η' g c x' → Keep (n1 + 1) F' (upd η1 n1 o) η' → n ≤ n' → WPost B F η g c x' (.tup []) n (.tup []) η' n' := fun o η' x' n' h2 h3 h4 => ⟨rfl, h2.wide hin (by omega), fun r hr => by
      by_cases hrn : r < n1
      · rw [(h3.wide hin (by omega)) r hr, upd_ne (by omega)]; exact e3 r hr
      · exact absurd (Or.inr (by omega)) hr, h4⟩
    have nin : ¬ In (n1 + 1) F' n1 := fun hi => by
      rcases hi with hi | hi
      · have := (hF' n1 hi).2; omega
      · omega
    obtain ⟨sr1, rr1, av1, J1, y⟩ := e2
    have hb1 := y.blk
    have hgn : g ≠ n1 := fun e => by have := hf1 g (by omega); rw [hb1] at this; cases this
    simp [aload, afield, apart, hb1, workC, alenT, aindex, hd, tblC, hT, lk_some, chkK, upd_eq, upd_ne hgn, astore, upd_upd]
    refine ACK.use (stays_ac (H (n1 + 1) _ fun r hr => upd_ne (by omega))) ?_
    intro r η2 n2 ⟨e1, k2, k3, k4⟩
    subst e1
    have t2 := (k3 n1 nin).trans (upd_eq ..)
    have R2 := k2
    obtain ⟨sr2, rr2, av2, J2, z2⟩ := R2
    have hb2 := z2.blk
    by_cases hwt : x.stays.s.waiting = true
    · have hc : x.stays.clock T.tmo c.now = x.stays := by rw [Wx.clock, if_pos hwt]
      rw [hc]
      simp [aload, afield, apart, hb2, workC, hwt]
      refine drawK.intro mixed [(0, []), (1, []), (2, []), (3, []), (4, []), (5, []), (6, []), (7, []), (8, []), (9, []), (10, []), (11, []), (12, [])] (by kernel_rfl) ?_
      simp [aload, afield, apart, hb2, workC, t2, lk_some, chkK]
      refine ACK.rt (match_ac T c.box _ _ hTl hbx) ?_
      by_cases hm : (matchF T.cls c.box 0).2.2 = true
      · obtain ⟨j, hj1, hj2⟩ := matchF_in c.box 0 hm
        rw [Int.zero_add] at hj2
        have hg : (x.stays).gets T c.now c.box = (x.stays).took (c.box[j]'hj1).2 (matchF T.cls c.box 0).2.1 j := by
          rw [Wx.gets, if_pos hm, hj2, List.getD_eq_getElem?_getD, show (j : Int).toNat = j by omega, List.getElem?_eq_getElem hj1]; rfl
        rw [hg]
        simp [aload, afield, apart, hb2, workC, t2, lk_some, chkK, hm, hj2, aindex, hj1]
        refine ACK.use (push_ac k2 (by omega) _) ?_
        intro r θ1 m1 ⟨e1, u1, u2, u3⟩
        subst e1
        simp
        refine ACK.use (goes_ac u1 _) ?_
        intro r θ2 m2 ⟨e1, v1, v2, v3⟩
        subst e1
        obtain ⟨sa, ra, aa, Ja, v4⟩ := v1
        have hbv := v4.blk
        simp [aload, afield, apart, hbv, workC, astore]
        exact resK.rt (fin _ _ _ _ ⟨sa, ra, aa, Ja, v4.turn ((x.stays).took (c.box[j]'hj1).2 (matchF T.cls c.box 0).2.1 j) rfl rfl rfl (by simp [workC, Wx.took])⟩ (((k3.trans u2).trans v2).upd v4.ig) (by omega))
      · have hg : (x.stays).gets T c.now c.box = if dueF (x.stays).s.till c.now = true then (x.stays).goes T.tmo else (x.stays).waits := by
          rw [Wx.gets, if_neg hm]
        rw [hg]
        simp [aload, afield, apart, hb2, workC, t2, lk_some, chkK, hm]
        refine drawK.intro mixed [(0, []), (1, []), (2, []), (3, []), (4, []), (5, []), (6, []), (7, []), (8, []), (9, []), (10, [])] (by kernel_rfl) ?_
        simp [aload, afield, apart, hb2, workC, t2, lk_some, chkK]
        refine ACK.rt (due_ac _ _ _ _) ?_
        by_cases hdu : dueF (x.stays).s.till c.now = true
        · have hdu2 : dueF x.stays.s.till c.now = true := hdu
          rw [if_pos hdu]
          simp [aload, afield, apart, hb2, workC, t2, lk_some, chkK, hdu2]
          refine ACK.use (goes_ac k2 _) ?_
          intro r θ1 m1 ⟨e1, u1, u2, u3⟩
          subst e1
          simp
          exact resK.rt (fin _ _ _ _ u1 (k3.trans u2) (by omega))
        · have hdu2 : ¬ dueF x.stays.s.till c.now = true := hdu
          rw [if_neg hdu]
          have finw := fun cs hc => z2.turn (cs := cs) (x.stays).waits rfl rfl rfl hc
          simp [aload, afield, apart, hb2, workC, t2, lk_some, chkK, hdu2, astore, upd_eq, upd_upd]
          exact resK.rt (fin _ _ _ _ ⟨_, _, _, _, finw _ (by simp [workC, Wx.waits, Wx.till])⟩ (k3.upd z2.ig) (by omega))
    · have hwf : x.stays.s.waiting = false := by simpa using hwt
      have fin3 := fun cs hc => z2.turn (cs := cs) (x.stays.till (-1)) rfl rfl rfl hc
      have K3 : ∀ cs, _ → WkAt (n1 + 1) F' (upd η2 g (some (.cells 28 [cs]))) g c (x.stays.till (-1)) := fun cs hc => ⟨_, _, _, _, fin3 cs hc⟩
      have hl3 : (x.stays.till (-1)).s.stack.length ≤ 17592186044416 := hl
      by_cases htm : 0 ≤ T.tmo
      · have hc : x.stays.clock T.tmo c.now = (x.stays.till (-1)).pop.till (clipF (clipF c.now + clipF (x.stays.till (-1)).top)) := by rw [Wx.clock, if_neg hwt, if_pos htm]
        rw [hc]
        have hgn' := upd_ne (η := η2) (o := some (.cells 28 [workC c (x.stays.till (-1)) (.sl sr2 0 x.stays.s.stack.length) (.sl rr2 0 x.stays.s.regs.length) av2])) hgn.symm
        simp [aload, afield, apart, hb2, workC, hwf, astore, upd_eq, upd_ne hgn.symm, t2, htm]
        refine ACK.rt (clip_ac _ _ _) ?_
        simp
        refine ACK.use (pop_ac (K3 _ (by simp [workC, Wx.till, hwf])) hl3) ?_
        intro r η4 n4 ⟨e1, p1, p2, p3⟩
        subst e1
        have t4 := (p2 n1 nin).trans ((upd_ne hgn.symm).trans t2)
        have k4' := (k3.upd z2.ig).trans p2
        obtain ⟨sr4, rr4, av4, J4, z4⟩ := p1
        have hb4 := z4.blk
        have hwr : IntKind.i64.wrap (clipF c.now + clipF (x.stays.till (-1)).top) = clipF c.now + clipF (x.stays.till (-1)).top := wrap_id (by have := clip_wf c.now; have := clip_wf (x.stays.till (-1)).top; omega) (by have := clip_wf c.now; have := clip_wf (x.stays.till (-1)).top; omega)
        simp
        refine ACK.rt (clip_ac _ _ _) ?_
        simp [hwr]
        refine ACK.rt (clip_ac _ _ _) ?_
        have fin5 := fun cs hc => z4.turn (cs := cs) ((x.stays.till (-1)).pop.till (clipF (clipF c.now + clipF (x.stays.till (-1)).top))) rfl rfl rfl hc
        have K5 : ∀ cs, _ → WkAt (n1 + 1) F' (upd η4 g (some (.cells 28 [cs]))) g c ((x.stays.till (-1)).pop.till (clipF (clipF c.now + clipF (x.stays.till (-1)).top))) := fun cs hc => ⟨_, _, _, _, fin5 cs hc⟩
        simp [aload, afield, apart, hb4, workC, astore, upd_eq, upd_ne hgn.symm, t4]
        refine drawK.intro mixed [(0, []), (1, []), (2, []), (3, []), (4, []), (5, []), (6, []), (7, []), (8, []), (9, []), (10, []), (11, []), (12, [])] (by kernel_rfl) ?_
        simp [aload, afield, apart, upd_eq, workC, upd_ne hgn.symm, t4, lk_some, chkK]
        refine ACK.rt (match_ac T c.box _ _ hTl hbx) ?_
        by_cases hm : (matchF T.cls c.box 0).2.2 = true
        · obtain ⟨j, hj1, hj2⟩ := matchF_in c.box 0 hm
          rw [Int.zero_add] at hj2
          have hg : (((x.stays.till (-1)).pop.till (clipF (clipF c.now + clipF (x.stays.till (-1)).top)))).gets T c.now c.box = (((x.stays.till (-1)).pop.till (clipF (clipF c.now + clipF (x.stays.till (-1)).top)))).took (c.box[j]'hj1).2 (matchF T.cls c.box 0).2.1 j := by
            rw [Wx.gets, if_pos hm, hj2, List.getD_eq_getElem?_getD, show (j : Int).toNat = j by omega, List.getElem?_eq_getElem hj1]; rfl
          rw [hg]
          simp [aload, afield, apart, upd_eq, workC, upd_ne hgn.symm, t4, lk_some, chkK, hm, hj2, aindex, hj1]
          refine ACK.use (push_ac (K5 _ (by simp [workC, Wx.till])) (by omega) _) ?_
          intro r θ1 m1 ⟨e1, u1, u2, u3⟩
          subst e1
          simp
          refine ACK.use (goes_ac u1 _) ?_
          intro r θ2 m2 ⟨e1, v1, v2, v3⟩
          subst e1
          obtain ⟨sa, ra, aa, Ja, v4⟩ := v1
          have hbv := v4.blk
          simp [aload, afield, apart, hbv, workC, astore]
          exact resK.rt (fin _ _ _ _ ⟨sa, ra, aa, Ja, v4.turn ((((x.stays.till (-1)).pop.till (clipF (clipF c.now + clipF (x.stays.till (-1)).top)))).took (c.box[j]'hj1).2 (matchF T.cls c.box 0).2.1 j) rfl rfl rfl (by simp [workC, Wx.took])⟩ ((((k4'.upd z4.ig).trans u2).trans v2).upd v4.ig) (by omega))
        · have hg : (((x.stays.till (-1)).pop.till (clipF (clipF c.now + clipF (x.stays.till (-1)).top)))).gets T c.now c.box = if dueF (((x.stays.till (-1)).pop.till (clipF (clipF c.now + clipF (x.stays.till (-1)).top)))).s.till c.now = true then (((x.stays.till (-1)).pop.till (clipF (clipF c.now + clipF (x.stays.till (-1)).top)))).goes T.tmo else (((x.stays.till (-1)).pop.till (clipF (clipF c.now + clipF (x.stays.till (-1)).top)))).waits := by
            rw [Wx.gets, if_neg hm]
          rw [hg]
          simp [aload, afield, apart, upd_eq, workC, upd_ne hgn.symm, t4, lk_some, chkK, hm]
          refine drawK.intro mixed [(0, []), (1, []), (2, []), (3, []), (4, []), (5, []), (6, []), (7, []), (8, []), (9, []), (10, [])] (by kernel_rfl) ?_
          simp [aload, afield, apart, upd_eq, workC, upd_ne hgn.symm, t4, lk_some, chkK]
          refine ACK.rt (due_ac _ _ _ _) ?_
          by_cases hdu : dueF (((x.stays.till (-1)).pop.till (clipF (clipF c.now + clipF (x.stays.till (-1)).top)))).s.till c.now = true
          · have hdu2 : dueF (clipF (clipF c.now + clipF (x.stays.till (-1)).top)) c.now = true := hdu
            rw [if_pos hdu]
            simp [aload, afield, apart, upd_eq, workC, upd_ne hgn.symm, t4, lk_some, chkK, hdu2]
            refine ACK.use (goes_ac (K5 _ (by simp [workC, Wx.till])) _) ?_
            intro r θ1 m1 ⟨e1, u1, u2, u3⟩
            subst e1
            simp
            exact resK.rt (fin _ _ _ _ u1 ((k4'.upd z4.ig).trans u2) (by omega))
          · have hdu2 : ¬ dueF (clipF (clipF c.now + clipF (x.stays.till (-1)).top)) c.now = true := hdu
            rw [if_neg hdu]
            have finw := fun cs hc => z4.turn (cs := cs) (((x.stays.till (-1)).pop.till (clipF (clipF c.now + clipF (x.stays.till (-1)).top)))).waits rfl rfl rfl hc
            simp [aload, afield, apart, upd_eq, workC, upd_ne hgn.symm, t4, lk_some, chkK, hdu2, astore, upd_eq, upd_upd]
            exact resK.rt (fin _ _ _ _ ⟨_, _, _, _, finw _ (by simp [workC, Wx.waits, Wx.till])⟩ (k4'.upd z4.ig) (by omega))
      · have hc : x.stays.clock T.tmo c.now = x.stays.till (-1) := by rw [Wx.clock, if_neg hwt, if_neg htm]
        rw [hc]
        simp [aload, afield, apart, hb2, workC, hwf, astore, upd_eq, upd_ne hgn.symm, t2, htm]
        refine drawK.intro mixed [(0, []), (1, []), (2, []), (3, []), (4, []), (5, []), (6, []), (7, []), (8, []), (9, []), (10, []), (11, []), (12, [])] (by kernel_rfl) ?_
        simp [aload, afield, apart, upd_eq, workC, upd_ne hgn.symm, t2, lk_some, chkK]
        refine ACK.rt (match_ac T c.box _ _ hTl hbx) ?_
        by_cases hm : (matchF T.cls c.box 0).2.2 = true
        · obtain ⟨j, hj1, hj2⟩ := matchF_in c.box 0 hm
          rw [Int.zero_add] at hj2
          have hg : ((x.stays.till (-1))).gets T c.now c.box = ((x.stays.till (-1))).took (c.box[j]'hj1).2 (matchF T.cls c.box 0).2.1 j := by
            rw [Wx.gets, if_pos hm, hj2, List.getD_eq_getElem?_getD, show (j : Int).toNat = j by omega, List.getElem?_eq_getElem hj1]; rfl
          rw [hg]
          simp [aload, afield, apart, upd_eq, workC, upd_ne hgn.symm, t2, lk_some, chkK, hm, hj2, aindex, hj1]
          refine ACK.use (push_ac (K3 _ (by simp [workC, Wx.till, hwf])) (by omega) _) ?_
          intro r θ1 m1 ⟨e1, u1, u2, u3⟩
          subst e1
          simp
          refine ACK.use (goes_ac u1 _) ?_
          intro r θ2 m2 ⟨e1, v1, v2, v3⟩
          subst e1
          obtain ⟨sa, ra, aa, Ja, v4⟩ := v1
          have hbv := v4.blk
          simp [aload, afield, apart, hbv, workC, astore]
          exact resK.rt (fin _ _ _ _ ⟨sa, ra, aa, Ja, v4.turn (((x.stays.till (-1))).took (c.box[j]'hj1).2 (matchF T.cls c.box 0).2.1 j) rfl rfl rfl (by simp [workC, Wx.took])⟩ ((((k3.upd z2.ig).trans u2).trans v2).upd v4.ig) (by omega))
        · have hg : ((x.stays.till (-1))).gets T c.now c.box = if dueF ((x.stays.till (-1))).s.till c.now = true then ((x.stays.till (-1))).goes T.tmo else ((x.stays.till (-1))).waits := by
            rw [Wx.gets, if_neg hm]
          rw [hg]
          simp [aload, afield, apart, upd_eq, workC, upd_ne hgn.symm, t2, lk_some, chkK, hm]
          refine drawK.intro mixed [(0, []), (1, []), (2, []), (3, []), (4, []), (5, []), (6, []), (7, []), (8, []), (9, []), (10, [])] (by kernel_rfl) ?_
          simp [aload, afield, apart, upd_eq, workC, upd_ne hgn.symm, t2, lk_some, chkK]
          refine ACK.rt (due_ac _ _ _ _) ?_
          by_cases hdu : dueF ((x.stays.till (-1))).s.till c.now = true
          · have hdu2 : dueF (-1) c.now = true := hdu
            rw [if_pos hdu]
            simp [aload, afield, apart, upd_eq, workC, upd_ne hgn.symm, t2, lk_some, chkK, hdu2]
            refine ACK.use (goes_ac (K3 _ (by simp [workC, Wx.till, hwf])) _) ?_
            intro r θ1 m1 ⟨e1, u1, u2, u3⟩
            subst e1
            simp
            exact resK.rt (fin _ _ _ _ u1 ((k3.upd z2.ig).trans u2) (by omega))
          · have hdu2 : ¬ dueF (-1) c.now = true := hdu
            rw [if_neg hdu]
            have finw := fun cs hc => z2.turn (cs := cs) ((x.stays.till (-1))).waits rfl rfl rfl hc
            simp [aload, afield, apart, upd_eq, workC, upd_ne hgn.symm, t2, lk_some, chkK, hdu2, astore, upd_eq, upd_upd]
            exact resK.rt (fin _ _ _ _ ⟨_, _, _, _, finw _ (by simp [workC, Wx.waits, Wx.till])⟩ (k3.upd z2.ig) (by omega))
  · have hu : x.recv c.own.tabs c.arg c.now c.box = x.fail 6 := by rw [Wx.recv, if_neg hd]
    rw [if_neg hd, decide_eq_false hd] at h1
    rw [hu]
    refine AC.enter Try.func114 rfl Try.ntmps114 (by simp) ?_
    simp [aload, afield, apart, hb, workC, alenT]
    refine ACK.use h1 ?_
    intro r η1 n1 ⟨e1, e2, e3, e4⟩
    subst e1
    simp
    exact resK.rt ⟨rfl, e2, e3, e4⟩
end
end Go.Proofs.Ytkhoelmbcmkhjaa
