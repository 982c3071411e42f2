/- proc.Step, of a sound state. -/
import Derived.Test.YtkhoelmbcmkhjaaPc
namespace Go.Proofs.Ytkhoelmbcmkhjaa
set_option maxRecDepth 100000

/-- lists of a length that memory holds -/
structure ModOK (m : List Actr) : Prop where
  par : ∀ a ∈ m, a.params.length ≤ 17592186044416
  cls : ∀ a ∈ m, ∀ t ∈ a.tabs, t.cls.length ≤ 17592186044416
def wc0 (m : List Actr) (self : Int) (s : Sta) (now : Int) (box : List (Int × Int)) : Wc :=
  ⟨m, actr m s.actor, (ins (actr m s.actor) s.pc).1, (ins (actr m s.actor) s.pc).2, self, now, box⟩
def wx0 (s : Sta) : Wx := ⟨s, { eff0 with taken := -1 }, 0⟩
instance (op : Int) : Decidable (isTwo op) := by unfold isTwo; infer_instance
def stepEnd (x : Wx) : Sta × Eff × Int := if x.err = 0 then (x.s, x.eff, 0) else (sta0, eff0, x.err)
def stepG (c : Wc) (x : Wx) : Sta × Eff × Int :=
  if isTwo c.op then stepEnd (x.two c.op) else match deedOf c.op deedL with
    | none => (sta0, eff0, 9)
    | some _ => stepEnd (workF c x)
/-- one step -/
def stepF (m : List Actr) (self : Int) (s : Sta) (now : Int) (box : List (Int × Int)) : Sta × Eff × Int :=
  if soundF m s = true then stepG (wc0 m self s now box) ((wx0 s).setpc (IntKind.i64.wrap (s.pc + 1))) else (sta0, eff0, 13)
theorem step_good_ac (m : List Actr) (self : Int) (s : Sta) (now : Int) (box : List (Int × Int)) (η : AHeap) (n : Nat) (h : soundF m s = true) (hm : ModOK m) (hb : box.length ≤ 17592186044416) (hr : s.regs.length ≤ 17592186044416) {sv rv : AVal} (k1 : IsL η sv s.stack) (k2 : IsL η rv s.regs) :
    AC Try.prog 21 [modV m, .int .i64 self, .agg (stC s sv rv), .int .i64 now, .rs 2 (pairs box)] η n (StepR η n (stepG (wc0 m self s now box) ((wx0 s).setpc (IntKind.i64.wrap (s.pc + 1)))).1 (stepG (wc0 m self s now box) ((wx0 s).setpc (IntKind.i64.wrap (s.pc + 1)))).2.1 (stepG (wc0 m self s now box) ((wx0 s).setpc (IntKind.i64.wrap (s.pc + 1)))).2.2) := by
  have hs := fun η n => sound_ac m s η n k1 k2
  have zs1 := k1.sc
  have zs2 := k2.sc
  have zd1 := k1.ac
  have zd2 := k2.ac
  have hd := h
  simp only [soundF, decide_eq_true_eq] at hd
  obtain ⟨p1, p2, p3, p4, p5, p6, p7⟩ := hd
  simp only [modV, stC, h] at hs ⊢
  have q1 : s.actor.toNat < m.length := by omega
  obtain ⟨A, hA⟩ : ∃ A, m[s.actor.toNat]'q1 = A := ⟨_, rfl⟩
  have hA2 : actr m s.actor = A := by rw [actr, List.getD_eq_getElem?_getD, List.getElem?_eq_getElem q1, hA]; rfl
  rw [hA2] at p4
  have q2 : s.pc.toNat < A.code.length := by omega
  obtain ⟨I, hI⟩ : ∃ I, A.code[s.pc.toNat]'q2 = I := ⟨_, rfl⟩
  have hI2 : ins A s.pc = I := by rw [ins, List.getD_eq_getElem?_getD, List.getElem?_eq_getElem q2, hI]; rfl
  have ho := fun (hf : ∀ r, n ≤ r → η r = none) η2 n2 (hk : ∀ r, r < n → η2 r = η r) => own_ac (η := η2) (n := n2) (s := s) (k1.keep hf hk) (k2.keep hf hk) (by omega) hr
  simp only [stA] at ho
  refine AC.fresh fun hf => ?_; refine AC.enter Try.func21 rfl Try.ntmps21 (by simp) ?_
  simp [zs1, zs2, zd1, zd2, aload, afield, apart, upd_apply, Nat.add_assoc]
  refine ACK.rt (hs _ _) ?_
  simp [zs1, zs2, zd1, zd2, aload, afield, apart, upd_apply, Nat.add_assoc, aindex, p1, p2, p3, p4, hA, hI, actC, astore]
  refine drawK.intro mixed [(0, []), (1, []), (2, []), (3, []), (4, []), (5, []), (6, []), (7, []), (8, []), (9, []), (10, []), (11, []), (13, []), (12, [0, 1, 3, 5, 6, 7]), (14, []), (15, []), (16, [])] (by kernel_rfl) ?_
  simp [zs1, zs2, zd1, zd2, aload, afield, apart, upd_apply, Nat.add_assoc, aindex, p1, p2, p3, p4, hA, hI, actC, astore, abuild, aplace, afillP, lk_some, chkK]
  refine ACK.use (ho hf _ _ (fun r hr => by
    simp only [upd_apply]
    repeat rw [if_neg (by omega)])).freshP ?_
  intro r η2 g ⟨⟨q1, q2, e1, a1, a2, a3, a4, a5, a6, a7, a8⟩, hf2⟩
  subst e1
  have b0 := a8 n (by omega)
  have b1 := a8 (n + 1) (by omega)
  have b2 := a8 (n + 2) (by omega)
  have b3 := a8 (n + 3) (by omega)
  have b4 := a8 (n + 4) (by omega)
  simp [upd_apply] at b0 b1 b2 b3 b4
  simp [zs1, zs2, zd1, zd2, aload, afield, apart, b0, b1, b2, b3, b4, stA, aindex, p1, p2, p3, p4, hA, hI, actC, astore, abuild, aplace, afillP, lk_some, chkK, upd_eq]
  refine ACK.use (deed_ac I.1 _ _).freshP ?_
  intro r η3 n3 ⟨⟨d1, d2, d3⟩, hf3⟩
  have hc0 : (wc0 m self s now box).op = I.1 := by rw [wc0, hA2, hI2]
  have g0 : ∀ r, r < n + 5 → r < g := fun r hr => by omega
  have fr0 : ∀ r, r < g → η3 r = η2 r := fun r hr => (d2 r (by omega)).trans (upd_ne (by omega))
  rcases d3 with ⟨t1, t2⟩ | ⟨t1, t2, t3⟩ | ⟨d, t1, t2, t3⟩
  · have w1 : η3 g = _ := (d2 g (by omega)).trans (upd_eq ..)
    have q1l : q1 < g := by omega
    have q2l : q2 < g := by omega
    have K5 : ∀ cs, cs = workC (wc0 m self s now box) ((wx0 s).setpc (IntKind.i64.wrap (s.pc + 1))) (.sl q1 0 s.stack.length) (.sl q2 0 s.regs.length) .nils → WkAt n3 [g, q1, q2] (upd η3 g (some (.cells 28 [cs]))) g (wc0 m self s now box) ((wx0 s).setpc (IntKind.i64.wrap (s.pc + 1))) := fun cs hc => by
      subst hc
      exact ⟨q1, q2, .nils, [], upd_eq .., by rw [upd_ne (by omega), fr0 q1 q1l, a1]; simp [wx0, Wx.setpc], by rw [upd_ne (by omega), fr0 q2 q2l, a2]; rfl, Or.inl ⟨rfl, rfl⟩, by omega, by omega, a5, Or.inl (by simp), Or.inl (by simp), Or.inl (by simp)⟩
    have nin : ∀ r, r < n + 5 → ¬ In n3 [g, q1, q2] r := fun r hr hi => by
      rcases hi with hi | hi
      · simp at hi; omega
      · omega
    have e9 : stepG (wc0 m self s now box) ((wx0 s).setpc (IntKind.i64.wrap (s.pc + 1))) = stepEnd (((wx0 s).setpc (IntKind.i64.wrap (s.pc + 1))).two (wc0 m self s now box).op) := by
      rw [stepG, hc0, if_pos t1]
    rw [e9]
    subst t2
    simp [aload, afield, apart, w1, astore, upd_eq]
    refine ACK.use (wtwo_ac (K5 _ (by simp [workC, wc0, wx0, Wx.setpc, eff0, hA2, hI2])) (Nat.le_refl _) (show s.stack.length ≤ _ by omega) hr) ?_
    intro r η4 n4 ⟨u1, u2, u3, u4⟩
    subst u1
    obtain ⟨x2, hx2⟩ : ∃ x2, ((wx0 s).setpc (IntKind.i64.wrap (s.pc + 1))).two (wc0 m self s now box).op = x2 := ⟨_, rfl⟩
    rw [hx2] at u2 ⊢
    have v2 := (u3 (n + 2) (nin _ (by omega))).trans ((upd_ne (by omega)).trans ((fr0 (n + 2) (by omega)).trans b2))
    have v3 := (u3 (n + 3) (nin _ (by omega))).trans ((upd_ne (by omega)).trans ((fr0 (n + 3) (by omega)).trans b3))
    obtain ⟨sr, rr, av, J, y⟩ := u2
    have hb4 := y.blk
    have ia : IsL η4 av x2.eff.args := by
      rcases y.ar with ⟨k1, k2⟩ | ⟨ar, k1, k2, _⟩
      · exact Or.inr (Or.inl ⟨k1, k2⟩)
      · rw [k1]; exact IsL.own (J := []) (by rw [List.append_nil]; exact k2)
    have hsc := ia.sc
    have hg2 : ¬ g = n + 2 := by omega
    have hg3 : ¬ g = n + 3 := by omega
    have old : ∀ r, r < n → η4 r = η r := fun r hr => by
      rw [u3 r (nin _ (by omega)), upd_ne (by omega), fr0 r (by omega), a8 r (by omega)]
      simp only [upd_apply]
      repeat rw [if_neg (by omega)]
    have s2 : IsL η4 (.sl sr 0 x2.s.stack.length) x2.s.stack := IsL.own y.st
    have s3 : IsL η4 (.sl rr 0 x2.s.regs.length) x2.s.regs := IsL.own (J := []) (by rw [List.append_nil]; exact y.rg)
    by_cases he : x2.err = 0
    · simp [aload, afield, apart, hb4, workC, he]
      refine drawK.intro mixed [(0, []), (1, []), (2, []), (3, []), (4, []), (5, []), (6, []), (7, []), (8, [7]), (9, []), (10, [])] (by kernel_rfl) ?_
      simp [aload, afield, apart, hb4, workC, he, v2, v3, astore, upd_apply, Nat.add_assoc, lk_some, chkK, hsc, ia.ac, hg2, hg3]
      have ee : stepEnd x2 = (x2.s, x2.eff, 0) := if_pos he
      rw [ee]
      have kp : ∀ o1 o2 v l, IsL η4 v l → IsL (upd (upd η4 (n + 2) o1) (n + 3) o2) v l := fun o1 o2 v l hv => by
        rcases hv with k | k | ⟨r, o, I, J, k1, k0, k2⟩
        · exact Or.inl k
        · exact Or.inr (Or.inl k)
        · have r1 : r ≠ n + 2 := fun e => by rw [e, v2] at k2; cases k2
          have r2 : r ≠ n + 3 := fun e => by rw [e, v3] at k2; cases k2
          exact Or.inr (Or.inr ⟨r, o, I, J, k1, k0, by rw [upd_ne r2, upd_ne r1]; exact k2⟩)
      exact resK.rt ⟨_, _, _, rfl, kp _ _ _ _ s2, kp _ _ _ _ s3, kp _ _ _ _ ia, fun r hr => by rw [upd_ne (by omega), upd_ne (by omega)]; exact old r hr, by omega⟩
    · simp [aload, afield, apart, hb4, workC, he]
      refine drawK.intro mixed [(0, []), (1, []), (2, []), (3, []), (4, []), (5, []), (6, [5]), (7, [5]), (8, [])] (by kernel_rfl) ?_
      simp [aload, afield, apart, hb4, workC, he, v2, v3, astore, upd_apply, Nat.add_assoc, lk_some, chkK, abuild, aplace, afillP, hg2, hg3]
      have ee : stepEnd x2 = (sta0, eff0, x2.err) := if_neg he
      rw [ee]
      exact resK.rt ⟨.nils, .nils, .nils, rfl, Or.inr (Or.inl ⟨rfl, rfl⟩), Or.inr (Or.inl ⟨rfl, rfl⟩), Or.inr (Or.inl ⟨rfl, rfl⟩), fun r hr => by rw [upd_ne (by omega), upd_ne (by omega)]; exact old r hr, by omega⟩
  · have e9 : stepG (wc0 m self s now box) ((wx0 s).setpc (IntKind.i64.wrap (s.pc + 1))) = (sta0, eff0, 9) := by
      rw [stepG, hc0, if_neg t1, t2]
    rw [e9]
    subst t3
    have c2 := (fr0 (n + 2) (by omega)).trans b2
    have c3 := (fr0 (n + 3) (by omega)).trans b3
    simp [abuild, aplace, afillP, aload, afield, apart, upd_apply, Nat.add_assoc, c2, c3, astore]
    exact resK.rt ⟨.nils, .nils, .nils, rfl, Or.inr (Or.inl ⟨rfl, rfl⟩), Or.inr (Or.inl ⟨rfl, rfl⟩), Or.inr (Or.inl ⟨rfl, rfl⟩), fun r hr => by
      simp only [upd_apply]
      repeat rw [if_neg (by omega)]
      rw [fr0 r (by omega), a8 r (by omega)]
      simp only [upd_apply]
      repeat rw [if_neg (by omega)], by omega⟩
  · have hcw : wc0 m self s now box = (⟨m, A, I.1, I.2, self, now, box⟩ : Wc) := by rw [wc0, hA2, hI2]
    have hCo : ((⟨m, A, I.1, I.2, self, now, box⟩ : Wc)).op = I.1 := rfl
    have w1 : η3 g = _ := (d2 g (by omega)).trans (upd_eq ..)
    have q1l : q1 < g := by omega
    have q2l : q2 < g := by omega
    have K5 : ∀ cs, cs = workC (⟨m, A, I.1, I.2, self, now, box⟩ : Wc) ((wx0 s).setpc (IntKind.i64.wrap (s.pc + 1))) (.sl q1 0 s.stack.length) (.sl q2 0 s.regs.length) .nils → WkAt n3 [g, q1, q2] (upd η3 g (some (.cells 28 [cs]))) g (⟨m, A, I.1, I.2, self, now, box⟩ : Wc) ((wx0 s).setpc (IntKind.i64.wrap (s.pc + 1))) := fun cs hc => by
      subst hc
      exact ⟨q1, q2, .nils, [], upd_eq .., by rw [upd_ne (by omega), fr0 q1 q1l, a1]; simp [wx0, Wx.setpc], by rw [upd_ne (by omega), fr0 q2 q2l, a2]; rfl, Or.inl ⟨rfl, rfl⟩, by omega, by omega, a5, Or.inl (by simp), Or.inl (by simp), Or.inl (by simp)⟩
    have nin : ∀ r, r < n + 5 → ¬ In n3 [g, q1, q2] r := fun r hr hi => by
      rcases hi with hi | hi
      · simp at hi; omega
      · omega
    have e9 : stepG (⟨m, A, I.1, I.2, self, now, box⟩ : Wc) ((wx0 s).setpc (IntKind.i64.wrap (s.pc + 1))) = stepEnd (workF (⟨m, A, I.1, I.2, self, now, box⟩ : Wc) ((wx0 s).setpc (IntKind.i64.wrap (s.pc + 1)))) := by
      rw [stepG, hCo, if_neg t1, t2]
    rw [hcw, e9]
    have bx : ∀ q f, η3 q = some (.cells 1 [[.func f [] []]]) → q ≠ g ∧ q ≠ q1 ∧ q ≠ q2 := fun q f hq => by
      refine ⟨fun e => ?_, fun e => ?_, fun e => ?_⟩
      · rw [e, w1] at hq; cases hq
      · rw [e, fr0 q1 q1l, a1] at hq
        cases hl : s.stack with
        | nil => rw [hl] at hq; simp [ints] at hq
        | cons z zs => rw [hl] at hq; simp [ints] at hq
      · rw [e, fr0 q2 q2l, a2] at hq
        cases hl : s.regs with
        | nil => rw [hl] at hq; simp [ints] at hq
        | cons z zs => rw [hl] at hq; simp [ints] at hq
    have hdv : ∀ o, DV (upd η3 g o) d r := fun o => by
      rcases t3 with k | ⟨q, k1, k2⟩
      · exact Or.inl k
      · exact Or.inr ⟨q, by rw [upd_ne (bx q _ k1).1]; exact k1, k2⟩
    have hq : ∀ q f, r = .func f [] [.ptr q 0 0] → ¬ In n3 [g, q1, q2] q := fun q f e hi => by
      rcases t3 with ⟨_, k⟩ | ⟨q', k1, k2⟩
      · rw [k] at e; cases e
      · have : q' = q := by
          rcases k2 with ⟨_, k⟩ | ⟨_, k⟩ <;> (rw [k] at e; cases e; rfl)
        subst this
        have b := bx q' _ k1
        rcases hi with hi | hi
        · simp at hi; omega
        · rw [hf3 q' hi] at k1; cases k1
    have hA3 : A ∈ m := by rw [← hA]; exact List.getElem_mem ..
    obtain ⟨f, caps, hr1, hbf, hac⟩ := deed_run (c := (⟨m, A, I.1, I.2, self, now, box⟩ : Wc)) (K5 _ rfl) (Nat.le_refl n3) ⟨show s.stack.length ≤ _ by omega, hb, hm.cls A hA3, hm.par⟩ (show deedOf ((⟨m, A, I.1, I.2, self, now, box⟩ : Wc)).op deedL = some d by rw [hCo]; exact t2) (hdv _) hq
    subst hr1
    simp [aload, afield, apart, w1, astore, upd_eq, hbf]
    refine ACK.use hac ?_
    intro r η4 n4 ⟨u1, u2, u3, u4⟩
    subst u1
    obtain ⟨x2, hx2⟩ : ∃ x2, workF (⟨m, A, I.1, I.2, self, now, box⟩ : Wc) ((wx0 s).setpc (IntKind.i64.wrap (s.pc + 1))) = x2 := ⟨_, rfl⟩
    rw [hx2] at u2 ⊢
    have v2 := (u3 (n + 2) (nin _ (by omega))).trans ((upd_ne (by omega)).trans ((fr0 (n + 2) (by omega)).trans b2))
    have v3 := (u3 (n + 3) (nin _ (by omega))).trans ((upd_ne (by omega)).trans ((fr0 (n + 3) (by omega)).trans b3))
    obtain ⟨sr, rr, av, J, y⟩ := u2
    have hb4 := y.blk
    have ia : IsL η4 av x2.eff.args := by
      rcases y.ar with ⟨k1, k2⟩ | ⟨ar, k1, k2, _⟩
      · exact Or.inr (Or.inl ⟨k1, k2⟩)
      · rw [k1]; exact IsL.own (J := []) (by rw [List.append_nil]; exact k2)
    have hsc := ia.sc
    have hg2 : ¬ g = n + 2 := by omega
    have hg3 : ¬ g = n + 3 := by omega
    have old : ∀ r, r < n → η4 r = η r := fun r hr => by
      rw [u3 r (nin _ (by omega)), upd_ne (by omega), fr0 r (by omega), a8 r (by omega)]
      simp only [upd_apply]
      repeat rw [if_neg (by omega)]
    have s2 : IsL η4 (.sl sr 0 x2.s.stack.length) x2.s.stack := IsL.own y.st
    have s3 : IsL η4 (.sl rr 0 x2.s.regs.length) x2.s.regs := IsL.own (J := []) (by rw [List.append_nil]; exact y.rg)
    by_cases he : x2.err = 0
    · simp [aload, afield, apart, hb4, workC, he]
      refine drawK.intro mixed [(0, []), (1, []), (2, []), (3, []), (4, []), (5, []), (6, []), (7, []), (8, [7]), (9, []), (10, [])] (by kernel_rfl) ?_
      simp [aload, afield, apart, hb4, workC, he, v2, v3, astore, upd_apply, Nat.add_assoc, lk_some, chkK, hsc, ia.ac, hg2, hg3]
      have ee : stepEnd x2 = (x2.s, x2.eff, 0) := if_pos he
      rw [ee]
      have kp : ∀ o1 o2 v l, IsL η4 v l → IsL (upd (upd η4 (n + 2) o1) (n + 3) o2) v l := fun o1 o2 v l hv => by
        rcases hv with k | k | ⟨r, o, I, J, k1, k0, k2⟩
        · exact Or.inl k
        · exact Or.inr (Or.inl k)
        · have r1 : r ≠ n + 2 := fun e => by rw [e, v2] at k2; cases k2
          have r2 : r ≠ n + 3 := fun e => by rw [e, v3] at k2; cases k2
          exact Or.inr (Or.inr ⟨r, o, I, J, k1, k0, by rw [upd_ne r2, upd_ne r1]; exact k2⟩)
      exact resK.rt ⟨_, _, _, rfl, kp _ _ _ _ s2, kp _ _ _ _ s3, kp _ _ _ _ ia, fun r hr => by rw [upd_ne (by omega), upd_ne (by omega)]; exact old r hr, by omega⟩
    · simp [aload, afield, apart, hb4, workC, he]
      refine drawK.intro mixed [(0, []), (1, []), (2, []), (3, []), (4, []), (5, []), (6, [5]), (7, [5]), (8, [])] (by kernel_rfl) ?_
      simp [aload, afield, apart, hb4, workC, he, v2, v3, astore, upd_apply, Nat.add_assoc, lk_some, chkK, abuild, aplace, afillP, hg2, hg3]
      have ee : stepEnd x2 = (sta0, eff0, x2.err) := if_neg he
      rw [ee]
      exact resK.rt ⟨.nils, .nils, .nils, rfl, Or.inr (Or.inl ⟨rfl, rfl⟩), Or.inr (Or.inl ⟨rfl, rfl⟩), Or.inr (Or.inl ⟨rfl, rfl⟩), fun r hr => by rw [upd_ne (by omega), upd_ne (by omega)]; exact old r hr, by omega⟩
theorem step_ac (m : List Actr) (self : Int) (s : Sta) (now : Int) (box : List (Int × Int)) (η : AHeap) (n : Nat) (hm : ModOK m) (hb : box.length ≤ 17592186044416) (hr : s.regs.length ≤ 17592186044416) {sv rv : AVal} (k1 : IsL η sv s.stack) (k2 : IsL η rv s.regs) :
    AC Try.prog 21 [modV m, .int .i64 self, .agg (stC s sv rv), .int .i64 now, .rs 2 (pairs box)] η n (StepR η n (stepF m self s now box).1 (stepF m self s now box).2.1 (stepF m self s now box).2.2) := by
  cases h : soundF m s with
  | true => simp only [stepF, h, if_true]; exact step_good_ac m self s now box η n h hm hb hr k1 k2
  | false => simp only [stepF, h, Bool.false_eq_true, if_false]; exact step_bad_ac m self s now box η n h k1 k2
end Go.Proofs.Ytkhoelmbcmkhjaa
