/- proc.Got, Ready. -/
import Derived.Test.YtkhoelmbcmkhjaaPe
namespace Go.Proofs.Ytkhoelmbcmkhjaa
set_option maxRecDepth 100000

def gotF (s : Sta) (pid : Int) : Sta × Int := if 16 ≤ s.stack.length then (sta0, 12) else ({ s with stack := s.stack ++ [pid] }, 0)
def wcZ : Wc := ⟨[], ⟨[], [], [], [], []⟩, 0, 0, 0, 0, []⟩
theorem got_ac (s : Sta) (pid : Int) (η : AHeap) (n : Nat) {sv rv : AVal} (k1 : IsL η sv s.stack) (k2 : IsL η rv s.regs) (h1 : s.stack.length ≤ 17592186044416) (h2 : s.regs.length ≤ 17592186044416) :
    AC Try.prog 38 [.agg (stC s sv rv), .int .i64 pid] η n (NewR η n (gotF s pid).1 (gotF s pid).2) := by
  have zs1 := k1.sc
  have zs2 := k2.sc
  have zd1 := k1.ac
  have zd2 := k2.ac
  refine AC.fresh fun hf => ?_; refine AC.enter Try.func38 rfl Try.ntmps38 (by simp) ?_
  have ho := fun η2 n2 (hk : ∀ r, r < n → η2 r = η r) => own_ac (η := η2) (n := n2) (s := s) (k1.keep hf hk) (k2.keep hf hk) h1 h2
  simp only [stC, stA] at ho ⊢
  simp [zs1, zs2, zd1, zd2, aload, afield, apart, upd_apply, Nat.add_assoc]
  refine ACK.use (ho _ _ (fun r hr => by
    simp only [upd_apply]
    repeat rw [if_neg (by omega)])).freshP ?_
  intro r η2 g ⟨⟨q1, q2, e1, a1, a2, a3, a4, a5, a6, a7, a8⟩, hf2⟩
  subst e1
  have b0 := a8 n (by omega)
  have b1 := a8 (n + 1) (by omega)
  simp [upd_apply] at b0 b1
  simp [stA, abuild, aplace, afillP]
  refine AC.weak (r := g) (rows' := [workC wcZ ⟨s, eff0, 0⟩ (.sl q1 0 s.stack.length) (.sl q2 0 s.regs.length) .nils]) (upd_eq ..) (by simp [workC, wcZ, eff0, actsC, ints, pairs, tblsC]) ?_
  rw [upd_upd]
  refine ACK.use (g := .mk) (push_ac (B := g) (F := [g, q1, q2]) (c := wcZ) (x := ⟨s, eff0, 0⟩) ⟨q1, q2, .nils, [], upd_eq .., by rw [upd_ne (by omega), a1]; simp, by rw [upd_ne (by omega), a2], Or.inl ⟨rfl, rfl⟩, by omega, by omega, a5, Or.inl (by simp), Or.inl (by simp), Or.inl (by simp)⟩ (by omega) pid) ?_
  intro r η3 n3 ⟨e1, u2, u3, u4⟩
  subst e1
  have nin : ∀ r, r < n + 2 → ¬ In g [g, q1, q2] r := fun r hr hi => by
    rcases hi with hi | hi
    · simp at hi; omega
    · omega
  have v1 := (u3 (n + 1) (nin _ (by omega))).trans ((upd_ne (by omega)).trans b1)
  have old : ∀ r, r < n → η3 r = η r := fun r hr => by
    rw [u3 r (nin _ (by omega)), upd_ne (by omega), a8 r (by omega)]
    simp only [upd_apply]
    repeat rw [if_neg (by omega)]
  obtain ⟨sr, rr, av, J, y⟩ := u2
  obtain ⟨x2, hx2⟩ : ∃ x2, (⟨s, eff0, 0⟩ : Wx).push pid = x2 := ⟨_, rfl⟩
  rw [hx2] at y
  have hb4 := y.blk
  have s2 : IsL η3 (.sl sr 0 x2.s.stack.length) x2.s.stack := IsL.own y.st
  have s3 : IsL η3 (.sl rr 0 x2.s.regs.length) x2.s.regs := IsL.own (J := []) (by rw [List.append_nil]; exact y.rg)
  have hg1 : ¬ g = n + 1 := by omega
  have kp : ∀ o v l, IsL η3 v l → IsL (upd η3 (n + 1) o) v l := fun o v l hv => by
    rcases hv with k | k | ⟨r, o, I, J, k1, k0, k2⟩
    · exact Or.inl k
    · exact Or.inr (Or.inl k)
    · have r1 : r ≠ n + 1 := fun e => by rw [e, v1] at k2; cases k2
      exact Or.inr (Or.inr ⟨r, o, I, J, k1, k0, by rw [upd_ne r1]; exact k2⟩)
  by_cases hc : 16 ≤ s.stack.length
  · have e2 : x2.err = 12 := by rw [← hx2]; simp [Wx.push, hc, Wx.fail]
    have eg : gotF s pid = (sta0, 12) := if_pos hc
    rw [eg]
    simp [aload, afield, apart, hb4, workC, e2]
    refine drawK.intro mixed [(0, []), (1, []), (2, []), (3, []), (4, []), (5, [4]), (6, [])] (by kernel_rfl) ?_
    simp [aload, afield, apart, hb4, workC, e2, v1, astore, upd_apply, Nat.add_assoc, lk_some, chkK, abuild, aplace, afillP, hg1]
    exact resK.rt ⟨.nils, .nils, rfl, Or.inr (Or.inl ⟨rfl, rfl⟩), Or.inr (Or.inl ⟨rfl, rfl⟩), fun r hr => by rw [upd_ne (by omega)]; exact old r hr, by omega⟩
  · have e2 : x2.err = 0 := by rw [← hx2]; simp [Wx.push, hc]
    have e3 : x2.s = { s with stack := s.stack ++ [pid] } := by rw [← hx2]; simp [Wx.push, hc]
    have eg : gotF s pid = (x2.s, 0) := by rw [e3]; exact if_neg hc
    rw [eg]
    simp [aload, afield, apart, hb4, workC, e2, v1, astore, upd_apply]
    exact resK.rt ⟨_, _, rfl, kp _ _ _ s2, kp _ _ _ s3, fun r hr => by rw [upd_ne (by omega)]; exact old r hr, by omega⟩

def readyF (m : List Actr) (s : Sta) (now : Int) (box : List (Int × Int)) : Bool :=
  if soundF m s = false then false else if s.waiting = false then true else (matchF (tbl (actr m s.actor) (ins (actr m s.actor) s.pc).2).cls box 0).2.2 || dueF s.till now
theorem ready_ac (m : List Actr) (s : Sta) (now : Int) (box : List (Int × Int)) (η : AHeap) (n : Nat) {sv rv : AVal} {η0 : AHeap} (k1 : IsL η0 sv s.stack) (k2 : IsL η0 rv s.regs) (hm : ModOK m) (hb : box.length ≤ 17592186044416) :
    AC Try.prog 37 [modV m, .agg (stC s sv rv), .int .i64 now, .rs 2 (pairs box)] η n (Rt (.bool (readyF m s now box)) η n) := by
  refine AC.pure (.bool _) ?_
  have hs := fun η n => sound_ac m s η n k1 k2
  have zs1 := k1.sc
  have zs2 := k2.sc
  have zd1 := k1.ac
  have zd2 := k2.ac
  simp only [modV, stC] at hs ⊢
  have le2 : ∀ (hf : ∀ r, n ≤ r → η r = none) o1 o2, η.le (upd (upd η n o1) (n + 1) o2) := fun hf _ _ => by simp [le_upd_iff, hf n (Nat.le_refl _), hf (n + 1) (by omega)]
  cases h : soundF m s with
  | false =>
    have e : readyF m s now box = false := by simp [readyF, h]
    rw [e]
    simp only [h] at hs
    refine AC.fresh fun hf => ?_; refine AC.enter Try.func37 rfl Try.ntmps37 (by simp) ?_
    simp [zs1, zs2, zd1, zd2, aload, afield, apart, upd_apply, Nat.add_assoc]
    refine ACK.rt (hs _ _) ?_
    simp [zs1, zs2, zd1, zd2, aload, afield, apart, upd_apply, Nat.add_assoc]
    refine ACK.rt (hs _ _) ?_
    simp
    exact resK.of (η' := η) (le2 hf _ _) _ (Nat.le_refl _) ⟨rfl, rfl⟩
  | true =>
    simp only [h] at hs
    have hd := h
    simp only [soundF, decide_eq_true_eq] at hd
    obtain ⟨p1, p2, p3, p4, p5, p6, p7⟩ := hd
    cases hw : s.waiting with
    | false =>
      have e : readyF m s now box = true := by simp [readyF, h, hw]
      rw [e]
      rw [hw] at hs
      refine AC.fresh fun hf => ?_; refine AC.enter Try.func37 rfl Try.ntmps37 (by simp) ?_
      simp [zs1, zs2, zd1, zd2, aload, afield, apart, upd_apply, Nat.add_assoc]
      refine ACK.rt (hs _ _) ?_
      simp [zs1, zs2, zd1, zd2, aload, afield, apart, upd_apply, Nat.add_assoc]
      refine ACK.rt (hs _ _) ?_
      simp
      exact resK.of (η' := η) (le2 hf _ _) _ (Nat.le_refl _) ⟨rfl, rfl⟩
    | true =>
      obtain ⟨_, t1, t2⟩ := p7 hw
      rw [hw] at hs
      have q1 : s.actor.toNat < m.length := by omega
      obtain ⟨A, hA⟩ : ∃ A, m[s.actor.toNat]'q1 = A := ⟨_, rfl⟩
      have hA2 : actr m s.actor = A := by rw [actr, List.getD_eq_getElem?_getD, List.getElem?_eq_getElem q1, hA]; rfl
      have hAm : A ∈ m := by rw [← hA]; exact List.getElem_mem ..
      rw [hA2] at p4 t1 t2
      have q2 : s.pc.toNat < A.code.length := by omega
      obtain ⟨I, hI⟩ : ∃ I, A.code[s.pc.toNat]'q2 = I := ⟨_, rfl⟩
      have hI2 : ins A s.pc = I := by rw [ins, List.getD_eq_getElem?_getD, List.getElem?_eq_getElem q2, hI]; rfl
      rw [hI2] at t1 t2
      have q3 : I.2.toNat < A.tabs.length := by omega
      obtain ⟨T, hT⟩ : ∃ T, A.tabs[I.2.toNat]'q3 = T := ⟨_, rfl⟩
      have hT2 : tbl A I.2 = T := by rw [tbl, List.getD_eq_getElem?_getD, List.getElem?_eq_getElem q3, hT]; rfl
      have hTm : T ∈ A.tabs := by rw [← hT]; exact List.getElem_mem ..
      have e : readyF m s now box = ((matchF T.cls box 0).2.2 || dueF s.till now) := by simp [readyF, h, hw, hA2, hI2, hT2]
      rw [e]
      have hmt := fun η n => match_ac T box η n (hm.cls A hAm T hTm) hb
      simp only [tblC] at hmt
      have le4 : ∀ (hf : ∀ r, n ≤ r → η r = none) o1 o2 o3, η.le (upd (upd (upd η n o1) (n + 1) o2) (n + 2) o3) := fun hf _ _ _ => by simp [le_upd_iff, hf n (Nat.le_refl _), hf (n + 1) (by omega), hf (n + 2) (by omega)]
      refine AC.fresh fun hf => ?_; refine AC.enter Try.func37 rfl Try.ntmps37 (by simp) ?_
      simp [zs1, zs2, zd1, zd2, aload, afield, apart, upd_apply, Nat.add_assoc]
      refine ACK.rt (hs _ _) ?_
      simp [zs1, zs2, zd1, zd2, aload, afield, apart, upd_apply, Nat.add_assoc, aindex, p1, p2, hA, actC, astore, upd_upd]
      refine drawK.intro mixed [(0, []), (1, []), (2, []), (3, []), (4, []), (5, []), (6, []), (7, []), (8, []), (9, []), (10, []), (11, []), (12, []), (13, []), (14, []), (15, []), (16, []), (17, []), (18, []), (19, [])] (by kernel_rfl) ?_
      simp [zs1, zs2, zd1, zd2, aload, afield, apart, upd_apply, Nat.add_assoc, aindex, p3, p4, hI, t1, t2, hT, tblC]
      refine ACK.rt (hmt _ _) ?_
      simp [lk_some, chkK]
      have le3 : ∀ o1 o2 o3 o4, η.le (upd (upd (upd (upd η n o1) (n + 1) o2) (n + 2) o3) (n + 2) o4) := fun _ _ _ _ => by simp [le_upd_iff, hf n (Nat.le_refl _), hf (n + 1) (by omega), hf (n + 2) (by omega)]
      refine CondP.intro (fun h4 => ?_) (fun h4 => ?_)
      · simp [h4]
        exact resK.of (η' := η) (by first | exact le3 _ _ _ _ | exact le4 hf _ _ _) _ (Nat.le_refl _) ⟨by simp [h4], rfl⟩
      · simp [h4, zs1, zs2, zd1, zd2, aload, afield, apart, upd_apply, Nat.add_assoc]
        refine ACK.rt (due_ac _ _ _ _) ?_
        simp [h4]
        exact resK.of (η' := η) (by first | exact le3 _ _ _ _ | exact le4 hf _ _ _) _ (Nat.le_refl _) ⟨by simp [h4], rfl⟩
end Go.Proofs.Ytkhoelmbcmkhjaa
