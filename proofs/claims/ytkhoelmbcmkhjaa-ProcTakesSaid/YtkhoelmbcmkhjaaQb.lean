/- callboylaw15.ProcTakes. -/
import Derived.Test.YtkhoelmbcmkhjaaPi
import Derived.Test.YtkhoelmbcmkhjaaAq
namespace Go.Proofs.Ytkhoelmbcmkhjaa
set_option maxRecDepth 100000

def clT (t0 t1 : Int) : List (Int × Int) := [(t0, 1), (t1, 2)]
def mT (t0 t1 : Int) : List Actr := [⟨[], [], [], [(21, 0), (0, 0), (0, 0), (0, 0)], [⟨clT t0 t1, 3⟩]⟩]
def sT (ticks : Int) : Sta := ⟨0, 0, [ticks], [], false, -1⟩
theorem mT_ok (t0 t1 : Int) : ModOK (mT t0 t1) := ⟨by simp [mT], by simp [mT, clT]⟩
def untilT (ticks : Int) : Int := min (5 + min ticks 1099511627776) 1099511627776
theorem step_takes (t0 t1 ticks : Int) (box : List (Int × Int)) : stepF (mT t0 t1) 1 (sT ticks) 5 box =
    if (matchF (clT t0 t1) box 0).2.2 = true then (⟨0, (matchF (clT t0 t1) box 0).2.1, [(box.getD (matchF (clT t0 t1) box 0).1.toNat (0, 0)).2], [], false, -1⟩, ⟨0, 0, (0, 0), 0, [], 0, (0, 0), (matchF (clT t0 t1) box 0).1⟩, 0)
    else if ticks ≤ 0 then (⟨0, 3, [], [], false, -1⟩, ⟨0, 0, (0, 0), 0, [], 0, (0, 0), -1⟩, 0)
    else (⟨0, 0, [], [], true, untilT ticks⟩, ⟨6, 0, (0, 0), 0, [], untilT ticks, (0, 0), -1⟩, 0) := by
  have hs : soundF (mT t0 t1) (sT ticks) = true := by simp [soundF, mT, sT, actr, ins]
  have h2 : ¬ isTwo (wc0 (mT t0 t1) 1 (sT ticks) 5 box).op := by simp [wc0, mT, sT, actr, ins, isTwo]
  have hd : deedOf (wc0 (mT t0 t1) 1 (sT ticks) 5 box).op deedL = some (0, 114) := by simp [wc0, mT, sT, actr, ins, deedOf, deedL]
  have w1 : IntKind.i64.wrap ((sT ticks).pc + 1) = 1 := by rw [wrap_id] <;> simp [sT]
  have w3 : IntKind.i64.wrap (0 : Int) = 0 := by rw [wrap_id] <;> simp
  rw [stepF, if_pos hs, stepG, if_neg h2, hd, w1]
  have ew : workF (wc0 (mT t0 t1) 1 (sT ticks) 5 box) ((wx0 (sT ticks)).setpc 1) = ((wx0 (sT ticks)).setpc 1).recv [⟨clT t0 t1, 3⟩] 0 5 box := by
    simp [workF, wc0, mT, sT, actr, ins]
  simp only [ew]
  unfold Wx.recv
  have ec : (((wx0 (sT ticks)).setpc 1).stays.clock 3 5) = { wx0 (sT ticks) with s := ⟨0, 0, [], [], false, clipF (clipF 5 + clipF ticks)⟩ } := by
    simp [Wx.clock, Wx.stays, Wx.setpc, wx0, sT, w3, Wx.pop, Wx.top, Wx.till]
  simp only [show (0 : Int) ≤ 0 ∧ (0 : Int) < (([⟨clT t0 t1, 3⟩] : List Tbl).length : Int) from ⟨by omega, by simp⟩, if_true]
  have et : ([⟨clT t0 t1, 3⟩] : List Tbl).getD (0 : Int).toNat noTbl = ⟨clT t0 t1, 3⟩ := rfl
  rw [et, ec]
  unfold Wx.gets
  by_cases hm : (matchF (clT t0 t1) box 0).2.2 = true
  · simp [hm, stepEnd, Wx.took, Wx.push, Wx.goes, wx0, eff0]
  · have hb : clipF (clipF 5 + clipF ticks) = (if ticks ≤ 0 then 5 else untilT ticks) := by
      unfold clipF untilT; split <;> omega
    by_cases ht : ticks ≤ 0
    · have hd : dueF (clipF (clipF 5 + clipF ticks)) 5 = true := by rw [hb, if_pos ht]; simp [dueF, clipF]; omega
      simp [hm, ht, hd, stepEnd, Wx.goes, wx0, eff0]
    · have hd : dueF (untilT ticks) 5 = false := by simp only [dueF, decide_eq_false_iff_not]; unfold clipF untilT; omega
      rw [hb, if_neg ht]
      simp [hm, ht, hd, stepEnd, Wx.waits, wx0, eff0]
theorem matchT_head (t0 t1 : Int) (m : Int × Int) (r : List (Int × Int)) (i : Int) : matchF (clT t0 t1) (m :: r) i = if m.1 = t0 then (i, 1, true) else if m.1 = t1 then (i, 2, true) else matchF (clT t0 t1) r (i + 1) := by
  simp only [matchF, clT, toF]
  by_cases h0 : t0 = m.1
  · simp [h0]
  · by_cases h1 : t1 = m.1
    · simp [h0, h1, Ne.symm h0]
    · simp [h0, h1, Ne.symm h0, Ne.symm h1]
theorem takes_ac (t0 t1 ticks : Int) (box : List (Int × Int)) (η : AHeap) (n : Nat) (hb : box.length ≤ 17592186044416) : AC Try.prog 5 [.agg [.int .i64 t0, .int .i64 t1], .rs 2 (pairs box), .int .i64 ticks] η n (fun r _ _ => r = .bool true) := by
  have hlives := fun η n => lives15_ac η n
  refine AC.fresh fun hf => ?_; refine AC.enter Try.func5 rfl Try.ntmps5 (by simp) ?_
  simp
  refine ACK.rt (hlives _ _) ?_
  simp [abuildS, afillP, chunk, tek, upd_eq, aindex, aload, apart, abuild, aplace, astore, upd_apply, Nat.add_assoc]
  refine ACK.freeze [n + 1, n + 2, n + 3, n + 4] [] 6 ?_
  have hK : ∀ η0, IsL (frzH [n + 1, n + 2, n + 3, n + 4] [] 6 (upd η0 (n + 6) (some (.cells 1 [[.int .i64 ticks]])))) (.sl (n + 6) 0 1) [ticks] := fun η0 => IsL.own1 rfl (by rw [frzH_out _ (by simp) (by simp) (by simp), upd_eq]; rfl)
  refine ACK.use (g := .mk) (AC.freshP (AC.args (step_ac (mT t0 t1) 1 (sT ticks) 5 box _ _ (mT_ok t0 t1) hb (by simp [sT]) (sv := .sl (n + 6) 0 1) (rv := .nils) (hK _) (Or.inr (Or.inl ⟨rfl, rfl⟩))) ?_)) ?_
  · simp [frz, upd_apply, lenMax, sT, stC]
    exact Ent.mod (by simp [actsC, actC, mT, clT, ints, pairs, tblsC, tblC])
  intro r η2 n2 ⟨⟨sv2, rv2, av2, e1, j1, j2, j3, j4, j5⟩, hf2⟩
  subst e1
  have b0 := j4 n (by omega)
  rw [frzH_out _ (by simp) (by simp) (by simp)] at b0
  simp [upd_apply] at b0
  rw [step_takes] at j1 j2 j3 ⊢
  have sd1 := j1.sc
  have sd2 := j2.sc
  have sd3 := j3.sc
  have ad1 := j1.ac
  have ad2 := j2.ac
  have ad3 := j3.ac
  have m1 : ¬ n = n2 := by omega
  have m2 : ¬ n = n2 + 1 := by omega
  have m3 : ¬ n2 = n2 + 1 := by omega
  by_cases hm : (matchF (clT t0 t1) box 0).2.2 = true
  · rw [if_pos hm] at j1 j2 j3 ⊢
    simp [stC, effC, aload, afield, apart, astore, upd_apply, upd_upd, sd1, sd2, sd3, ad1, ad2, ad3, Nat.add_assoc, b0, m1, m2]
    have old : ∀ o1 o2 o3 o4 r, r < n2 → upd (upd (upd (upd η2 n2 o1) (n2 + 1) o2) n2 o3) (n2 + 1) o4 r = η2 r := fun _ _ _ _ r hr => by simp only [upd_apply]; repeat rw [if_neg (by omega)]
    generalize hE : upd (upd (upd (upd η2 n2 _) (n2 + 1) _) n2 _) (n2 + 1) _ = η4
    have x0 : η4 n = some (.cells 2 [[.int .i64 t0, .int .i64 t1]]) := by rw [← hE, old _ _ _ _ _ (by omega)]; exact b0
    obtain ⟨mi, mp, mo⟩ : ∃ a b, matchF (clT t0 t1) box 0 = (a, b, true) := ⟨_, _, by rw [← hm]⟩
    rw [mo] at hE j1
    have x8 : η4 n2 = some (.cells 6 [[.int .i64 0, .int .i64 mp, sv2, rv2, .bool false, .int .i64 (-1)]]) := by rw [← hE]; simp [upd_apply, m3]
    have x9 : η4 (n2 + 1) = some (.cells 10 [[.int .i64 0, .int .i64 0, .int .i64 0, .int .i64 0, .int .i64 0, av2, .int .i64 0, .int .i64 0, .int .i64 0, .int .i64 mi]]) := by rw [← hE]; simp [upd_apply]
    have j1' : IsL η4 sv2 [(box.getD mi.toNat (0, 0)).2] := by rw [← hE]; exact IsL.keep j1 hf2 (old _ _ _ _)
    have hf4 : ∀ r, n2 + 2 ≤ r → η4 r = none := fun r hr => by
      rw [← hE]; simp only [upd_apply]
      repeat rw [if_neg (by omega)]
      exact hf2 r (by omega)
    clear hE j1 j2 j3 j4
    refine loopK.inv [6, 11, 12, 44, 45, 46, 47, 48, 49, 50, 51, 52, 53, 54, 55, 56, 57, 58, 59, 60, 61, 62, 63, 64, 65, 66, 67, 68, 69, 70, 71, 72, 73, 74, 75, 76, 77, 78, 79, 80, 81, 82, 83, 84, 85, 86, 87, 88, 89, 90, 91, 92, 93, 94, 95, 96, 97, 98] (fun k : Nat => k ≤ box.length ∧ matchF (clT t0 t1) (box.drop k) k = (mi, mp, true)) (fun k => [(11, .int .i64 k)]) (fun _ => η4) (fun _ => n2 + 2) (fun k => box.length - k) 0 (by simp [mo]) (by simp) (by simp) (Nat.le_refl _) ?_
    intro k ⟨g1, g2⟩
    simp
    refine CondP.dec (fun h => ?_) (fun h => ?_)
    · have h' : k < box.length := by omega
      have hd : box.drop k = box[k] :: box.drop (k + 1) := List.drop_eq_getElem_cons h'
      rw [hd, matchT_head] at g2
      simp [h]
      refine drawK.intro mixed [(0, []), (1, []), (2, []), (3, []), (4, []), (5, []), (6, []), (7, [])] (by kernel_rfl) ?_
      simp [aindex, h', aload, afield, apart, x0]
      have ew : IntKind.i64.wrap ((k : Int) + 1) = (k : Int) + 1 := wrap_id (by omega) (by omega)
      have ek : box.getD (k : Int).toNat (0, 0) = box[k] := by simp [List.getD_eq_getElem?_getD, h']
      refine CondP.dec (fun c1 => ?_) (fun c1 => ?_)
      · by_cases c0 : box[k].1 = t0
        · rw [if_pos c0] at g2
          simp only [Prod.mk.injEq, and_true] at g2
          obtain ⟨e1, e2⟩ := g2
          rw [← e2] at x8
          rw [← e1] at x9 j1'
          simp [c1]
          refine drawK.intro mixed [(0, []), (1, []), (2, []), (3, []), (4, []), (5, []), (6, []), (7, [])] (by kernel_rfl) ?_
          simp [aindex, h', aload, afield, apart, x0, c0]
          refine drawK.intro mixed [(0, []), (1, []), (2, []), (3, []), (4, []), (5, []), (6, []), (7, []), (8, []), (9, []), (10, []), (11, []), (12, []), (13, []), (14, []), (15, []), (16, []), (17, []), (18, []), (19, []), (20, []), (21, []), (22, []), (23, []), (24, []), (25, []), (26, []), (27, []), (28, [22]), (29, []), (30, []), (31, [])] (by kernel_rfl) ?_
          simp [aindex, h', aload, afield, apart, x0, x8, x9, abuildS, afillP, chunk, tek, lk_some, chkK, m3, upd_apply]
          refine ACK.rt (sameLongs_ac (IsL.le j1' (le_upd (AHeap.le_rfl _) (hf4 _ (Nat.le_refl _)))) (l2 := [(box.getD (k : Int).toNat (0, 0)).2]) (IsL.own1 rfl ?_) (by simp)) ?_
          · rw [upd_eq, ek]; rfl
          simp
          exact resK.rt rfl
        · rw [if_neg c0, if_pos c1] at g2
          simp only [Prod.mk.injEq, and_true] at g2
          obtain ⟨e1, e2⟩ := g2
          rw [← e2] at x8
          rw [← e1] at x9 j1'
          simp [c1]
          refine drawK.intro mixed [(0, []), (1, []), (2, []), (3, []), (4, []), (5, []), (6, []), (7, [])] (by kernel_rfl) ?_
          simp [aindex, h', aload, afield, apart, x0, c0]
          refine drawK.intro mixed [(0, []), (1, []), (2, []), (3, []), (4, []), (5, []), (6, []), (7, []), (8, []), (9, []), (10, []), (11, []), (12, []), (13, []), (14, []), (15, []), (16, []), (17, []), (18, []), (19, []), (20, []), (21, []), (22, []), (23, []), (24, []), (25, []), (26, []), (27, []), (28, [22]), (29, []), (30, []), (31, [])] (by kernel_rfl) ?_
          simp [aindex, h', aload, afield, apart, x0, x8, x9, abuildS, afillP, chunk, tek, lk_some, chkK, m3, upd_apply]
          refine ACK.rt (sameLongs_ac (IsL.le j1' (le_upd (AHeap.le_rfl _) (hf4 _ (Nat.le_refl _)))) (l2 := [(box.getD (k : Int).toNat (0, 0)).2]) (IsL.own1 rfl ?_) (by simp)) ?_
          · rw [upd_eq, ek]; rfl
          simp
          exact resK.rt rfl
      · by_cases c0 : box[k].1 = t0
        · rw [if_pos c0] at g2
          simp only [Prod.mk.injEq, and_true] at g2
          obtain ⟨e1, e2⟩ := g2
          rw [← e2] at x8
          rw [← e1] at x9 j1'
          simp [c1]
          refine drawK.intro mixed [(0, []), (1, []), (2, []), (3, []), (4, []), (5, []), (6, []), (7, [])] (by kernel_rfl) ?_
          simp [aindex, h', aload, afield, apart, x0, c0]
          refine drawK.intro mixed [(0, []), (1, []), (2, []), (3, []), (4, []), (5, []), (6, []), (7, []), (8, []), (9, []), (10, []), (11, []), (12, []), (13, []), (14, []), (15, []), (16, []), (17, []), (18, []), (19, []), (20, []), (21, []), (22, []), (23, []), (24, []), (25, []), (26, []), (27, []), (28, [22]), (29, []), (30, []), (31, [])] (by kernel_rfl) ?_
          simp [aindex, h', aload, afield, apart, x0, x8, x9, abuildS, afillP, chunk, tek, lk_some, chkK, m3, upd_apply]
          refine ACK.rt (sameLongs_ac (IsL.le j1' (le_upd (AHeap.le_rfl _) (hf4 _ (Nat.le_refl _)))) (l2 := [(box.getD (k : Int).toNat (0, 0)).2]) (IsL.own1 rfl ?_) (by simp)) ?_
          · rw [upd_eq, ek]; rfl
          simp
          exact resK.rt rfl
        · rw [if_neg c0, if_neg c1] at g2
          simp [c1]
          refine drawK.intro mixed [(0, []), (1, []), (2, []), (3, []), (4, []), (5, []), (6, []), (7, [])] (by kernel_rfl) ?_
          simp [aindex, h', aload, afield, apart, x0, c0, ew]
          exact endK.intro (k + 1) (show k + 1 ≤ box.length ∧ _ from ⟨by omega, by simpa using g2⟩) (by simp) (by repeat (first | exact Agree.mask _ _ | refine Agree.setf rfl ?_)) (AHeap.le_rfl _) (Nat.le_refl _) (show box.length - (k + 1) < box.length - k by omega)
    · exfalso
      rw [List.drop_eq_nil_of_le (by omega)] at g2
      simp [matchF] at g2
  · have hm : (matchF (clT t0 t1) box 0).2.2 = false := by simpa using hm
    have hm' : ¬ (matchF (clT t0 t1) box 0).2.2 = true := by simp [hm]
    rw [if_neg hm'] at j1 j2 j3 ⊢
    by_cases ht : ticks ≤ 0
    · rw [if_pos ht] at j1 j2 j3 ⊢
      simp [stC, effC, aload, afield, apart, astore, upd_apply, upd_upd, sd1, sd2, sd3, ad1, ad2, ad3, Nat.add_assoc, b0, m1, m2]
      have old : ∀ o1 o2 o3 o4 r, r < n2 → upd (upd (upd (upd η2 n2 o1) (n2 + 1) o2) n2 o3) (n2 + 1) o4 r = η2 r := fun _ _ _ _ r hr => by simp only [upd_apply]; repeat rw [if_neg (by omega)]
      generalize hE : upd (upd (upd (upd η2 n2 _) (n2 + 1) _) n2 _) (n2 + 1) _ = η4
      have x0 : η4 n = some (.cells 2 [[.int .i64 t0, .int .i64 t1]]) := by rw [← hE, old _ _ _ _ _ (by omega)]; exact b0
      have x8 : η4 n2 = some (.cells 6 [[.int .i64 0, .int .i64 3, sv2, rv2, .bool false, .int .i64 (-1)]]) := by rw [← hE]; simp [upd_apply, m3]
      have x9 : η4 (n2 + 1) = some (.cells 10 [[.int .i64 0, .int .i64 0, .int .i64 0, .int .i64 0, .int .i64 0, av2, .int .i64 0, .int .i64 0, .int .i64 0, .int .i64 (-1)]]) := by rw [← hE]; simp [upd_apply]
      have l1 : ∀ η', alenT Try.prog 25 sv2 η' = some 0 := j1.len (by simp)
      clear hE j1 j2 j3 j4
      refine loopK.inv [6, 11, 12, 44, 45, 46, 47, 48, 49, 50, 51, 52, 53, 54, 55, 56, 57, 58, 59, 60, 61, 62, 63, 64, 65, 66, 67, 68, 69, 70, 71, 72, 73, 74, 75, 76, 77, 78, 79, 80, 81, 82, 83, 84, 85, 86, 87, 88, 89, 90, 91, 92, 93, 94, 95, 96, 97, 98] (fun k : Nat => k ≤ box.length ∧ (matchF (clT t0 t1) (box.drop k) k).2.2 = false) (fun k => [(11, .int .i64 k)]) (fun _ => η4) (fun _ => n2 + 2) (fun k => box.length - k) 0 (by simpa using hm) (by simp) (by simp) (Nat.le_refl _) ?_
      intro k ⟨g1, g2⟩
      simp
      refine CondP.dec (fun h => ?_) (fun h => ?_)
      · have h' : k < box.length := by omega
        have hd : box.drop k = box[k] :: box.drop (k + 1) := List.drop_eq_getElem_cons h'
        rw [hd, matchT_head] at g2
        simp [h]
        refine drawK.intro mixed [(0, []), (1, []), (2, []), (3, []), (4, []), (5, []), (6, []), (7, [])] (by kernel_rfl) ?_
        simp [aindex, h', aload, afield, apart, x0]
        have ew : IntKind.i64.wrap ((k : Int) + 1) = (k : Int) + 1 := wrap_id (by omega) (by omega)
        have c0 : ¬ box[k].1 = t0 := fun c => by rw [if_pos c] at g2; simp at g2
        rw [if_neg c0] at g2
        have c1 : ¬ box[k].1 = t1 := fun c => by rw [if_pos c] at g2; simp at g2
        rw [if_neg c1] at g2
        simp [c1]
        refine drawK.intro mixed [(0, []), (1, []), (2, []), (3, []), (4, []), (5, []), (6, []), (7, [])] (by kernel_rfl) ?_
        simp [aindex, h', aload, afield, apart, x0, c0, ew]
        exact endK.intro (k + 1) (show k + 1 ≤ box.length ∧ _ from ⟨by omega, by simpa using g2⟩) (by simp) (by repeat (first | exact Agree.mask _ _ | refine Agree.setf rfl ?_)) (AHeap.le_rfl _) (Nat.le_refl _) (show box.length - (k + 1) < box.length - k by omega)
      · simp [h, ht, aload, afield, apart, x8, x9, l1]
        exact resK.rt rfl
    · rw [if_neg ht] at j1 j2 j3 ⊢
      simp [stC, effC, aload, afield, apart, astore, upd_apply, upd_upd, sd1, sd2, sd3, ad1, ad2, ad3, Nat.add_assoc, b0, m1, m2]
      have old : ∀ o1 o2 o3 o4 r, r < n2 → upd (upd (upd (upd η2 n2 o1) (n2 + 1) o2) n2 o3) (n2 + 1) o4 r = η2 r := fun _ _ _ _ r hr => by simp only [upd_apply]; repeat rw [if_neg (by omega)]
      generalize hE : upd (upd (upd (upd η2 n2 _) (n2 + 1) _) n2 _) (n2 + 1) _ = η4
      have x0 : η4 n = some (.cells 2 [[.int .i64 t0, .int .i64 t1]]) := by rw [← hE, old _ _ _ _ _ (by omega)]; exact b0
      have x8 : η4 n2 = some (.cells 6 [[.int .i64 0, .int .i64 0, sv2, rv2, .bool true, .int .i64 (untilT ticks)]]) := by rw [← hE]; simp [upd_apply, m3]
      have x9 : η4 (n2 + 1) = some (.cells 10 [[.int .i64 6, .int .i64 0, .int .i64 0, .int .i64 0, .int .i64 0, av2, .int .i64 (untilT ticks), .int .i64 0, .int .i64 0, .int .i64 (-1)]]) := by rw [← hE]; simp [upd_apply]
      have l1 : ∀ η', alenT Try.prog 25 sv2 η' = some 0 := j1.len (by simp)
      clear hE j1 j2 j3 j4
      refine loopK.inv [6, 11, 12, 44, 45, 46, 47, 48, 49, 50, 51, 52, 53, 54, 55, 56, 57, 58, 59, 60, 61, 62, 63, 64, 65, 66, 67, 68, 69, 70, 71, 72, 73, 74, 75, 76, 77, 78, 79, 80, 81, 82, 83, 84, 85, 86, 87, 88, 89, 90, 91, 92, 93, 94, 95, 96, 97, 98] (fun k : Nat => k ≤ box.length ∧ (matchF (clT t0 t1) (box.drop k) k).2.2 = false) (fun k => [(11, .int .i64 k)]) (fun _ => η4) (fun _ => n2 + 2) (fun k => box.length - k) 0 (by simpa using hm) (by simp) (by simp) (Nat.le_refl _) ?_
      intro k ⟨g1, g2⟩
      simp
      refine CondP.dec (fun h => ?_) (fun h => ?_)
      · have h' : k < box.length := by omega
        have hd : box.drop k = box[k] :: box.drop (k + 1) := List.drop_eq_getElem_cons h'
        rw [hd, matchT_head] at g2
        simp [h]
        refine drawK.intro mixed [(0, []), (1, []), (2, []), (3, []), (4, []), (5, []), (6, []), (7, [])] (by kernel_rfl) ?_
        simp [aindex, h', aload, afield, apart, x0]
        have ew : IntKind.i64.wrap ((k : Int) + 1) = (k : Int) + 1 := wrap_id (by omega) (by omega)
        have c0 : ¬ box[k].1 = t0 := fun c => by rw [if_pos c] at g2; simp at g2
        rw [if_neg c0] at g2
        have c1 : ¬ box[k].1 = t1 := fun c => by rw [if_pos c] at g2; simp at g2
        rw [if_neg c1] at g2
        simp [c1]
        refine drawK.intro mixed [(0, []), (1, []), (2, []), (3, []), (4, []), (5, []), (6, []), (7, [])] (by kernel_rfl) ?_
        simp [aindex, h', aload, afield, apart, x0, c0, ew]
        exact endK.intro (k + 1) (show k + 1 ≤ box.length ∧ _ from ⟨by omega, by simpa using g2⟩) (by simp) (by repeat (first | exact Agree.mask _ _ | refine Agree.setf rfl ?_)) (AHeap.le_rfl _) (Nat.le_refl _) (show box.length - (k + 1) < box.length - k by omega)
      · have eu : IntKind.i64.wrap (5 + min ticks 1099511627776) = 5 + min ticks 1099511627776 := wrap_id (by omega) (by omega)
        simp [h, ht, eu, aload, afield, apart, x8, x9, l1]
        exact resK.rt (by simp [untilT, eu])
end Go.Proofs.Ytkhoelmbcmkhjaa
