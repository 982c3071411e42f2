/- Layer 6: CheckDead. -/
import Derived.Test.YtkhoelmbcmkhjaaGh
import Derived.Test.YtkhoelmbcmkhjaaGg
namespace Go.Proofs.Ytkhoelmbcmkhjaa
set_option maxRecDepth 100000

theorem other_acts (m : List Actr) (k at' : Nat) (i : Int × Int) : actsC (other m k at' i) = (actsC m).set k (actC ⟨(actr m k).params, (actr m k).regs, (actr m k).msgs, (actr m k).code.set at' i, (actr m k).tabs⟩) := by
  simp [actsC, other, List.map_set]
theorem other_64 {m : List Actr} (hm : Mod64 m) {k at' : Nat} (hk : k < m.length) {i : Int × Int} (h1 : I64 i.1) (h2 : I64 i.2) : Mod64 (other m k at' i) := by
  refine ⟨by rw [other_len]; exact hm.1, fun x hx => ?_⟩
  have ha := hm.2 m[k] (List.getElem_mem ..)
  have ea : actr m (k : Int) = m[k] := by simp [actr, List.getD_eq_getElem?_getD, hk]
  unfold other at hx
  rcases List.mem_or_eq_of_mem_set hx with h | rfl
  · exact hm.2 x h
  · rw [ea]
    refine ⟨ha.params, ha.regs, ha.msgs, ⟨by simpa using ha.code.1, fun y hy => ?_⟩, ha.tabs⟩
    rcases List.mem_or_eq_of_mem_set hy with h | rfl
    · exact ha.code.2 y h
    · exact ⟨h1, h2⟩
theorem dead_ac (m : List Actr) (p i : Int × Int) (η : AHeap) (n : Nat) (hm : Mod64 m) (hi1 : I64 i.1) (hi2 : I64 i.2) : AC Try.prog 9 [modV m, .agg [.int .i64 p.1, .int .i64 p.2], .agg [.int .i64 i.1, .int .i64 i.2]] η n (Rt (.bool true) η n) := by
  refine AC.pure (.bool _) ?_
  have h1 := fun η n => check_ac m η n hm
  simp only [modV, actsC, fltV] at h1
  refine AC.fresh fun hf => ?_; refine AC.enter Try.func9 rfl Try.ntmps9 (by simp) ?_
  have fin : ∀ {η' : AHeap}, (∀ r, r < n → η' r = η r) → η.le η' := fun h => le_old hf h
  simp [modV, actsC, upd_eq, upd_ne, Nat.add_assoc]
  refine ACK.rt (lives06_ac _ _) ?_
  simp [aload, apart, upd_apply]
  refine ACK.rt (h1 _ _) ?_
  simp [afldv, apart]
  by_cases hz : (checkF m).1 = 0
  rotate_left
  · simp [hz]
    exact resK.of (η' := η) (fin fun r hr => by simp only [upd_apply]; repeat rw [if_neg (by omega)]) _ (Nat.le_refl _) ⟨rfl, rfl⟩
  have ez := (checkF_zero hz).1
  have hr := (checkF_zero hz).2
  have h0 : 0 < m.length := by
    rcases Nat.eq_zero_or_pos m.length with h | h
    · exact absurd (List.length_eq_zero_iff.1 h ▸ hz : (checkF []).1 = 0) (by rw [show checkF [] = (4, 0, 0) from by kernel_rfl]; decide)
    · exact h
  obtain ⟨k, hk, ek⟩ := urem_nat (a := p.1) h0 hm.1
  have hc := lcOK_of hr hk
  have ho := hc.ownA
  have ea : actr m (k : Int) = m[k] := by simp [actr, List.getD_eq_getElem?_getD, hk]
  simp only at ho
  rw [ea] at ho
  have hc0 := ho.c0
  have hc200 := ho.c200
  obtain ⟨at', hat, eat⟩ := urem_nat (a := p.2) (n := m[k].code.length) hc0 (by omega)
  have u1 : ¬ IntKind.u64.wrap (m.length : Int) = 0 := by rw [wrapU _ (by omega) (by have := hm.1; omega)]; omega
  have u2 : ¬ IntKind.u64.wrap (m[k].code.length : Int) = 0 := by rw [wrapU _ (by omega) (by omega)]; omega
  have hsh := fun η n => shapesR_ac m (k : Int) η n hm
  have eb : shpB m (k : Int) = true := by simp [shpB, ez]; omega
  have er : shpRes m (k : Int) = .tup [.rs 1 (shpC (lookL m k).1.shapes), .rs 1 (boolC ((lookL m k).1.has.take (actr m k).code.length))] := by unfold shpRes; rw [if_pos eb]; rfl
  rw [er] at hsh
  simp only [modV, actsC] at hsh
  obtain ⟨hS, hL, hh0, hs0⟩ := look_done ez hk
  have lsx := hS.ls
  have lhx := hS.li.lh
  have hd0 : ∀ i', (lookL m k).1.has.getD at' false = false → ∀ j, j < m.length → lookL (other m k at' i') j = lookL m j := fun i' hd j hj => look_other hr hk hd hj
  have hck := fun (hd : (lookL m k).1.has.getD at' false = false) (hr' : rightM (other m k at' i) = 0) => check_other ez hk hd hr'
  have hlk : (lookL m k).1.has.getD at' false = false → lookL (other m k at' i) k = lookL m k := fun hd => look_other hr hk hd hk
  have hli := fun p => (hS.li.ok p).2
  generalize hX : (lookL m k).1 = x at *
  rw [ea] at lsx hsh
  simp only at lsx lhx
  have ltk : (x.has.take m[k].code.length).length = m[k].code.length := by simp; omega
  have z1 : (shpC x.shapes).length = m[k].code.length := by rw [shpC_len]; exact lsx
  have z2 : (boolC (x.has.take m[k].code.length)).length = m[k].code.length := by rw [boolC_len]; exact ltk
  have r1 := boolC_get (l := x.has.take m[k].code.length) (i := at') (by omega)
  rw [take_getD hat] at r1
  simp [hz, aconv, aload, afield, aindex, apart, upd_apply, u1, ek, hk, actC, u2, eat]
  refine ACK.rt (hsh _ _) ?_
  simp [z1, z2, aindex, r1, aload, apart]
  refine CondP.intro (fun gh => ?_) (fun gh => ?_)
  · simp [z1, z2]
    exact resK.of (η' := η) (fin fun r hr => by simp only [upd_apply]; repeat rw [if_neg (by omega)]) _ (Nat.le_refl _) ⟨rfl, rfl⟩
  have gh' : x.has.getD at' false = false := by rw [List.getD_eq_getElem?_getD]; exact gh
  have hml := hc.ml
  simp only at hml
  have b1 : m.length * 120 ≤ 140737488355328 := by omega
  have b2 : m.length ≤ 17592186044416 := by omega
  have b3 : m[k].code.length * 16 ≤ 140737488355328 := by omega
  have b4 : m[k].code.length ≤ 17592186044416 := by omega
  have hsc : ∀ a, a ∈ m → ∀ c, c ∈ actC a → c.sc = true := fun a _ c hc => by
    simp [actC] at hc
    rcases hc with rfl | rfl | rfl | rfl | rfl <;> rfl
  simp [aload, apart, afield, upd_apply, appK, aappend, arows, lenMax, abuild, aplace, afillP, astore, Nat.add_assoc, b1, b2]
  refine ⟨hsc, ?_⟩
  refine drawK.intro mixed [(0, []), (1, []), (2, []), (3, []), (4, [1]), (5, []), (6, []), (7, [])] (by kernel_rfl) ?_
  simp [aload, apart, afield, upd_apply, appK, aappend, arows, lenMax, abuild, aplace, afillP, astore, Nat.add_assoc, aindex, hk, hat, b3, b4, lk_some, chkK]
  refine ⟨fun r hr c hc => by
    simp [pairs] at hr
    obtain ⟨x, y, _, rfl⟩ := hr
    simp at hc
    rcases hc with rfl | rfl <;> rfl, ?_⟩
  refine drawK.intro mixed [(0, []), (1, []), (2, []), (3, []), (4, []), (5, []), (6, []), (7, []), (8, []), (9, [])] (by kernel_rfl) ?_
  simp [aload, apart, afield, upd_apply, abuild, aplace, afillP, astore, Nat.add_assoc, aindex, hk, hat, lk_some, chkK, actC]
  refine ACK.heap fun H hH => ?_
  have hH3 : H (n + 3) = some (.cells 5 ((actsC m).set k [.rs 1 (ints m[k].params), .rs 1 (ints m[k].regs), .rs 1 (ints m[k].msgs), .sl (n + 5) 0 m[k].code.length, .rs 2 (tblsC m[k].tabs)])) := by rw [hH]; simp [upd_apply, actsC]
  have hH4 : H (n + 4) = some (.cells 1 [[.sl (n + 3) 0 m.length]]) := by rw [hH]; simp [upd_apply]
  have hH5 : H (n + 5) = some (.cells 2 (pairs (m[k].code.set at' i))) := by rw [hH]; simp [upd_apply, pairs, List.map_set]
  have hH0 : H n = some (.cells 1 [[.rs 5 (List.map actC m)]]) := by rw [hH]; simp [upd_apply]
  have hHo : ∀ r, r < n → H r = η r := fun r hr => by rw [hH]; simp only [upd_apply]; repeat rw [if_neg (by omega)]
  clear hH
  have hmo := other_64 hm hk (at' := at') (i := i) hi1 hi2
  have fz : ∀ fu, frz ([n + 3, n + 5].contains ·) H (fu + 3) (.sl (n + 3) 0 m.length) = .rs 5 (actsC (other m k at' i)) := fun fu => by
    rw [frz, hH3]
    simp only
    rw [if_pos ⟨by simp, by simp, by simp only [lenMax]; omega⟩, List.drop_zero, other_acts, ea, List.take_of_length_le (by simp), List.map_set]
    congr 1
    · have : List.map (fun row => List.map (frz ([n + 3, n + 5].contains ·) H (fu + 2)) row) (actsC m) = actsC m := by
        unfold actsC
        rw [List.map_map]
        refine List.map_congr_left fun a _ => ?_
        exact frz_actC _ _ _ _
      rw [this]
      congr 1
      have e2 := frz_pairs (fun x => decide (x = n + 3) || decide (x = n + 5)) H (fu + 1) (m[k].code.set at' i)
      simp [frz, actC, hH5, lenMax, b4]
      rw [e2, List.take_of_length_le (by simp)]
  refine ACK.freeze [n + 3, n + 5] [n + 4] 6 ?_
  refine ACK.heap fun H' hH' => ?_
  have k4 : H' (n + 4) = some (.cells 1 [[.rs 5 (actsC (other m k at' i))]]) := by
    rw [hH', frzH, if_neg (by simp), if_pos (by simp), hH4]
    simp only [Option.map, objMap, List.map_cons, List.map_nil, fz 3]
  have k0 : H' n = some (.cells 1 [[.rs 5 (List.map actC m)]]) := by
    rw [hH', frzH, if_neg (by simp), if_neg (by simp), hH0]
  have ko : ∀ r, r < n → H' r = η r := fun r hr => by
    rw [hH', frzH, if_neg (by simp; omega), if_neg (by simp; omega)]; exact hHo r hr
  clear hH'
  have ka : List.map (frz ([n + 3, n + 5].contains ·) H 6) [AVal.agg [.sl (n + 3) 0 m.length]] = [modV (other m k at' i)] := by
    show [AVal.agg [frz _ H 5 (.sl (n + 3) 0 m.length)]] = _
    rw [fz 2]; rfl
  rw [ka]
  refine ACK.rt (mright_ac _ _ _ hmo) ?_
  simp
  by_cases hr' : rightM (other m k at' i) = 0
  rotate_left
  · simp [hr']
    exact resK.of (η' := η) (fin ko) _ (Nat.le_refl _) ⟨rfl, rfl⟩
  have hsh2 := fun η n => shapesR_ac (other m k at' i) (k : Int) η n hmo
  have hck2 := fun η n => check_ac (other m k at' i) η n hmo
  have eb2 : shpB (other m k at' i) (k : Int) = true := by simp [shpB, hck gh' hr', other_len]; omega
  have er2 : shpRes (other m k at' i) (k : Int) = .tup [.rs 1 (shpC x.shapes), .rs 1 (boolC (x.has.take m[k].code.length))] := by
    unfold shpRes; rw [if_pos eb2, Int.toNat_natCast, hlk gh', hX]
    have : (actr (other m k at' i) (k : Int)).code.length = m[k].code.length := by
      rw [other_actr m k at' i hk, if_pos (by simp)]; simp [ea]
    rw [this]
  rw [er2] at hsh2
  rw [hck gh' hr'] at hck2
  simp only [modV, fltV] at hsh2 hck2
  simp [hr', aload, apart, k4]
  refine ACK.rt (hsh2 _ _) ?_
  simp [aload, apart, k4]
  refine ACK.rt (hck2 _ _) ?_
  simp [afldv, apart, z1]
  refine loopK.inv [6, 15, 107, 108, 109, 110, 111, 112, 113, 114, 115, 116, 117, 118, 119, 120, 121, 122, 123, 124, 125, 126, 127, 128, 129, 130, 131, 132, 133] (fun a : Nat => a ≤ m[k].code.length) (fun a => [(15, .int .i64 a)]) (fun _ => H') (fun _ => n + 6) (fun a => m[k].code.length - a) 0 (by simp) (by simp) (AHeap.le_rfl _) (Nat.le_refl _) ?_
  intro j j1
  simp [z1]
  refine CondP.dec (fun g2 => ?_) (fun g2 => ?_)
  rotate_left
  · simp [g2]
    exact resK.of (η' := η) (fin ko) _ (Nat.le_refl _) ⟨rfl, rfl⟩
  have hj : j < m[k].code.length := by omega
  have ewp : IntKind.i64.wrap ((j : Int) + 1) = (j : Int) + 1 := wrap_id (by omega) (by omega)
  have q1 := boolC_get (l := x.has.take m[k].code.length) (i := j) (by omega)
  have q2 := shpC_get (l := x.shapes) (i := j) (by omega)
  have q3 : (x.shapes.getD j []).length ≤ 17592186044416 := by have := hli j; omega
  generalize x.shapes.getD j [] = sj at *
  generalize (x.has.take m[k].code.length).getD j false = bj at *
  simp [g2]
  refine drawK.intro mixed [(0, []), (1, []), (2, []), (3, []), (4, []), (5, []), (6, []), (7, []), (8, []), (9, []), (10, []), (11, []), (12, []), (13, []), (14, []), (15, []), (16, []), (17, []), (18, []), (19, []), (20, [])] (by kernel_rfl) ?_
  simp [aindex, aload, apart, q1, q2, aeqB]
  refine ACK.rt (same02_ac (Or.inl rfl) (Or.inl rfl) q3) ?_
  simp [ewp]
  exact endK.intro (j + 1) (by show j + 1 ≤ m[k].code.length; omega) (by simp) (by repeat (first | exact Agree.mask _ _ | refine Agree.setf rfl ?_ | refine Agree.inner rfl ?_)) (AHeap.le_rfl _) (Nat.le_refl _) (show m[k].code.length - (j + 1) < m[k].code.length - j by omega)
end Go.Proofs.Ytkhoelmbcmkhjaa
