/- Layer 6: CheckGoes. -/
import Derived.Test.YtkhoelmbcmkhjaaGf
namespace Go.Proofs.Ytkhoelmbcmkhjaa
set_option maxRecDepth 100000

theorem shpC_len (l : List (List Int)) : (shpC l).length = l.length := by simp [shpC]
theorem boolC_len (l : List Bool) : (boolC l).length = l.length := by simp [boolC]
theorem shpC_get {l : List (List Int)} {i : Nat} (h : i < l.length) : (shpC l)[i]? = some [.rs 1 (ints (l.getD i []))] := by
  simp [shpC, h, List.getD_eq_getElem?_getD]
theorem boolC_get {l : List Bool} {i : Nat} (h : i < l.length) : (boolC l)[i]? = some [.bool (l.getD i false)] := by
  simp [boolC, h, List.getD_eq_getElem?_getD]
theorem take_getD {l : List Bool} {i k : Nat} (h : i < k) : (l.take k).getD i false = l.getD i false := by
  simp [List.getD_eq_getElem?_getD, h]
theorem goes6_ac (m : List Actr) (η : AHeap) (n : Nat) (hm : Mod64 m) : AC Try.prog 8 [modV m] η n (Rt (.bool true) η n) := by
  refine AC.pure (.bool _) ?_
  have h1 := fun η n => check_ac m η n hm
  simp only [modV, actsC, fltV] at h1
  refine AC.fresh fun hf => ?_; refine AC.enter Try.func8 rfl Try.ntmps8 (by simp) ?_
  have le1 : ∀ o, η.le (upd η n o) := fun o => le_upd (AHeap.le_rfl _) (hf n (Nat.le_refl _))
  simp [modV, actsC]
  refine ACK.rt (lives06_ac _ _) ?_
  simp [aload, apart, upd_eq]
  refine ACK.rt (h1 _ _) ?_
  simp [afldv, apart]
  by_cases hz : (checkF m).1 = 0
  rotate_left
  · simp [hz]
    exact resK.of (η' := η) (le1 _) _ (Nat.le_refl _) ⟨rfl, rfl⟩
  have ez := (checkF_zero hz).1
  have hr := (checkF_zero hz).2
  simp [hz]
  generalize hH : upd η n (some (.cells 1 [[.rs 5 (List.map actC m)]])) = H
  have b0 : H n = some (.cells 1 [[.rs 5 (List.map actC m)]]) := by rw [← hH, upd_eq]
  have bf : ∀ y, n + 1 ≤ y → H y = none := fun y hy => by rw [← hH, upd_ne (by omega)]; exact hf y (by omega)
  have leH : η.le H := by rw [← hH]; exact le1 _
  refine loopK.inv [2, 3, 4, 5, 6, 7, 8, 9, 10, 11, 12, 19, 20, 21, 22, 23, 24, 25, 26, 27, 28, 29, 30, 31, 32, 33, 34, 35, 36, 37, 38, 39, 40, 41, 42, 43, 44, 45, 46, 47, 48, 49, 50, 51, 52, 53, 54, 55, 56, 57, 58, 59, 60, 61, 62, 63, 64, 65, 66, 67, 68, 69, 70, 71, 72, 73, 74, 75, 76, 77, 78, 79, 80, 81, 82, 83, 84, 85, 86, 87, 88, 89, 90, 91, 92, 93, 94, 95, 96, 97, 98, 99, 100, 101, 102, 103, 104, 105, 106, 107, 108, 109, 110, 111, 112, 113, 114, 115, 116, 117, 118, 119, 120, 121, 122, 123, 124, 125, 126, 127, 128, 129, 130, 131, 132, 133, 134, 135, 136, 137, 138, 139, 140, 141, 142, 143, 144, 145, 146] (fun a : Nat × Nat => a.1 ≤ m.length ∧ n + 1 ≤ a.2) (fun a => [(3, .int .i64 a.1)]) (fun _ => H) (fun a => a.2) (fun a => m.length - a.1) (0, n + 1) (by simp) (by simp) (AHeap.le_rfl _) (Nat.le_refl _) ?_
  intro ⟨k, n1⟩ ⟨k1, k2⟩
  simp only at k1 k2
  simp [afield, aload, apart, b0]
  refine CondP.dec (fun g1 => ?_) (fun g1 => ?_)
  rotate_left
  · simp [g1]
    exact resK.of (η' := η) leH _ (Nat.le_refl _) ⟨rfl, rfl⟩
  have hk : k < m.length := by omega
  have hc := lcOK_of hr hk
  have ho := hc.ownA
  have h200 := ho.c200
  have h0 := ho.c0
  have ea : actr m (k : Int) = m[k] := by simp [actr, List.getD_eq_getElem?_getD, hk]
  obtain ⟨hS, hL, hh0, hs0⟩ := look_done ez hk
  have hsh := fun η n => shapesR_ac m (k : Int) η n hm
  have eb : shpB m (k : Int) = true := by simp [shpB, ez]; omega
  have er : shpRes m (k : Int) = .tup [.rs 1 (shpC (lookL m k).1.shapes), .rs 1 (boolC ((lookL m k).1.has.take (actr m k).code.length))] := by unfold shpRes; rw [if_pos eb]; rfl
  rw [er] at hsh
  simp only [modV, actsC] at hsh
  have hbh := fun i s hi hT hl η n => behind06_ac m k i s hk hc hi hT hl η n
  have hwy := fun p s hp hn hl η n => ways06_ac m k p s hk hc hp hn hl η n
  simp only [modV, actsC] at hbh hwy
  generalize (lookL m k).1 = x at *
  have lsx := hS.ls
  have lhx := hS.li.lh
  simp only at lsx h200 h0
  rw [ea] at lsx h200 h0 hc ho hL hS hsh
  simp only [ea] at hbh hwy
  have ltk : (x.has.take m[k].code.length).length = m[k].code.length := by simp; omega
  have q0 := shpC_get (l := x.shapes) (i := 0) (by omega)
  have q1 := boolC_get (l := x.has.take m[k].code.length) (i := 0) (by omega)
  rw [hs0] at q0
  rw [take_getD h0, hh0] at q1
  have z1 : (shpC x.shapes).length = m[k].code.length := by rw [shpC_len]; exact lsx
  have z2 : (boolC (x.has.take m[k].code.length)).length = m[k].code.length := by rw [boolC_len]; exact ltk
  have ewk : IntKind.i64.wrap ((k : Int) + 1) = (k : Int) + 1 := wrap_id (by have := hm.1; omega) (by have := hm.1; omega)
  simp [g1, aload, apart, b0]
  refine ACK.rt (hsh _ _) ?_
  simp [afield, aload, apart, b0, aindex, hk, actC, z1, z2, q0, q1, ints]
  refine loopK.inv [2, 7, 8, 9, 10, 11, 12, 63, 64, 65, 66, 67, 68, 69, 70, 71, 72, 73, 74, 75, 76, 77, 78, 79, 80, 81, 82, 83, 84, 85, 86, 87, 88, 89, 90, 91, 92, 93, 94, 95, 96, 97, 98, 99, 100, 101, 102, 103, 104, 105, 106, 107, 108, 109, 110, 111, 112, 113, 114, 115, 116, 117, 118, 119, 120, 121, 122, 123, 124, 125, 126, 127, 128, 129, 130, 131, 132, 133, 134, 135, 136, 137, 138, 139, 140, 141, 142, 143, 144, 145, 146] (fun a : Nat × Nat => a.1 ≤ m[k].code.length ∧ n + 1 ≤ a.2) (fun a => [(7, .int .i64 a.1)]) (fun _ => H) (fun a => a.2) (fun a => m[k].code.length - a.1) (0, n1) ⟨by simp, k2⟩ (by simp) (AHeap.le_rfl _) (Nat.le_refl _) ?_
  intro ⟨p, n2⟩ ⟨p1, p2⟩
  simp only at p1 p2
  simp
  refine CondP.dec (fun g2 => ?_) (fun g2 => ?_)
  rotate_left
  · simp [g2, ewk]
    exact endK.intro (k + 1, n2) ⟨by show k + 1 ≤ m.length; omega, p2⟩ (by simp) (by repeat (first | exact Agree.mask _ _ | refine Agree.setf rfl ?_ | refine Agree.inner rfl ?_)) (AHeap.le_rfl _) (Nat.le_refl _) (show m.length - (k + 1) < m.length - k by omega)
  have hp : p < m[k].code.length := by omega
  have ewp : IntKind.i64.wrap ((p : Int) + 1) = (p : Int) + 1 := wrap_id (by omega) (by omega)
  have r1 := boolC_get (l := x.has.take m[k].code.length) (i := p) (by omega)
  rw [take_getD hp] at r1
  have r2 := shpC_get (l := x.shapes) (i := p) (by omega)
  cases gh : x.has.getD p false
  · rw [gh] at r1
    simp [g2, aindex, aload, apart, r1, ewp]
    exact endK.intro (p + 1, n2) ⟨by show p + 1 ≤ m[k].code.length; omega, p2⟩ (by simp) (by repeat (first | exact Agree.mask _ _ | refine Agree.setf rfl ?_ | refine Agree.inner rfl ?_)) (AHeap.le_rfl _) (Nat.le_refl _) (show m[k].code.length - (p + 1) < m[k].code.length - p by omega)
  rw [gh] at r1
  obtain ⟨l1, l2⟩ := hL p hp gh
  have hxp := hS.li.ok p
  simp only at hxp l1 l2
  rcases hcp : m[k].code[p] with ⟨op, a⟩
  have ei : m[k].code.getD p (0, 0) = (op, a) := by rw [← hcp]; simp [List.getD_eq_getElem?_getD, hp]
  have hi : rightI (op, a) = true := by rw [← hcp]; exact ho.code _ (List.getElem_mem ..)
  rw [ei] at l1 l2
  obtain ⟨b1, b2, b3⟩ := behL_ok hc hi hxp.1 hxp.2 l1
  have hbe := hbh (op, a) (x.shapes.getD p []) hi hxp.1 hxp.2
  rw [l1, roE_zero] at hbe
  generalize x.shapes.getD p [] = s at *
  generalize (behL ⟨m, k, m[k]⟩ (op, a) s).1 = out at *
  have hwe := hwy p out hp (by rw [ei]; exact b3) b2
  have hwl := waysL_short hc hp (by rw [ei]; exact b3) out
  generalize waysL ⟨m, k, m[k]⟩ p out = ws at *
  have hs16 : ¬ (16 : Int) < s.length := by have := hxp.2; omega
  have hs16' : ¬ 16 < s.length := by have := hxp.2; omega
  simp [g2, aindex, aload, apart, r1]
  refine drawK.intro mixed [(0, []), (1, []), (2, []), (3, []), (4, []), (5, []), (6, []), (7, []), (8, []), (9, []), (10, []), (11, []), (12, []), (13, []), (14, []), (15, [])] (by kernel_rfl) ?_
  simp [aindex, aload, apart, b0, hp, hcp, r2]
  refine ACK.rt (hbe _ _) ?_
  simp [aindex, aload, apart, b0, r2, hs16, ints_length]
  refine ACK.rt (hwe _ _) ?_
  simp
  have ewl : (waysC ws).length = ws.length := by simp [waysC]
  refine loopK.inv [2, 11, 12, 103, 104, 105, 106, 107, 108, 109, 110, 111, 112, 113, 114, 115, 116, 117, 118, 119, 120, 121, 122, 123, 124, 125, 126, 127, 128, 129, 130, 131, 132, 133, 134, 135, 136, 137, 138, 139, 140, 141, 142, 143, 144, 145, 146] (fun a : Nat × Nat => a.1 ≤ ws.length ∧ n + 1 ≤ a.2) (fun a => [(11, .int .i64 a.1)]) (fun _ => H) (fun a => a.2) (fun a => ws.length - a.1) (0, n2) ⟨by simp, p2⟩ (by simp) (AHeap.le_rfl _) (Nat.le_refl _) ?_
  intro ⟨j, n3⟩ ⟨j1, j2⟩
  simp only at j1 j2
  simp [ewl]
  refine CondP.dec (fun g3 => ?_) (fun g3 => ?_)
  · have hj : j < ws.length := by omega
    have ewj : IntKind.i64.wrap ((j : Int) + 1) = (j : Int) + 1 := wrap_id (by omega) (by omega)
    obtain ⟨w0, w1, w2, w3, w4⟩ := l2 ws[j] (List.getElem_mem ..)
    rcases hw : ws[j] with ⟨to, sh, e⟩
    rw [hw] at w0 w1 w2 w3 w4
    simp only at w0 w1 w2 w3 w4
    subst w0
    obtain ⟨b, rfl⟩ : ∃ b : Nat, to = b := ⟨to.toNat, by omega⟩
    simp only [Int.toNat_natCast] at w2 w3 w4
    have hrow : (waysC ws)[j]? = some [.int .i64 b, .rs 1 (ints sh), .int .i64 0] := by simp [waysC, hj, hw, wayC]
    have t1 := boolC_get (l := x.has.take m[k].code.length) (i := b) (by omega)
    rw [take_getD w2, w3] at t1
    have t2 := shpC_get (l := x.shapes) (i := b) (by omega)
    rw [w4] at t2
    have nb : ¬ (b : Int) < 0 := by omega
    have nb2 : ¬ (m[k].code.length : Int) ≤ b := by omega
    have nb3 : ¬ m[k].code.length ≤ b := by omega
    have hsl : sh.length ≤ 16 := by rw [← w4]; exact (hS.li.ok b).2
    simp [g3, aindex, hrow, aload, apart, astore, upd_eq, upd_upd]
    refine drawK.intro mixed [(0, []), (1, []), (2, []), (3, []), (4, []), (5, []), (6, []), (7, []), (8, []), (9, []), (10, []), (11, []), (12, []), (13, []), (14, []), (15, []), (16, []), (17, []), (18, []), (19, []), (20, []), (21, []), (22, []), (23, []), (24, []), (25, []), (26, []), (27, []), (28, []), (29, []), (30, []), (31, []), (32, []), (33, [])] (by kernel_rfl) ?_
    simp [aindex, aload, afield, apart, upd_eq, nb, nb2, t1, t2]
    refine ACK.rt (same02_ac (Or.inl rfl) (Or.inl rfl) (by omega)) ?_
    simp [ewj]
    exact endK.intro (j + 1, n3 + 1) ⟨by show j + 1 ≤ ws.length; omega, by show n + 1 ≤ n3 + 1; omega⟩ (by simp) (by repeat (first | exact Agree.mask _ _ | refine Agree.setf rfl ?_ | refine Agree.inner rfl ?_)) (le_upd (AHeap.le_rfl _) (bf _ (by omega))) (Nat.le_refl _) (show ws.length - (j + 1) < ws.length - j by omega)
  · simp [g3, ewp]
    exact endK.intro (p + 1, n3) ⟨by show p + 1 ≤ m[k].code.length; omega, j2⟩ (by simp) (by repeat (first | exact Agree.mask _ _ | refine Agree.setf rfl ?_ | refine Agree.inner rfl ?_)) (AHeap.le_rfl _) (Nat.le_refl _) (show m[k].code.length - (p + 1) < m[k].code.length - p by omega)
end Go.Proofs.Ytkhoelmbcmkhjaa
