/- Layer 6: CheckLone. -/
import Derived.Test.YtkhoelmbcmkhjaaGi
namespace Go.Proofs.Ytkhoelmbcmkhjaa
set_option maxRecDepth 100000

theorem check_nil : checkF [] = (4, 0, 0) := by kernel_rfl
def loneRow (q : Nat) : List AVal := [.nils, .nils, .nils, .sl q 0 1, .nils]
/-- the list under way: its row r, the code rows of those behind the first -/
structure LoI (a : Actr) (η : AHeap) (n j r : Nat) (qs : List Nat) (η' : AHeap) (n' : Nat) : Prop where
  len : qs.length = j
  row : η' r = some (.cells 5 (actC a :: qs.map loneRow))
  code : ∀ q ∈ qs, η' q = some (.cells 2 [[.int .i64 0, .int .i64 0]])
  rq : ∀ q ∈ qs, q ≠ r ∧ n + 4 ≤ q
  rb : n + 2 ≤ r ∧ r ≠ n + 3 ∧ r < n'
  one : η' (n + 1) = some (.cells 1 [[.rs 5 [actC a]]])
  all : η' (n + 3) = some (.cells 1 [[.sl r 0 (j + 1)]])
  old : ∀ y, y < n → η' y = η y
  le : n + 4 ≤ n'
  fr : ∀ y, n' ≤ y → η' y = none
theorem urem8 (a : Int) : ∃ k : Nat, k < 8 ∧ IntKind.i64.wrap ((IntKind.u64.wrap a).tmod 8) = (k : Int) := by
  have h := urem_nat (a := a) (n := 8) (by omega) (by omega)
  rwa [show IntKind.u64.wrap ((8 : Nat) : Int) = 8 from wrapU _ (by omega) (by omega)] at h
theorem EntR.rep {x y : List AVal} (h : EntL x y) : ∀ (l : List Nat), EntR (l.map fun _ => x) (List.replicate l.length y)
  | [] => trivial
  | _ :: l => ⟨h, EntR.rep h l⟩
theorem lone_ac (m : List Actr) (more : Int) (η : AHeap) (n : Nat) (hm : Mod64 m) : AC Try.prog 11 [modV m, .int .i64 more] η n (Rt (.bool true) η n) := by
  refine AC.pure (.bool _) ?_
  have fin : (∀ r, n ≤ r → η r = none) → ∀ {η' : AHeap}, (∀ r, r < n → η' r = η r) → η.le η' := fun hf _ h => le_old hf h
  cases m with
  | nil =>
    have h1 := fun η n => check_ac [] η n ⟨by simp, by simp⟩
    simp only [modV, actsC, fltV, check_nil] at h1
    refine AC.fresh fun hf => ?_; refine AC.enter Try.func11 rfl Try.ntmps11 (by simp) ?_
    simp [modV, actsC, upd_eq, upd_ne, Nat.add_assoc]
    refine ACK.rt (lives06_ac _ _) ?_
    simp [aload, afield, apart, upd_apply]
    refine ACK.rt (h1 _ _) ?_
    simp [abuild, aplace, afillP, aeqS3 fields_fault]
    exact resK.of (η' := η) (fin hf fun r hr => by simp only [upd_apply]; repeat rw [if_neg (by omega)]) _ (Nat.le_refl _) ⟨rfl, rfl⟩
  | cons a l =>
    have ha : Act64 a := hm.2 a (by simp)
    have hm1 : Mod64 [a] := ⟨by simp, by simpa using ha⟩
    have h1 := fun η n => mright_ac [a] η n hm1
    simp only [modV, actsC] at h1
    refine AC.fresh fun hf => ?_; refine AC.enter Try.func11 rfl Try.ntmps11 (by simp) ?_
    simp [modV, actsC, upd_eq, upd_ne, Nat.add_assoc]
    refine ACK.rt (lives06_ac _ _) ?_
    have hne : ¬ ((l.length : Int) + 1 = 0) := by omega
    have hle1 : (1 : Int) ≤ (l.length : Int) + 1 := by omega
    simp only [List.map_cons, List.map_nil] at h1
    simp [hne, hle1, aload, afield, apart, upd_apply, asliceV, abnd, abuild, aplace, afillP, astore, Nat.add_assoc]
    refine ACK.rt (h1 _ _) ?_
    simp
    by_cases hr : rightM [a] = 0
    rotate_left
    · simp [hr]
      exact resK.of (η' := η) (fin hf fun r hr => by simp only [upd_apply]; repeat rw [if_neg (by omega)]) _ (Nat.le_refl _) ⟨rfl, rfl⟩
    have hc : LcOK ⟨[a], 0, a⟩ := lcOK_of hr (k := 0) (by simp)
    have h200 := hc.ownA.c200
    simp only at h200
    simp [hr, upd_upd]
    obtain ⟨H, hH⟩ : ∃ H, upd (upd η n (some (.cells 1 [[.rs 5 (actC a :: List.map actC l)]]))) (n + 1) (some (.cells 1 [[.rs 5 [actC a]]])) = H := ⟨_, rfl⟩
    have hH1 : H (n + 1) = some (.cells 1 [[.rs 5 [actC a]]]) := by rw [← hH]; simp [upd_apply]
    have hHo : ∀ r, r < n → H r = η r := fun r hr => by rw [← hH]; simp only [upd_apply]; repeat rw [if_neg (by omega)]
    have hHf : ∀ r, n + 2 ≤ r → H r = none := fun r hr => by rw [← hH, upd_ne (by omega), upd_ne (by omega)]; exact hf r (by omega)
    rw [hH]
    refine loopK.inv [4, 6, 26, 27, 28, 29, 30, 31, 32, 33, 34, 35, 36, 37, 38, 39, 40, 41, 42, 43, 44, 45] (fun k : Nat => k ≤ a.code.length ∧ ∀ p, p < k → (a.code.getD p (0, 0)).1 ≠ 19) (fun k => [(6, .int .i64 k)]) (fun _ => H) (fun _ => n + 2) (fun k => a.code.length - k) 0 ⟨by simp, by simp⟩ (by simp) (AHeap.le_rfl _) (Nat.le_refl _) ?_
    intro k ⟨k1, k2⟩
    simp [aload, afield, aindex, apart, hH1, actC]
    refine CondP.dec (fun g1 => ?_) (fun g1 => ?_)
    · have hk : k < a.code.length := by omega
      have ek : a.code.getD k (0, 0) = a.code[k] := by simp [List.getD_eq_getElem?_getD, hk]
      have ewk : IntKind.i64.wrap ((k : Int) + 1) = (k : Int) + 1 := wrap_id (by omega) (by omega)
      simp [g1, hk, aload, afield, aindex, apart, hH1, actC]
      refine CondP.dec (fun g2 => ?_) (fun g2 => ?_)
      · simp [g2]
        exact resK.of (η' := η) (fin hf hHo) _ (Nat.le_refl _) ⟨rfl, rfl⟩
      · simp [g2, ewk]
        refine endK.intro (k + 1) ⟨by omega, fun p hp => ?_⟩ (by simp) (by repeat (first | exact Agree.mask _ _ | refine Agree.setf rfl ?_ | refine Agree.inner rfl ?_)) (AHeap.le_rfl _) (Nat.le_refl _) (show a.code.length - (k + 1) < a.code.length - k by omega)
        by_cases e : p = k
        · subst e; simpa [hk] using g2
        · have := k2 p (by omega); simpa using this
    have hi : ∀ p, (a.code.getD p (0, 0)).1 ≠ 19 := fun p => by
      rcases Nat.lt_or_ge p k with h | h
      · exact k2 p h
      · rw [List.getD_eq_getElem?_getD, List.getElem?_eq_none (by omega)]; decide
    obtain ⟨R, hR, eR⟩ := urem8 more
    have hsc : ∀ c, c ∈ actC a → c.sc = true := fun c hc => by
      simp [actC] at hc
      rcases hc with rfl | rfl | rfl | rfl | rfl <;> rfl
    have hne1 : ∀ k, k < n + 2 → ¬ n + 2 = k := fun k h => by omega
    simp [g1, aload, afield, aindex, apart, hH1, appK, aappend, arows, lenMax, abuild, aplace, afillP, astore, upd_apply, Nat.add_assoc, upd_upd]
    refine ⟨fun c hc => hsc c (by simpa [actC] using hc), ?_⟩
    refine loopK.inv [8, 50, 51, 52, 53, 54, 55, 56, 57, 58, 59, 60, 61, 62, 63, 64, 65] (fun x : Nat × Nat × List Nat × AHeap × Nat => x.1 ≤ R ∧ LoI a η n x.1 x.2.1 x.2.2.1 x.2.2.2.1 x.2.2.2.2) (fun x => [(8, .int .i64 x.1)]) (fun x => x.2.2.2.1) (fun x => x.2.2.2.2) (fun x => R - x.1) (0, n + 2, [], upd (upd H (n + 2) (some (.cells 5 [actC a]))) (n + 3) (some (.cells 1 [[.sl (n + 2) 0 1]])), n + 4) ⟨by simp, ?_⟩ (by simp) (by simp [actC, AHeap.le]) (by simp) ?_
    · exact ⟨rfl, by simp [upd_apply], by simp, by simp, ⟨by simp, by simp, by simp⟩, by simp [upd_apply, hH1], by simp [upd_apply], fun y hy => by simp only; rw [upd_ne (by omega), upd_ne (by omega)]; exact hHo y hy, by simp, fun y hy => by
        simp only at hy ⊢
        rw [upd_ne (by omega), upd_ne (by omega)]; exact hHf y (by omega)⟩
    intro ⟨j, ρ, qs, η', n'⟩ ⟨j1, I⟩
    simp only at j1 I
    have i1 := I.row
    have i2 := I.all
    have i3 := I.one
    have i4 := I.rb
    have i5 := I.le
    have i6 := I.len
    have i7 := I.fr
    simp [aconv, eR]
    refine CondP.dec (fun g2 => ?_) (fun g2 => ?_)
    · have ewk : IntKind.i64.wrap ((j : Int) + 1) = (j : Int) + 1 := wrap_id (by omega) (by omega)
      have b1 : (j + 1 + 1) * 120 ≤ 140737488355328 := by omega
      have b2 : j + 1 + 1 ≤ 17592186044416 := by omega
      have d1 : ¬ ρ = n' := by omega
      have d2 : ¬ ρ = n' + 1 := by omega
      have d3 : ¬ n + 3 = ρ := fun e => i4.2.1 e.symm
      have d4 : ¬ n + 3 = n' := by omega
      have d5 : ¬ n + 3 = n' + 1 := by omega
      have d6 : ¬ n + 3 = n' + 2 := by omega
      simp [g2, aload, afield, apart, i1, i2, i6, d1, d2, d3, d4, d5, d6, abuild, abuildS, aplace, afillP, chunk, tek, appK, aappend, arows, lenMax, astore, upd_apply, Nat.add_assoc, upd_upd]
      refine ⟨by omega, by omega, ?_⟩
      refine endK.heap fun G hG => ?_
      refine endK.intro (j + 1, n' + 2, qs ++ [n'], G, n' + 3) ⟨by show j + 1 ≤ R; omega, ?_⟩ (by simp [ewk]) (by repeat (first | exact Agree.mask _ _ | refine Agree.setf rfl ?_ | refine Agree.inner rfl ?_)) (AHeap.le_rfl _) (Nat.le_refl _) (show R - (j + 1) < R - j by omega)
      refine ⟨by simp [i6], ?_, fun q hq => ?_, fun q hq => ?_, ⟨by show n + 2 ≤ n' + 2; omega, by show n' + 2 ≠ n + 3; omega, by show n' + 2 < n' + 3; omega⟩, ?_, ?_, fun y hy => ?_, by show n + 4 ≤ n' + 3; omega, fun y hy => ?_⟩
      · show G (n' + 2) = some (.cells 5 (actC a :: (qs ++ [n']).map loneRow))
        rw [hG, upd_ne (by omega), upd_eq]
        have et : List.take j (List.map loneRow qs) = List.map loneRow qs := List.take_of_length_le (by simp [i6])
        simp [loneRow, i6] at et ⊢
        exact et
      · rcases List.mem_append.1 hq with h | h
        · have h1 := (I.rq q h)
          have h2 := I.code q h
          have : q < n' := by
            rcases Nat.lt_or_ge q n' with h3 | h3
            · exact h3
            · rw [i7 q h3] at h2; cases h2
          show G _ = _
          rw [hG, upd_ne (by omega), upd_ne (by omega), upd_ne h1.1, upd_ne (by omega), upd_ne (by omega)]
          exact h2
        · simp at h; subst h
          show G _ = _
          rw [hG, upd_ne (by omega), upd_ne (by omega), upd_ne (by omega), upd_ne (by omega), upd_eq]
      · rcases List.mem_append.1 hq with h | h
        · have h1 := (I.rq q h)
          have h2 := I.code q h
          have : q < n' := by
            rcases Nat.lt_or_ge q n' with h3 | h3
            · exact h3
            · rw [i7 q h3] at h2; cases h2
          exact ⟨by show q ≠ n' + 2; omega, h1.2⟩
        · simp at h; subst h
          exact ⟨by show q ≠ q + 2; omega, by omega⟩
      · show G _ = _
        rw [hG, upd_ne (by omega), upd_ne (by omega), upd_ne (by omega), upd_ne (by omega), upd_ne (by omega)]
        exact i3
      · show G _ = _
        rw [hG, upd_eq]
      · show G _ = _
        rw [hG, upd_ne (by omega), upd_ne (by omega), upd_ne (by omega), upd_ne (by omega), upd_ne (by omega)]
        exact I.old y hy
      · have hy : n' + 3 ≤ y := hy
        show G _ = _
        rw [hG, upd_ne (by omega), upd_ne (by omega), upd_ne (by omega), upd_ne (by omega), upd_ne (by omega)]
        exact i7 y (by omega)
    · have hjR : j = R := by omega
      have hm2 : Mod64 (lone a R) := by
        have hh : Act64 halt := ⟨⟨by simp [halt], by simp [halt]⟩, ⟨by simp [halt], by simp [halt]⟩, ⟨by simp [halt], by simp [halt]⟩, ⟨by simp [halt], by simp [halt, I64]⟩, ⟨by simp [halt], by simp [halt]⟩⟩
        refine ⟨by rw [lone_len]; omega, fun x hx => ?_⟩
        simp [lone] at hx
        rcases hx with rfl | ⟨_, rfl⟩
        · exact ha
        · exact hh
      have fz : ∀ fu, frz ((ρ :: qs).contains ·) η' (fu + 3) (.sl ρ 0 (j + 1)) = .rs 5 (actC a :: qs.map fun _ => [.nils, .nils, .nils, .rs 2 (pairs [(0, 0)]), .nils]) := fun fu => by
        rw [frz, i1]
        simp only
        rw [if_pos ⟨by simp, by simp [i6], by simp only [lenMax]; omega⟩, List.drop_zero, List.take_of_length_le (by simp [i6]), List.map_cons, frz_actC, List.map_map]
        congr 2
        refine List.map_congr_left fun q hq => ?_
        have := I.code q hq
        simp [loneRow, frz, this, lenMax, hq, pairs]
      simp [g2]
      refine drawK.intro mixed [(0, []), (2, []), (1, [2]), (3, []), (4, []), (5, [])] (by kernel_rfl) ?_
      simp [aload, apart, i2, i3]
      refine ACK.freeze (ρ :: qs) [n + 3] 6 ?_
      refine ACK.heap fun G hG => ?_
      have k1 : G (n + 1) = some (.cells 1 [[.rs 5 [actC a]]]) := by
        rw [hG, frzH, if_neg, if_neg (by simp), i3]
        simp
        exact ⟨by omega, fun h => by have := (I.rq _ h).2; omega⟩
      have ko : ∀ r, r < n → G r = η r := fun r hr => by
        rw [hG, frzH, if_neg, if_neg (by simp; omega)]
        · exact I.old r hr
        · simp
          exact ⟨by omega, fun h => by have := (I.rq _ h).2; omega⟩
      clear hG
      have ka : List.map (frz ((ρ :: qs).contains ·) η' 6) [AVal.agg [.sl ρ 0 (j + 1)]] = [.agg [.rs 5 (actC a :: qs.map fun _ => [.nils, .nils, .nils, .rs 2 (pairs [(0, 0)]), .nils])]] := by
        show [AVal.agg [frz _ η' 5 (.sl ρ 0 (j + 1))]] = _
        rw [fz 2]
      rw [ka]
      refine ACK.rt (AC.args (check_ac (lone a R) _ _ hm2) ⟨?_, trivial⟩) ?_
      · refine Ent.agg ⟨Ent.rs ⟨EntL.refl _, ?_⟩, trivial⟩ rfl
        have := EntR.rep (x := [.nils, .nils, .nils, .rs 2 (pairs [(0, 0)]), .nils]) (y := actC halt) (by simp [actC, halt, ints, pairs, tblsC]) qs
        rw [i6, hjR] at this
        simpa [actsC] using this
      have hck := fun η n => check_ac [a] η n hm1
      simp only [modV, actsC, List.map_cons, List.map_nil] at hck
      rw [lone_check (by omega) hr hi]
      simp [lk_some, chkK, aload, apart, k1]
      refine ACK.rt (hck _ _) ?_
      have ev : ∀ f : Int × Int × Int, aeqS Try.prog 68 [.int .i64 f.1, .int .i64 f.2.1, .int .i64 f.2.2] [.int .i64 f.1, .int .i64 f.2.1, .int .i64 f.2.2] = some true := fun f => by
        rw [aeqS3 fields_fault]; simp
      simp [fltV, ev]
      exact resK.of (η' := η) (fin hf ko) _ (Nat.le_refl _) ⟨rfl, rfl⟩
end Go.Proofs.Ytkhoelmbcmkhjaa
