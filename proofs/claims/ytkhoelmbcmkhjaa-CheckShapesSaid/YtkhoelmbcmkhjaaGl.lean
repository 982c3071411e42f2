/- Layer 6: the reference's Shapes; CheckShapes. -/
import Derived.Test.YtkhoelmbcmkhjaaGf
namespace Go.Proofs.Ytkhoelmbcmkhjaa
set_option maxRecDepth 100000

theorem refShapes_ac (m : List Actr) (a : Int) (η : AHeap) (n : Nat) (hm : Mod64 m) : AC Try.prog 28 [modV m, .int .i64 a] η n (Rt (shpRes m a) η n) := by
  refine AC.gnd1 (shpRes_nq m a η) 4 ?_
  have h1 := fun η n => check06_ac m η n hm
  simp only [modV, actsC, fltV] at h1
  have bad : shpB m a = false → ∀ {fr : Nat → AVal} {nt : Nat} {o : Option AObj} {gg}, resK (some (.tup [.nils, .nils])) ⟨fr, nt, upd η n o, n + 1⟩ (fun v η' _ => (∀ r, r < n → η' r = η r) ∧ Ent (gnd n η' 4 v) (shpRes m a)) gg := fun h _ _ _ _ => resK.same ⟨fun r hr => upd_ne (by omega), by
    unfold shpRes
    rw [if_neg (by simp [h]), gnd_tup]
    exact Ent.tup ⟨by rw [gnd_nils]; exact Ent.nils 1, by rw [gnd_nils]; exact Ent.nils 1, trivial⟩⟩ (Nat.le_refl _)
  refine AC.fresh fun hf => ?_; refine AC.enter Try.func28 rfl Try.ntmps28 (by simp) ?_
  simp [modV, actsC, aload, apart, upd_eq]
  refine ACK.rt (h1 _ _) ?_
  simp [afldv, apart]
  by_cases hz : (checkF m).1 = 0
  rotate_left
  · simp [hz]
    exact bad (by simp only [shpB, decide_eq_false_iff_not]; intro h; rw [h.1] at hz; exact hz rfl)
  have ez := (checkF_zero hz).1
  have hr := (checkF_zero hz).2
  by_cases ha : a < 0
  · simp [hz, ha]
    exact bad (by simp [shpB]; omega)
  by_cases hb : (m.length : Int) ≤ a
  · simp [hz, ha, hb, afield, aload, apart, upd_eq]
    exact bad (by simp [shpB]; omega)
  obtain ⟨k, rfl⟩ : ∃ k : Nat, a = k := ⟨a.toNat, by omega⟩
  have hk : k < m.length := by omega
  have eb : shpB m (k : Int) = true := by simp [shpB, ez]; omega
  have hac := fun η n => actor06_ac m k hk (lcOK_of hr hk) η n
  have h0 := look_ok ez hk
  simp only [modV, actsC, actRes, fltV, h0, if_true] at hac
  simp [hz, ha, hb, afield, aload, apart, upd_eq]
  refine ACK.rt (hac _ _) ?_
  simp [astore, upd_eq, upd_upd, upd_ne]
  refine resK.same ⟨fun r hr => by rw [upd_ne (by omega), upd_ne (by omega)], ?_⟩ (Nat.le_refl _)
  unfold shpRes
  rw [if_pos eb, gnd_tup, Int.toNat_natCast]
  exact Ent.tup ⟨by rw [gnd_rs]; exact Ent.refl _, by rw [gnd_rs]; exact Ent.refl _, trivial⟩
/-- the rows from the i-th on are as they were -/
structure ShI (sh : List (List Int)) (hs : List Bool) (m : List Actr) (vs : List AVal) (q h n : Nat) (η : AHeap) (i : Nat) (η' : AHeap) (n' : Nat) : Prop where
  hq : η' q = some (.cells 1 (vs.map fun v => [v]))
  hh : η' h = some (.cells 1 (rows1 (bools hs)))
  hm : η' n = some (.cells 1 [[.rs 5 (actsC m)]])
  rows : ∀ j (hj : j < vs.length), i ≤ j → (vs[j] = .nils ∧ sh.getD j [] = []) ∨ ∃ r, vs[j] = .sl r 0 (sh.getD j []).length ∧ η' r = some (.cells 1 (ints (sh.getD j []))) ∧ r ≠ q ∧ n < r
  old : ∀ r, r < n → η' r = η r
  le : n + 1 ≤ n'
  fr : ∀ r, n' ≤ r → η' r = none
theorem shpC_len' (l : List (List Int)) : (shpC l).length = l.length := by simp [shpC]
theorem boolC_len' (l : List Bool) : (boolC l).length = l.length := by simp [boolC]
theorem shpC_get' {l : List (List Int)} {i : Nat} (h : i < l.length) : (shpC l)[i]? = some [.rs 1 (ints (l.getD i []))] := by
  simp [shpC, h, List.getD_eq_getElem?_getD]
theorem boolC_get' {l : List Bool} {i : Nat} (h : i < l.length) : (boolC l)[i]? = some [.bool (l.getD i false)] := by
  simp [boolC, h, List.getD_eq_getElem?_getD]
theorem rows1b_get {l : List Bool} {i : Nat} (h : i < l.length) : (rows1 (bools l))[i]? = some [.bool (l.getD i false)] := by
  simp [rows1, bools, h, List.getD_eq_getElem?_getD]
theorem row_h {l : List Int} {b : List Bool} (h : (ints l) = rows1 (bools b)) (hb : 0 < b.length) : False := by
  cases b with
  | nil => simp at hb
  | cons x r =>
    cases l with
    | nil => simp [ints, rows1, bools] at h
    | cons y t => simp [ints, rows1, bools] at h
theorem cshapes_ac (m : List Actr) (a : Int) (η : AHeap) (n : Nat) (hm : Mod64 m) : AC Try.prog 7 [modV m, .int .i64 a] η n (Rt (.bool true) η n) := by
  refine AC.pure (.bool _) ?_
  have h1 := fun η n => shapes_ac m a η n hm
  have h2 := fun η n => refShapes_ac m a η n hm
  simp only [modV, actsC] at h1 h2
  refine AC.fresh fun hf => ?_; refine AC.enter Try.func7 rfl Try.ntmps7 (by simp) ?_
  simp [modV, actsC]
  refine ACK.rt (lives06_ac _ _) ?_
  simp [aload, apart, upd_eq]
  refine ACK.use (h1 _ _).freshP ?_
  intro r1 η1 n1 ⟨⟨hpost, hk1, hn1⟩, hf1⟩
  have b0 := hk1 n (by omega)
  rw [upd_eq] at b0
  have o1 : ∀ r, r < n → η1 r = η r := fun r hr => by rw [hk1 r (by omega), upd_ne (by omega)]
  cases hb : shpB m a
  · rcases hpost with ⟨_, e1⟩ | ⟨e1, _⟩
    rotate_left
    · rw [hb] at e1; cases e1
    subst e1
    have er : shpRes m a = .tup [.rs 1 [], .rs 1 []] := by unfold shpRes; rw [if_neg (by simp [hb])]
    rw [er] at h2
    simp [aload, apart, b0]
    refine ACK.rt (h2 _ _) ?_
    simp
    refine loopK.inv [4, 9, 10, 47, 48, 49, 50, 51, 52, 53, 54, 55, 56, 57, 58, 59, 60, 61, 62, 63, 64, 65, 66, 67, 68, 69, 70, 71, 72, 73, 74, 75, 76, 77, 78, 79, 80, 81, 82, 83, 84, 85, 86, 87, 88] (fun _ : Nat => True) (fun _ => [(9, .int .i64 0)]) (fun _ => η1) (fun _ => n1) (fun _ => 0) 0 (by simp) (by simp) (AHeap.le_rfl _) (Nat.le_refl _) ?_
    intro j _
    simp [aload, apart, b0]
    refine ACK.rt (h2 _ _) ?_
    simp
    refine loopK.inv [4, 13, 95, 96, 97, 98, 99, 100, 101, 102, 103, 104, 105, 106, 107, 108, 109, 110] (fun _ : Nat => True) (fun _ => [(13, .int .i64 0)]) (fun _ => η1) (fun _ => n1) (fun _ => 0) 0 (by simp) (by simp) (AHeap.le_rfl _) (Nat.le_refl _) ?_
    intro j _
    simp
    exact resK.of (η' := η) (le_old hf o1) _ (Nat.le_refl _) ⟨rfl, rfl⟩
  rcases hpost with ⟨e1, _⟩ | ⟨_, q, h, vs, e1, hnq, hnh, hh, g, hhg, hhq, hL⟩
  · rw [hb] at e1; cases e1
  subst e1
  have hb' := hb
  simp only [shpB, decide_eq_true_eq] at hb'
  obtain ⟨k, rfl⟩ : ∃ k : Nat, a = k := ⟨a.toNat, by omega⟩
  simp only [Int.toNat_natCast] at hh hL
  have hk : k < m.length := by omega
  have hc := lcOK_of (checkF_zero (m := m) (by rw [hb'.1])).2 hk
  have h200 := hc.ownA.c200
  have h0 := hc.ownA.c0
  have lv := hL.lv
  have ls := hL.ls
  have lh := hL.lh
  simp only at h200 h0 lv ls
  have hli : LI ⟨m, k, actr m k⟩ (lookL m k).1 := allL_li hc 700 _ (LI0 hc.ownA.c0)
  have hlr := fun p => (hli.ok p).2
  have er : shpRes m (k : Int) = .tup [.rs 1 (shpC (lookL m k).1.shapes), .rs 1 (boolC ((lookL m k).1.has.take (actr m k).code.length))] := by unfold shpRes; rw [if_pos hb]; rfl
  rw [er] at h2
  have hLq := hL.hq
  have hLr := hL.rows
  have hLb := hL.big
  have hLa := hL.apt
  generalize (lookL m k).1 = x at *
  generalize (actr m (k : Int)).code.length = L at *
  have ltk : (x.has.take L).length = L := by simp; omega
  generalize x.has.take L = hs at *
  generalize x.shapes = sh at *
  have z1 : (shpC sh).length = L := by rw [shpC_len']; exact ls
  have z2 : (boolC hs).length = L := by rw [boolC_len']; exact ltk
  have I0 : ShI sh hs m vs q h n η 0 η1 n1 := ⟨hLq, hh, b0, fun j hj _ => by
    rcases hLr j hj with h | ⟨r, e1, e2, _, e4⟩
    · exact Or.inl h
    · exact Or.inr ⟨r, e1, e2, e4, by have := hLb j r _ (by rw [List.getElem?_eq_getElem hj, e1]); omega⟩, o1, by omega, hf1⟩
  simp [aload, apart, b0]
  refine ACK.rt (h2 _ _) ?_
  simp [z1, z2]
  refine loopK.inv [4, 9, 10, 47, 48, 49, 50, 51, 52, 53, 54, 55, 56, 57, 58, 59, 60, 61, 62, 63, 64, 65, 66, 67, 68, 69, 70, 71, 72, 73, 74, 75, 76, 77, 78, 79, 80, 81, 82, 83, 84, 85, 86, 87, 88] (fun x : Nat × AHeap × Nat => x.1 ≤ L ∧ ShI sh hs m vs q h n η x.1 x.2.1 x.2.2) (fun x => [(9, .int .i64 x.1)]) (fun x => x.2.1) (fun x => x.2.2) (fun x => L - x.1) (0, η1, n1) ⟨by simp, I0⟩ (by simp) (AHeap.le_rfl _) (Nat.le_refl _) ?_
  intro ⟨i, η', n'⟩ ⟨i1, I⟩
  replace I : ShI sh hs m vs q h n η i η' n' := I
  simp only at i1
  have c1 := I.hq
  have c2 := I.hh
  have c3 := I.hm
  simp only [actsC] at c3
  simp
  refine CondP.dec (fun g1 => ?_) (fun g1 => ?_)
  · have hi : i < L := by omega
    have hiv : i < vs.length := by omega
    have q1 := rows1b_get (l := hs) (i := i) (by omega)
    have q2 := boolC_get' (l := hs) (i := i) (by omega)
    have q3 := shpC_get' (l := sh) (i := i) (by omega)
    have q4 : (List.map (fun v => [v]) vs)[i]? = some [vs[i]] := by simp [hiv]
    have ewi : IntKind.i64.wrap ((i : Int) + 1) = (i : Int) + 1 := wrap_id (by omega) (by omega)
    have hri := I.rows i hiv (Nat.le_refl _)
    have hil := hlr i
    have hsc : vs[i].sc = true := by rcases hri with ⟨e, _⟩ | ⟨r, e, _⟩ <;> rw [e] <;> rfl
    have hisl : IsL η' vs[i] (sh.getD i []) := by
      rcases hri with ⟨e, e2⟩ | ⟨r, e, e2, _⟩
      · rw [e, e2]; exact Or.inr (Or.inl ⟨rfl, rfl⟩)
      · rw [e]; exact IsL.own1 rfl e2
    simp [g1]
    refine drawK.intro mixed [(0, []), (1, []), (2, []), (3, []), (4, []), (5, []), (6, []), (7, []), (8, []), (9, []), (10, []), (11, []), (12, []), (13, []), (14, []), (15, []), (16, []), (17, []), (18, []), (19, []), (20, [])] (by kernel_rfl) ?_
    simp [aindex, aload, apart, c1, c2, q1, q2, q3, q4, aeqB, hsc, hi]
    refine ACK.rt (same02_ac hisl (Or.inl rfl) (by omega)) ?_
    simp
    rcases hri with ⟨e1, e2⟩ | ⟨r, e1, e2, e3, e4⟩
    · refine loopK.inv [10, 74, 75, 76, 77, 78, 79, 80, 81, 82, 83, 84, 85, 86, 87, 88] (fun _ : Nat => True) (fun _ => [(10, .int .i64 0)]) (fun _ => η') (fun _ => n') (fun _ => 0) 0 (by simp) (by simp) (AHeap.le_rfl _) (Nat.le_refl _) ?_
      intro _ _
      rw [e1] at q4
      simp [aindex, aload, apart, c1, q4, ewi, hi]
      exact endK.intro (i + 1, η', n') ⟨by show i + 1 ≤ L; omega, I.hq, I.hh, I.hm, fun j hj h => I.rows j hj (by show i ≤ j; simp only at h; omega), I.old, I.le, I.fr⟩ (by simp) (by repeat (first | exact Agree.mask _ _ | refine Agree.setf rfl ?_ | refine Agree.inner rfl ?_)) (AHeap.le_rfl _) (Nat.le_refl _) (show L - (i + 1) < L - i by omega)
    · have hl : (sh.getD i []).length ≤ 16 := hil
      have hil2 : i < vs.length := hiv
      rw [e1] at q4
      refine loopK.inv [10, 74, 75, 76, 77, 78, 79, 80, 81, 82, 83, 84, 85, 86, 87, 88] (fun x : Nat × List (List AVal) => x.1 ≤ (sh.getD i []).length ∧ x.2.length = (sh.getD i []).length ∧ ∀ row ∈ x.2, row.length = 1) (fun x => [(10, .int .i64 x.1)]) (fun x => upd η' r (some (.cells 1 x.2))) (fun _ => n') (fun x => (sh.getD i []).length - x.1) (0, ints (sh.getD i [])) ⟨by simp, by simp, by simp [ints]⟩ (by simp) (by
        intro y o hy
        rw [upd_apply] at hy
        split at hy
        · rename_i e; subst e; rw [e2]; exact hy
        · exact hy) (Nat.le_refl _) ?_
      intro ⟨j, rows⟩ ⟨j1, j2, j3⟩
      simp only at j1 j2 j3
      have d1 : upd η' r (some (.cells 1 rows)) q = some (.cells 1 (vs.map fun v => [v])) := by rw [upd_ne (Ne.symm e3)]; exact c1
      have ewj : IntKind.i64.wrap ((j : Int) + 1) = (j : Int) + 1 := wrap_id (by omega) (by omega)
      simp [aindex, aload, apart, d1, q4, hi]
      refine CondP.dec (fun g2 => ?_) (fun g2 => ?_)
      · have hj : j < rows.length := by have : j < (sh.getD i []).length := by simpa using g2
                                        omega
        have hrow : rows[j]? = some rows[j] := List.getElem?_eq_getElem hj
        have hr1 := j3 rows[j] (List.getElem_mem ..)
        simp [aindex, aload, apart, d1, q4, hi, g2, upd_eq, astore, hrow, hr1, upd_upd, ewj]
        exact endK.intro (j + 1, rows.set j (.int .i64 (-9) :: rows[j].tail)) ⟨by show j + 1 ≤ _; omega, by simpa using j2, fun row hr => by
          rcases List.mem_or_eq_of_mem_set hr with h | rfl
          · exact j3 row h
          · simp [hr1]⟩ (by simp) (by repeat (first | exact Agree.mask _ _ | refine Agree.setf rfl ?_ | refine Agree.inner rfl ?_)) (AHeap.le_rfl _) (Nat.le_refl _) (show (sh.getD i []).length - (j + 1) < (sh.getD i []).length - j by omega)
      · have hrn : r < n' := by
          rcases Nat.lt_or_ge r n' with h | h
          · exact h
          · rw [I.fr r h] at e2; cases e2
        simp [g2, ewi]
        refine endK.intro (i + 1, upd η' r (some (.cells 1 rows)), n') ⟨by show i + 1 ≤ L; omega, ⟨d1, ?_, ?_, fun j' hj' h => ?_, fun y hy => ?_, I.le, fun y hy => ?_⟩⟩ (by simp) (by repeat (first | exact Agree.mask _ _ | refine Agree.setf rfl ?_ | refine Agree.inner rfl ?_)) (AHeap.le_rfl _) (Nat.le_refl _) (show L - (i + 1) < L - i by omega)
        · show upd η' r _ h = _
          rw [upd_ne]
          · exact c2
          · intro e
            subst e
            rw [e2] at c2
            simp only [Option.some.injEq, AObj.cells.injEq, true_and] at c2
            exact row_h c2 (by omega)
        · show upd η' r _ n = _
          rw [upd_ne (by omega)]; exact I.hm
        · have h : i + 1 ≤ j' := h
          rcases I.rows j' hj' (by omega) with h1 | ⟨r', f1, f2, f3, f4⟩
          · exact Or.inl h1
          · refine Or.inr ⟨r', f1, ?_, f3, f4⟩
            show upd η' r _ r' = _
            rw [upd_ne]
            · exact f2
            · intro e
              subst e
              have := hLa i j' r' _ _ (by rw [List.getElem?_eq_getElem hil2, e1]) (by rw [List.getElem?_eq_getElem hj', f1])
              omega
        · show upd η' r _ y = _
          rw [upd_ne (by omega)]; exact I.old y hy
        · show upd η' r _ y = _
          have hy : n' ≤ y := hy
          rw [upd_ne (by omega)]; exact I.fr y hy
  · simp [g1, aload, apart, c3]
    refine ACK.rt (h2 _ _) ?_
    simp [z1]
    refine loopK.inv [4, 13, 95, 96, 97, 98, 99, 100, 101, 102, 103, 104, 105, 106, 107, 108, 109, 110] (fun j : Nat => j ≤ L) (fun j => [(13, .int .i64 j)]) (fun _ => η') (fun _ => n') (fun j => L - j) 0 (by simp) (by simp) (AHeap.le_rfl _) (Nat.le_refl _) ?_
    intro j j1
    simp [z1]
    refine CondP.dec (fun g2 => ?_) (fun g2 => ?_)
    · have hj : j < L := by omega
      have q3 := shpC_get' (l := sh) (i := j) (by omega)
      have hjl := hlr j
      have ewj : IntKind.i64.wrap ((j : Int) + 1) = (j : Int) + 1 := wrap_id (by omega) (by omega)
      simp [g2]
      refine drawK.intro mixed [(0, []), (1, []), (2, []), (3, []), (4, []), (5, []), (6, []), (7, []), (8, []), (9, [])] (by kernel_rfl) ?_
      simp [aindex, aload, apart, q3]
      refine ACK.rt (same02_ac (l1 := sh.getD j []) (l2 := sh.getD j []) (Or.inl (by simp)) (Or.inl (by simp)) (by omega)) ?_
      simp [ewj]
      exact endK.intro (j + 1) (by show j + 1 ≤ L; omega) (by simp) (by repeat (first | exact Agree.mask _ _ | refine Agree.setf rfl ?_ | refine Agree.inner rfl ?_)) (AHeap.le_rfl _) (Nat.le_refl _) (show L - (j + 1) < L - j by omega)
    · simp [g2]
      exact resK.of (η' := η) (le_old hf I.old) _ (Nat.le_refl _) ⟨rfl, rfl⟩
end Go.Proofs.Ytkhoelmbcmkhjaa
