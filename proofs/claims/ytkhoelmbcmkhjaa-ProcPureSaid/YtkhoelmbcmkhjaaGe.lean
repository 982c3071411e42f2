/- Layer 6: CheckFirst. -/
import Derived.Test.YtkhoelmbcmkhjaaGd
namespace Go.Proofs.Ytkhoelmbcmkhjaa
set_option maxRecDepth 100000

theorem allL_fault {c : Lc} (hc : LcOK c) : ∀ (f : Nat) (x : Lx), LI c x → (allL c f x).2.1 ≠ 0 → (allL c f x).2.2.1 = c.k ∧ ∃ p : Nat, p < c.own.code.length ∧ (allL c f x).2.2.2 = p
  | 0, x, _, h => absurd rfl h
  | f + 1, x, hx, h => by
    unfold allL at h ⊢
    cases ht : x.todo.findIdx? id with
    | none => simp only [ht] at h; exact absurd rfl h
    | some p =>
      simp only [ht] at h ⊢
      obtain ⟨_, o2, o3⟩ := off_goes hx ht
      by_cases h1 : (atL c (x.off p) p).2 ≠ 0
      · rw [if_pos h1]; exact ⟨rfl, p, o3, rfl⟩
      · rw [if_neg h1] at h ⊢
        exact allL_fault hc f _ (atL_goes hc o3 o2).2 h
theorem look_fault {m : List Actr} (hr : rightM m = 0) {k : Nat} (hk : k < m.length) (h : (lookL m k).2.1 ≠ 0) : (lookL m k).2.2.1 = k ∧ ∃ p : Nat, p < (actr m k).code.length ∧ (lookL m k).2.2.2 = p :=
  have hc := lcOK_of hr hk
  allL_fault hc 700 _ (LI0 hc.ownA.c0) h
theorem checkN_first (m : List Actr) : ∀ (j k : Nat), (checkN m j k).1 ≠ 0 → ∃ i, k ≤ i ∧ i < k + j ∧ checkN m j k = (lookL m i).2 ∧ (lookL m i).2.1 ≠ 0 ∧ ∀ i', k ≤ i' → i' < i → (lookL m i').2.1 = 0
  | 0, _, h => absurd rfl h
  | j + 1, k, h => by
    unfold checkN at h ⊢
    by_cases h1 : (lookL m k).2.1 ≠ 0
    · rw [if_pos h1]; exact ⟨k, Nat.le_refl _, by omega, rfl, h1, fun i' h2 h3 => by omega⟩
    · rw [if_neg h1] at h ⊢
      obtain ⟨i, g1, g2, g3, g4, g5⟩ := checkN_first m j (k + 1) h
      refine ⟨i, by omega, by omega, g3, g4, fun i' h2 h3 => ?_⟩
      by_cases e : i' = k
      · subst e; simpa using h1
      · exact g5 i' (by omega) h3
theorem checkN_none (m : List Actr) : ∀ (j k : Nat), (checkN m j k).1 = 0 → ∀ i, k ≤ i → i < k + j → (lookL m i).2.1 = 0
  | 0, _, _, _, _, _ => by omega
  | j + 1, k, h, i, hi, hi2 => by
    unfold checkN at h
    by_cases h1 : (lookL m k).2.1 ≠ 0
    · rw [if_pos h1] at h; exact absurd h h1
    · rw [if_neg h1] at h
      by_cases e : i = k
      · subst e; simpa using h1
      · exact checkN_none m j (k + 1) h i (by omega) (by omega)
theorem look_ok {m : List Actr} (h : checkF m = (0, 0, 0)) {k : Nat} (hk : k < m.length) : (lookL m k).2.1 = 0 := by
  have hr := (checkF_zero (m := m) (by rw [h])).2
  unfold checkF at h
  rw [if_neg (by simpa using hr)] at h
  exact checkN_none m _ 0 (by rw [h]) k (by omega) (by omega)
theorem first_ac (m : List Actr) (η : AHeap) (n : Nat) (hm : Mod64 m) : AC Try.prog 10 [modV m] η n (Rt (.bool true) η n) := by
  refine AC.pure (.bool _) ?_
  have h1 := fun η n => check_ac m η n hm
  have h2 := fun η n => right05_ac m η n hm
  simp only [modV, actsC, fltV] at h1 h2
  have ev : ∀ f g : Int × Int × Int, aeqS Try.prog 68 [.int .i64 f.1, .int .i64 f.2.1, .int .i64 f.2.2] [.int .i64 g.1, .int .i64 g.2.1, .int .i64 g.2.2] = some (decide (f = g)) := fun f g => by
    rw [aeqS3 fields_fault]
    simp [Prod.ext_iff]
  refine AC.fresh fun hf => ?_; refine AC.enter Try.func10 rfl Try.ntmps10 (by simp) ?_
  have le2 : ∀ o o', η.le (upd (upd η n o) (n + 1) o') := fun o o' => le_upd (le_upd (AHeap.le_rfl _) (hf n (Nat.le_refl _))) (hf _ (by omega))
  simp [modV, actsC]
  refine ACK.rt (lives06_ac _ _) ?_
  simp [aload, apart, upd_eq]
  refine ACK.rt (h1 _ _) ?_
  simp [astore, aload, apart, upd_eq, upd_upd, upd_ne]
  refine ACK.rt (h2 _ _) ?_
  by_cases hr : rightM m = 0
  rotate_left
  · have e : checkF m = (rightM m, 0, 0) := by unfold checkF; rw [if_pos hr]
    rw [e]
    simp [hr, abuild, aplace, afillP, aload, apart, upd_eq, aeqS3 fields_fault]
    exact resK.of (η' := η) (le2 _ _) _ (Nat.le_refl _) ⟨rfl, rfl⟩
  simp [hr, afield, aload, apart, upd_eq]
  by_cases hz : (checkF m).1 = 0
  · have e := (checkF_zero hz).1
    rw [e]
    simp [abuild, aplace, afillP, aload, apart, upd_eq, aeqS3 fields_fault]
    exact resK.of (η' := η) (le2 _ _) _ (Nat.le_refl _) ⟨rfl, rfl⟩
  have eN : checkF m = checkN m m.length 0 := by unfold checkF; rw [if_neg (by simpa using hr)]
  rw [eN] at hz
  obtain ⟨i, _, i2, i3, i4, i5⟩ := checkN_first m _ _ hz
  have hi : i < m.length := by omega
  obtain ⟨f1, p, hp, f2⟩ := look_fault hr hi i4
  have ef : checkF m = ((lookL m i).2.1, (i : Int), (p : Int)) := by rw [eN, i3, ← f1, ← f2]
  generalize (lookL m i).2.1 = er at *
  have ei : actr m (i : Int) = m[i] := by simp [actr, List.getD_eq_getElem?_getD, hi]
  rw [ei] at hp
  have n1 : ¬ (i : Int) < 0 := by omega
  have n2 : ¬ (m.length : Int) ≤ i := by omega
  have n2' : ¬ m.length ≤ i := by omega
  have n3 : ¬ (p : Int) < 0 := by omega
  have n4 : ¬ (m[i].code.length : Int) ≤ p := by omega
  have n4' : ¬ m[i].code.length ≤ p := by omega
  rw [ef]
  simp [i4]
  refine drawK.intro mixed [(0, []), (1, []), (2, []), (3, []), (4, []), (5, []), (6, []), (7, []), (8, []), (9, []), (10, []), (11, []), (12, []), (13, []), (14, []), (15, []), (16, []), (17, []), (18, []), (19, []), (20, []), (21, []), (22, []), (23, []), (24, []), (25, []), (26, []), (27, []), (28, [])] (by kernel_rfl) ?_
  simp [afield, aload, apart, upd_eq, upd_ne, aindex, n1, n2, n3, n4, hi, actC]
  refine loopK.inv [2, 5, 6, 7, 8, 56, 57, 58, 59, 60, 61, 62, 63, 64, 65, 66, 67, 68, 69, 70, 71] (fun a : Nat × Nat => a.1 ≤ i ∧ n + 2 ≤ a.2) (fun a => [(5, .int .i64 a.1)]) (fun _ => upd (upd η n (some (.cells 1 [[.rs 5 (List.map actC m)]]))) (n + 1) (some (.cells 3 [[.int .i64 er, .int .i64 i, .int .i64 p]]))) (fun a => a.2) (fun a => i - a.1) (0, n + 2) (by simp) (by simp) (by simp [AHeap.le]) (by simp) ?_
  intro ⟨k, n'⟩ ⟨k1, k2⟩
  simp only at k1 k2
  simp [afield, aload, apart, upd_eq]
  refine CondP.dec (fun h3 => ?_) (fun h3 => ?_)
  · have h3' : k < i := by omega
    have hk : k < m.length := by omega
    have hl := i5 k (by omega) h3'
    have hac := fun η n => actor06_ac m k hk (lcOK_of hr hk) η n
    have ew : IntKind.i64.wrap ((k : Int) + 1) = (k : Int) + 1 := wrap_id (by have := hm.1; omega) (by have := hm.1; omega)
    simp only [modV, actsC, actRes, fltV, hl] at hac
    simp [h3, aload, apart, upd_eq, upd_ne]
    refine ACK.rt (hac _ _) ?_
    simp [astore, upd_eq, upd_upd, afield, aload, apart, ew]
    exact endK.intro (k + 1, n' + 1) ⟨by show k + 1 ≤ i; omega, by show n + 2 ≤ n' + 1; omega⟩ (by simp) (by repeat (first | exact Agree.mask _ _ | refine Agree.setf rfl ?_ | refine Agree.inner rfl ?_)) (le_upd (AHeap.le_rfl _) (by rw [upd_ne (by omega), upd_ne (by omega)]; exact hf _ (by omega))) (Nat.le_refl _) (show i - (k + 1) < i - k by omega)
  · simp [h3]
    exact resK.of (η' := η) (le2 _ _) _ (Nat.le_refl _) ⟨rfl, rfl⟩
end Go.Proofs.Ytkhoelmbcmkhjaa
