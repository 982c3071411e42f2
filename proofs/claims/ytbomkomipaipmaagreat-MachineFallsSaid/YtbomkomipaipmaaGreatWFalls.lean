/- Layer 16 (machine): MachineFalls, walked. -/
import Derived.Test.YtbomkomipaipmaaGreatVj
namespace Go.Proofs.YtbomkomipaipmaaGreat
@[simp] theorem ares4 (s : AState) : ares Tryz.prog Tryz.f4 s = resV Tryz.prog s (.tmp 4) := ares_one Tryz.results4 s
end Go.Proofs.YtbomkomipaipmaaGreat
namespace Go.Proofs.YtbomkomipaipmaaGreat
set_option maxRecDepth 100000

set_option maxHeartbeats 16000000 in
theorem falls_ac (m : List Actr) (sc : List Pk) (h64 : Mod64 m) (hsc : sc.length ≤ 17592186044416) (η : AHeap) (n : Nat) : AC Tryz.prog 4 [modV m, .rs 3 (pkR sc)] η n (Rt (.bool true) η n) := by
  refine AC.pure (.bool _) ?_
  have hnew := fun η n => mnew16_ac (η := η) (n := n) h64
  simp only [modV] at hnew ⊢
  refine AC.fresh fun hf => ?_; refine AC.enter Tryz.func4 rfl Tryz.ntmps4 (by simp) ?_
  simp
  refine ACK.rt lives_ac ?_
  simp
  refine ACK.rt (early_ac sc hsc) ?_
  obtain ⟨L, hL⟩ : ∃ L, L = sc.take 1000 := ⟨_, rfl⟩
  have hLl : L.length ≤ 1000 := by rw [hL]; simp; omega
  rw [← hL]
  clear hL
  simp [aload, apart, upd_apply]
  refine ACK.use (hnew _ _).freshN ?_
  intro v η1 n1 ⟨hv, hf1, hn1⟩
  by_cases h0 : (checkF m).1 = 0
  · obtain ⟨nm, rfl, hI⟩ := MLI.start h0 hv hf1
    simp [fltV, aload, apart, afield, astore, upd_apply, upd_upd]
    have hI0 := hI.grow (η' := upd η1 n1 (some (.cells 3 [[.int .i64 0, .int .i64 0, .int .i64 0]]))) (n' := n1 + 1) (fun q hq => upd_ne (by omega)) (fun q hq => by rw [upd_ne (by omega)]; exact hf1 q (by omega)) (by omega)
    obtain ⟨mm, hmm⟩ : ∃ mm, mm = nm .mach := ⟨_, rfl⟩
    rw [← hmm] at hI0 ⊢
    refine loopK.inv [4, 7, 8, 9, 10, 11, 12, 13, 28, 29, 30, 31, 32, 33, 34, 35, 36, 37, 38, 39, 40, 41, 42, 43, 44, 45, 46, 47, 48, 49, 50, 51, 52, 53, 54, 55, 56, 57, 58, 59, 60, 61, 62, 63, 64, 65, 66, 67, 68, 69, 70, 71, 72, 73, 74, 75, 76, 77, 78, 79, 80, 81, 82, 83, 84, 85, 86, 87, 88, 89, 90, 91, 92, 93, 94, 95, 96, 97, 98, 99, 100, 101, 102, 103, 104, 105, 106, 107, 108, 109, 110, 111, 112, 113, 114, 115, 116, 117, 118, 119, 120] (fun s : Nat × (Role → Nat) × MD × AHeap × Nat => s.1 ≤ L.length ∧ MLI (upd η n (some (.cells 1 [[.rs 5 (actsC m)]]))) (n + 1) mm s.1 s.2.1 s.2.2.1 s.2.2.2.1 s.2.2.2.2) (fun s => [(7, .int .i64 s.1)]) (fun s => s.2.2.2.1) (fun s => s.2.2.2.2) (fun s => L.length - s.1) (0, nm, newD m, upd η1 n1 (some (.cells 3 [[.int .i64 0, .int .i64 0, .int .i64 0]])), n1 + 1) ⟨by simp, hI0⟩ (by simp) (AHeap.le_rfl _) (Nat.le_refl _) ?_
    intro ⟨k, nm2, D, η2, n2⟩ ⟨j1, j3⟩
    simp only at j1 j3
    simp
    refine CondP.dec (fun hk => ?_) (fun hk => ?_)
    · have hk' : k < L.length := by omega
      have ewk : IntKind.i64.wrap ((k : Int) + 1) = (k : Int) + 1 := wrap_id (by omega) (by omega)
      obtain ⟨t, r, N, hP⟩ : ∃ t r N, L[k] = (t, r, N) := ⟨_, _, _, rfl⟩
      have l32 := liveP_len j3.good.inv
      have hnum := j3.good.num
      simp [hk]
      refine ACK.rt (j3.all (by omega)) ?_
      simp [hk', aindex, hP, pickC, aload, apart, afield]
      refine CondP.intro (fun ht => ?_) (fun ht => ?_)
      · simp
        refine ACK.use (j3.tick (by omega)) ?_
        intro u η4 n4 ⟨_, j4⟩
        obtain ⟨D', hD'⟩ : ∃ D', D' = tickD D := ⟨_, rfl⟩
        obtain ⟨nm4, hnm4⟩ : ∃ nm4, nm4 = nm2 := ⟨_, rfl⟩
        have hlen5 : D'.ps.length = D.ps.length ∨ D'.ps.length = D.ps.length + 1 := Or.inl (by rw [hD']; rfl)
        have hA5 : ∀ (k : Nat) (q q' : PD), D.ps[k]? = some q → D'.ps[k]? = some q' → q'.dead = q.dead := fun k q q' a b => by
          rw [hD'] at b
          have : D.ps[k]? = some q' := b
          rw [a] at this; cases this; rfl
        have hnew5 : ∀ q, D'.ps[D.ps.length]? = some q → q.dead = false := fun q hq => by
          have : D.ps[D.ps.length]? = some q := by rw [hD'] at hq; exact hq
          rw [len_none] at this; cases this
        rw [← hD', ← hnm4] at j4
        clear hD' hnm4
        simp
        refine ACK.rt (j4.all (by omega)) ?_
        simp
        refine loopK.inv [4, 11, 12, 13, 55, 56, 57, 58, 59, 60, 61, 62, 63, 64, 65, 66, 67, 68, 69, 70, 71, 72, 73, 74, 75, 76, 77, 78, 79, 80, 81, 82, 83, 84, 85, 86, 87, 88, 89, 90, 91, 92, 93, 94, 95] (fun s : Nat => s ≤ D.ps.length) (fun s => [(13, .int .i64 s), (11, .int .i64 (-1)), (12, .int .i64 0)]) (fun _ => η4) (fun _ => n4) (fun s => D.ps.length - s) 0 (by simp) (by simp) (AHeap.le_rfl _) (Nat.le_refl _) ?_
        intro i i1
        simp
        refine CondP.dec (fun ik => ?_) (fun ik => ?_)
        · have ik' : i < D.ps.length := by omega
          have ik2 : i < D'.ps.length := by omega
          have ewi : IntKind.i64.wrap ((i : Int) + 1) = (i : Int) + 1 := wrap_id (by omega) (by omega)
          obtain ⟨q, eq1⟩ : ∃ q, D.ps[i] = q := ⟨_, rfl⟩
          obtain ⟨q', eq2⟩ : ∃ q', D'.ps[i] = q' := ⟨_, rfl⟩
          have hqq := hA5 i q q' (by rw [List.getElem?_eq_getElem ik', eq1]) (by rw [List.getElem?_eq_getElem ik2, eq2])
          cases hqd : q.dead with
          | true =>
            simp [ik, aindex, aload, apart, afield, eq1, toldC, hqd, ewi]
            exact endK.intro (i + 1) (by omega) (by simp) (by repeat (first | exact Agree.mask _ _ | refine Agree.setf rfl ?_ | refine Agree.inner rfl ?_)) (AHeap.le_rfl _) (Nat.le_refl _) (show D.ps.length - (i + 1) < D.ps.length - i by omega)
          | false =>
            rw [hqd] at hqq
            simp [ik, aindex, ik2, aload, apart, afield, eq1, eq2, toldC, hqd, hqq, ewi]
            exact endK.intro (i + 1) (by omega) (by simp) (by repeat (first | exact Agree.mask _ _ | refine Agree.setf rfl ?_ | refine Agree.inner rfl ?_)) (AHeap.le_rfl _) (Nat.le_refl _) (show D.ps.length - (i + 1) < D.ps.length - i by omega)
        · have ei : i = D.ps.length := by omega
          simp [ik]
          rcases hlen5 with hl5 | hl5
          · have hl6 : ¬ ((D.ps.length : Int) < D'.ps.length) := by omega
            simp [hl5, ewk]
            exact endK.intro (k + 1, nm4, D', η4, n4) ⟨by simp only; omega, j4⟩ (by simp) (by repeat (first | exact Agree.mask _ _ | refine Agree.setf rfl ?_ | refine Agree.inner rfl ?_)) (AHeap.le_rfl _) (Nat.le_refl _) (show L.length - (k + 1) < L.length - k by omega)
          · have hl6 : (D.ps.length : Int) < D'.ps.length := by omega
            have hl7 : D.ps.length < D'.ps.length := by omega
            obtain ⟨q0, eq0⟩ : ∃ q0, D'.ps[D.ps.length] = q0 := ⟨_, rfl⟩
            have hd0 := hnew5 q0 (by rw [List.getElem?_eq_getElem hl7, eq0])
            simp [hl7, ewk, aindex, aload, apart, afield, eq0, toldC, hd0]
            exact endK.intro (k + 1, nm4, D', η4, n4) ⟨by simp only; omega, j4⟩ (by simp) (by repeat (first | exact Agree.mask _ _ | refine Agree.setf rfl ?_ | refine Agree.inner rfl ?_)) (AHeap.le_rfl _) (Nat.le_refl _) (show L.length - (k + 1) < L.length - k by omega)
      · simp
        have hw := fun η n => which_ac (η := η) (n := n) (t, r, N) (liveP D) (by omega)
        obtain ⟨pid, hpid⟩ : ∃ pid, whichF (t, r, N) (liveP D) = pid := ⟨_, rfl⟩
        simp only [pickC, hpid] at hw
        refine drawK.intro mixed [(0, []), (1, []), (2, []), (3, []), (4, []), (5, [2, 3]), (6, []), (7, [])] (by kernel_rfl) ?_
        simp [lk_some, chkK, aindex, hk', hP, pickC, aload, apart]
        refine ACK.rt j3.live ?_
        simp [hk', hP, pickC]
        refine ACK.rt (hw _ _) ?_
        simp
        refine ACK.use (j3.do (by omega) pid) ?_
        intro dv η4 n4 ⟨nm4, D', l, e, u, ev, hu, hdo, j4, hn4, hkeep⟩
        subst ev
        rcases hdo.cases j3.good with ⟨hDD, _⟩ | ⟨_, _, i0, p0, ha0, hp0, hd0, hpid0, _, rel, _, _⟩
        · have hlen5 : D'.ps.length = D.ps.length ∨ D'.ps.length = D.ps.length + 1 := Or.inl (by rw [hDD])
          have hA5 : ∀ (k : Nat) (q q' : PD), D.ps[k]? = some q → D'.ps[k]? = some q' → q'.dead = q.dead := fun k q q' a b => by
            rw [hDD, a] at b; cases b; rfl
          have hnew5 : ∀ q, D'.ps[D.ps.length]? = some q → q.dead = false := fun q hq => by
            rw [hDD, len_none] at hq; cases hq
          simp
          refine ACK.rt (j4.all (by omega)) ?_
          simp
          refine loopK.inv [4, 11, 12, 13, 55, 56, 57, 58, 59, 60, 61, 62, 63, 64, 65, 66, 67, 68, 69, 70, 71, 72, 73, 74, 75, 76, 77, 78, 79, 80, 81, 82, 83, 84, 85, 86, 87, 88, 89, 90, 91, 92, 93, 94, 95] (fun s : Nat => s ≤ D.ps.length) (fun s => [(13, .int .i64 s), (11, .int .i64 (-1)), (12, .int .i64 0)]) (fun _ => η4) (fun _ => n4) (fun s => D.ps.length - s) 0 (by simp) (by simp) (AHeap.le_rfl _) (Nat.le_refl _) ?_
          intro i i1
          simp
          refine CondP.dec (fun ik => ?_) (fun ik => ?_)
          · have ik' : i < D.ps.length := by omega
            have ik2 : i < D'.ps.length := by omega
            have ewi : IntKind.i64.wrap ((i : Int) + 1) = (i : Int) + 1 := wrap_id (by omega) (by omega)
            obtain ⟨q, eq1⟩ : ∃ q, D.ps[i] = q := ⟨_, rfl⟩
            obtain ⟨q', eq2⟩ : ∃ q', D'.ps[i] = q' := ⟨_, rfl⟩
            have hqq := hA5 i q q' (by rw [List.getElem?_eq_getElem ik', eq1]) (by rw [List.getElem?_eq_getElem ik2, eq2])
            cases hqd : q.dead with
            | true =>
              simp [ik, aindex, aload, apart, afield, eq1, toldC, hqd, ewi]
              exact endK.intro (i + 1) (by omega) (by simp) (by repeat (first | exact Agree.mask _ _ | refine Agree.setf rfl ?_ | refine Agree.inner rfl ?_)) (AHeap.le_rfl _) (Nat.le_refl _) (show D.ps.length - (i + 1) < D.ps.length - i by omega)
            | false =>
              rw [hqd] at hqq
              simp [ik, aindex, ik2, aload, apart, afield, eq1, eq2, toldC, hqd, hqq, ewi]
              exact endK.intro (i + 1) (by omega) (by simp) (by repeat (first | exact Agree.mask _ _ | refine Agree.setf rfl ?_ | refine Agree.inner rfl ?_)) (AHeap.le_rfl _) (Nat.le_refl _) (show D.ps.length - (i + 1) < D.ps.length - i by omega)
          · have ei : i = D.ps.length := by omega
            simp [ik]
            rcases hlen5 with hl5 | hl5
            · have hl6 : ¬ ((D.ps.length : Int) < D'.ps.length) := by omega
              simp [hl5, ewk]
              exact endK.intro (k + 1, nm4, D', η4, n4) ⟨by simp only; omega, j4⟩ (by simp) (by repeat (first | exact Agree.mask _ _ | refine Agree.setf rfl ?_ | refine Agree.inner rfl ?_)) (AHeap.le_rfl _) (Nat.le_refl _) (show L.length - (k + 1) < L.length - k by omega)
            · have hl6 : (D.ps.length : Int) < D'.ps.length := by omega
              have hl7 : D.ps.length < D'.ps.length := by omega
              obtain ⟨q0, eq0⟩ : ∃ q0, D'.ps[D.ps.length] = q0 := ⟨_, rfl⟩
              have hd0 := hnew5 q0 (by rw [List.getElem?_eq_getElem hl7, eq0])
              simp [hl7, ewk, aindex, aload, apart, afield, eq0, toldC, hd0]
              exact endK.intro (k + 1, nm4, D', η4, n4) ⟨by simp only; omega, j4⟩ (by simp) (by repeat (first | exact Agree.mask _ _ | refine Agree.setf rfl ?_ | refine Agree.inner rfl ?_)) (AHeap.le_rfl _) (Nat.le_refl _) (show L.length - (k + 1) < L.length - k by omega)
        · have hlen5 := rel.len
          have hnew5 : ∀ q, D'.ps[D.ps.length]? = some q → q.dead = false := fun q hq => (rel.new q hq).1
          have hold5 := rel.old
          rcases rel.falls with hA5 | ⟨rr, hr1, hr2, hB5⟩
          · simp
            refine ACK.rt (j4.all (by omega)) ?_
            simp
            refine loopK.inv [4, 11, 12, 13, 55, 56, 57, 58, 59, 60, 61, 62, 63, 64, 65, 66, 67, 68, 69, 70, 71, 72, 73, 74, 75, 76, 77, 78, 79, 80, 81, 82, 83, 84, 85, 86, 87, 88, 89, 90, 91, 92, 93, 94, 95] (fun s : Nat => s ≤ D.ps.length) (fun s => [(13, .int .i64 s), (11, .int .i64 (-1)), (12, .int .i64 0)]) (fun _ => η4) (fun _ => n4) (fun s => D.ps.length - s) 0 (by simp) (by simp) (AHeap.le_rfl _) (Nat.le_refl _) ?_
            intro i i1
            simp
            refine CondP.dec (fun ik => ?_) (fun ik => ?_)
            · have ik' : i < D.ps.length := by omega
              have ik2 : i < D'.ps.length := by omega
              have ewi : IntKind.i64.wrap ((i : Int) + 1) = (i : Int) + 1 := wrap_id (by omega) (by omega)
              obtain ⟨q, eq1⟩ : ∃ q, D.ps[i] = q := ⟨_, rfl⟩
              obtain ⟨q', eq2⟩ : ∃ q', D'.ps[i] = q' := ⟨_, rfl⟩
              have hqq := hA5 i q q' (by rw [List.getElem?_eq_getElem ik', eq1]) (by rw [List.getElem?_eq_getElem ik2, eq2])
              cases hqd : q.dead with
              | true =>
                simp [ik, aindex, aload, apart, afield, eq1, toldC, hqd, ewi]
                exact endK.intro (i + 1) (by omega) (by simp) (by repeat (first | exact Agree.mask _ _ | refine Agree.setf rfl ?_ | refine Agree.inner rfl ?_)) (AHeap.le_rfl _) (Nat.le_refl _) (show D.ps.length - (i + 1) < D.ps.length - i by omega)
              | false =>
                rw [hqd] at hqq
                simp [ik, aindex, ik2, aload, apart, afield, eq1, eq2, toldC, hqd, hqq, ewi]
                exact endK.intro (i + 1) (by omega) (by simp) (by repeat (first | exact Agree.mask _ _ | refine Agree.setf rfl ?_ | refine Agree.inner rfl ?_)) (AHeap.le_rfl _) (Nat.le_refl _) (show D.ps.length - (i + 1) < D.ps.length - i by omega)
            · have ei : i = D.ps.length := by omega
              simp [ik]
              rcases hlen5 with hl5 | hl5
              · have hl6 : ¬ ((D.ps.length : Int) < D'.ps.length) := by omega
                simp [hl5, ewk]
                exact endK.intro (k + 1, nm4, D', η4, n4) ⟨by simp only; omega, j4⟩ (by simp) (by repeat (first | exact Agree.mask _ _ | refine Agree.setf rfl ?_ | refine Agree.inner rfl ?_)) (AHeap.le_rfl _) (Nat.le_refl _) (show L.length - (k + 1) < L.length - k by omega)
              · have hl6 : (D.ps.length : Int) < D'.ps.length := by omega
                have hl7 : D.ps.length < D'.ps.length := by omega
                obtain ⟨q0, eq0⟩ : ∃ q0, D'.ps[D.ps.length] = q0 := ⟨_, rfl⟩
                have hd0 := hnew5 q0 (by rw [List.getElem?_eq_getElem hl7, eq0])
                simp [hl7, ewk, aindex, aload, apart, afield, eq0, toldC, hd0]
                exact endK.intro (k + 1, nm4, D', η4, n4) ⟨by simp only; omega, j4⟩ (by simp) (by repeat (first | exact Agree.mask _ _ | refine Agree.setf rfl ?_ | refine Agree.inner rfl ?_)) (AHeap.le_rfl _) (Nat.le_refl _) (show L.length - (k + 1) < L.length - k by omega)
          · simp
            refine ACK.rt (j4.all (by omega)) ?_
            simp
            refine loopK.inv [4, 11, 12, 13, 55, 56, 57, 58, 59, 60, 61, 62, 63, 64, 65, 66, 67, 68, 69, 70, 71, 72, 73, 74, 75, 76, 77, 78, 79, 80, 81, 82, 83, 84, 85, 86, 87, 88, 89, 90, 91, 92, 93, 94, 95] (fun s : Nat × Int × Nat => s.1 ≤ D.ps.length ∧ s.2.1 = (if i0 < s.1 then rr.1 else -1) ∧ s.2.2 ≤ s.1 ∧ (0 < s.2.2 → rr.1 ≠ 0)) (fun s => [(13, .int .i64 s.1), (11, .int .i64 s.2.1), (12, .int .i64 s.2.2)]) (fun _ => η4) (fun _ => n4) (fun s => D.ps.length - s.1) (0, -1, 0) (by simp) (by simp) (AHeap.le_rfl _) (Nat.le_refl _) ?_
            intro ⟨i, own, oth⟩ ⟨i1, i2, i3, i4⟩
            simp only at i1 i2 i3 i4
            simp
            refine CondP.dec (fun ik => ?_) (fun ik => ?_)
            · have ik' : i < D.ps.length := by omega
              have ik2 : i < D'.ps.length := by omega
              have ewi : IntKind.i64.wrap ((i : Int) + 1) = (i : Int) + 1 := wrap_id (by omega) (by omega)
              have ewo : IntKind.i64.wrap ((oth : Int) + 1) = (oth : Int) + 1 := wrap_id (by omega) (by omega)
              obtain ⟨q, eq1⟩ : ∃ q, D.ps[i] = q := ⟨_, rfl⟩
              obtain ⟨q', eq2⟩ : ∃ q', D'.ps[i] = q' := ⟨_, rfl⟩
              have hq1 : D.ps[i]? = some q := by rw [List.getElem?_eq_getElem ik', eq1]
              have hq2 : D'.ps[i]? = some q' := by rw [List.getElem?_eq_getElem ik2, eq2]
              have epid : q'.pid = q.pid := by
                obtain ⟨x, x1, x2⟩ := hold5 i q hq1
                rw [hq2] at x1; cases x1; exact x2.pid
              have hother : i ≠ i0 → (if i0 < i + 1 then rr.1 else -1) = own := fun h => by
                rw [i2]
                by_cases hx : i0 < i
                · rw [if_pos hx, if_pos (by omega)]
                · rw [if_neg hx, if_neg (by omega)]
              cases hqd : q.dead with
              | true =>
                have hne : i ≠ i0 := fun e => by
                  subst e; rw [hp0] at hq1; cases hq1; rw [hd0] at hqd; cases hqd
                simp [ik, aindex, aload, apart, afield, eq1, toldC, hqd, ewi]
                exact endK.intro (i + 1, own, oth) ⟨by simp only; omega, (hother hne).symm, by simp only; omega, i4⟩ (by simp) (by repeat (first | exact Agree.mask _ _ | refine Agree.setf rfl ?_ | refine Agree.inner rfl ?_)) (AHeap.le_rfl _) (Nat.le_refl _) (show D.ps.length - (i + 1) < D.ps.length - i by omega)
              | false =>
                obtain ⟨f1, f2⟩ := hB5 i q q' hq1 hq2 hqd
                cases hqd2 : q'.dead with
                | false =>
                  have hne : i ≠ i0 := fun e => by have := (f1 e).1; rw [hqd2] at this; cases this
                  simp [ik, aindex, ik2, aload, apart, afield, eq1, eq2, toldC, hqd, hqd2, ewi]
                  exact endK.intro (i + 1, own, oth) ⟨by simp only; omega, (hother hne).symm, by simp only; omega, i4⟩ (by simp) (by repeat (first | exact Agree.mask _ _ | refine Agree.setf rfl ?_ | refine Agree.inner rfl ?_)) (AHeap.le_rfl _) (Nat.le_refl _) (show D.ps.length - (i + 1) < D.ps.length - i by omega)
                | true =>
                  by_cases hi0 : i = i0
                  · have ers := (f1 hi0).2
                    have hpp : q'.pid = pid := by subst hi0; rw [hp0] at hq1; cases hq1; rw [epid, hpid0]
                    simp [ik, aindex, ik2, aload, apart, afield, eq1, eq2, toldC, hqd, hqd2, hpp, ers, ewi]
                    exact endK.intro (i + 1, rr.1, oth) ⟨by simp only; omega, by simp only; rw [if_pos (by omega)], by simp only; omega, i4⟩ (by simp) (by repeat (first | exact Agree.mask _ _ | refine Agree.setf rfl ?_ | refine Agree.inner rfl ?_)) (AHeap.le_rfl _) (Nat.le_refl _) (show D.ps.length - (i + 1) < D.ps.length - i by omega)
                  · obtain ⟨ers, hr0⟩ := f2 hi0 hqd2
                    have hpp : ¬ q'.pid = pid := fun e => hi0 (j3.good.inv.uniq hq1 hp0 (by rw [← epid, e, hpid0]))
                    simp [ik, aindex, ik2, aload, apart, afield, eq1, eq2, toldC, hqd, hqd2, hpp, ers, ewi, ewo, abuild, aplace, afillP, aeqS2 fields_reason]
                    exact endK.intro (i + 1, own, oth + 1) ⟨by simp only; omega, (hother hi0).symm, by simp only; omega, fun _ => hr0⟩ (by simp) (by repeat (first | exact Agree.mask _ _ | refine Agree.setf rfl ?_ | refine Agree.inner rfl ?_)) (AHeap.le_rfl _) (Nat.le_refl _) (show D.ps.length - (i + 1) < D.ps.length - i by omega)
            · have ei : i = D.ps.length := by omega
              have hown : own = rr.1 := by rw [i2, if_pos (by have := (List.getElem?_eq_some_iff.1 hp0).1; omega)]
              simp [ik]
              have h6 : ¬ rr.1 = 6 := by omega
              by_cases hoth : 0 < oth
              · have hr0 := i4 hoth
                have hle0 : ¬ rr.1 ≤ 0 := by omega
                rcases hlen5 with hl5 | hl5
                · have hl6 : ¬ ((D.ps.length : Int) < D'.ps.length) := by omega
                  simp [hoth, hown, hle0, h6, hl5, ewk]
                  exact endK.intro (k + 1, nm4, D', η4, n4) ⟨by simp only; omega, j4⟩ (by simp) (by repeat (first | exact Agree.mask _ _ | refine Agree.setf rfl ?_ | refine Agree.inner rfl ?_)) (AHeap.le_rfl _) (Nat.le_refl _) (show L.length - (k + 1) < L.length - k by omega)
                · have hl6 : (D.ps.length : Int) < D'.ps.length := by omega
                  have hl7 : D.ps.length < D'.ps.length := by omega
                  obtain ⟨q0, eq0⟩ : ∃ q0, D'.ps[D.ps.length] = q0 := ⟨_, rfl⟩
                  have hd0 := hnew5 q0 (by rw [List.getElem?_eq_getElem hl7, eq0])
                  simp [hoth, hown, hle0, h6, hl7, ewk, aindex, aload, apart, afield, eq0, toldC, hd0]
                  exact endK.intro (k + 1, nm4, D', η4, n4) ⟨by simp only; omega, j4⟩ (by simp) (by repeat (first | exact Agree.mask _ _ | refine Agree.setf rfl ?_ | refine Agree.inner rfl ?_)) (AHeap.le_rfl _) (Nat.le_refl _) (show L.length - (k + 1) < L.length - k by omega)
              · have ho0 : oth = 0 := by omega
                subst ho0
                rcases hlen5 with hl5 | hl5
                · have hl6 : ¬ ((D.ps.length : Int) < D'.ps.length) := by omega
                  simp [hown, h6, hl5, ewk]
                  exact endK.intro (k + 1, nm4, D', η4, n4) ⟨by simp only; omega, j4⟩ (by simp) (by repeat (first | exact Agree.mask _ _ | refine Agree.setf rfl ?_ | refine Agree.inner rfl ?_)) (AHeap.le_rfl _) (Nat.le_refl _) (show L.length - (k + 1) < L.length - k by omega)
                · have hl6 : (D.ps.length : Int) < D'.ps.length := by omega
                  have hl7 : D.ps.length < D'.ps.length := by omega
                  obtain ⟨q0, eq0⟩ : ∃ q0, D'.ps[D.ps.length] = q0 := ⟨_, rfl⟩
                  have hd0 := hnew5 q0 (by rw [List.getElem?_eq_getElem hl7, eq0])
                  simp [hown, h6, hl7, ewk, aindex, aload, apart, afield, eq0, toldC, hd0]
                  exact endK.intro (k + 1, nm4, D', η4, n4) ⟨by simp only; omega, j4⟩ (by simp) (by repeat (first | exact Agree.mask _ _ | refine Agree.setf rfl ?_ | refine Agree.inner rfl ?_)) (AHeap.le_rfl _) (Nat.le_refl _) (show L.length - (k + 1) < L.length - k by omega)
    · simp [hk]
      refine resK.of (η' := η) (le_old hf fun q hq => ?_) _ (Nat.le_refl _) ⟨rfl, rfl⟩
      rw [j3.keep q (by omega), upd_ne (by omega)]
  · unfold NewK at hv
    rw [if_neg h0] at hv
    obtain ⟨rfl, hk, _⟩ := hv
    simp [fltV, aload, apart, afield, astore, upd_apply, upd_upd, h0]
    refine resK.of (η' := η) (le_old hf fun q hq => ?_) _ (Nat.le_refl _) ⟨rfl, rfl⟩
    rw [upd_ne (by omega), hk q (by omega), upd_ne (by omega)]
end Go.Proofs.YtbomkomipaipmaaGreat
