/- Layer 16 (machine): MachineWakes, walked. -/
import Derived.Test.YtbomkomipaipmaaGreatVj
namespace Go.Proofs.YtbomkomipaipmaaGreat
@[simp] theorem hb20 : HB Tryz.prog 20 = true := by kernel_rfl
@[simp] theorem ares3 (s : AState) : ares Tryz.prog Tryz.f3 s = resV Tryz.prog s (.tmp 4) := ares_one Tryz.results3 s
@[simp] theorem ares20 (s : AState) : ares Tryz.prog Tryz.f20 s = resV Tryz.prog s (.tmp 4) := ares_one Tryz.results20 s
end Go.Proofs.YtbomkomipaipmaaGreat
namespace Go.Proofs.YtbomkomipaipmaaGreat
set_option maxRecDepth 100000

theorem OutI.isL {η1 : AHeap} {n n1 : Nat} {v : AVal} {l : List Int} (h : OutI η1 n n1 v l) : IsL η1 v l := by
  rcases h with ⟨rfl, rfl⟩ | ⟨g, rfl, _, _, h⟩
  · exact Or.inr (Or.inl ⟨rfl, rfl⟩)
  · exact Or.inr (Or.inr ⟨g, 0, [], [], rfl, rfl, by simpa using h⟩)
theorem OutI.more {η1 η2 : AHeap} {n n1 n2 : Nat} {v : AVal} {l : List Int} (h : OutI η1 n n1 v l) (hk : ∀ q, n ≤ q → q < n1 → η2 q = η1 q) (hn : n1 ≤ n2) : OutI η2 n n2 v l := by
  rcases h with h | ⟨g, h1, h2, h3, h4⟩
  · exact Or.inl h
  · exact Or.inr ⟨g, h1, h2, by omega, by rw [hk g h2 h3]; exact h4⟩
theorem OutI.sc {η1 : AHeap} {n n1 : Nat} {v : AVal} {l : List Int} (h : OutI η1 n n1 v l) : v.sc = true ∧ acells v = [v] := by
  rcases h with ⟨rfl, rfl⟩ | ⟨g, rfl, _⟩ <;> exact ⟨rfl, rfl⟩
set_option maxHeartbeats 2000000 in
theorem has_ac {η : AHeap} {n : Nat} {v : AVal} {l : List Int} (h1 : IsL η v l) (hl : l.length ≤ 1000000) (x : Int) : AC Tryz.prog 20 [v, .int .i64 x] η n (Rt (.bool (l.contains x)) η n) := by
  have z1 : ∀ η', alenT Tryz.prog 34 v η' = some (l.length : Int) := h1.len (by simp)
  refine AC.enter Tryz.func20 rfl Tryz.ntmps20 (by simp) ?_
  simp
  refine loopK.inv [4, 5, 6, 7, 8, 9, 10, 11, 12, 13, 14, 15, 16, 17] (fun k : Nat => k ≤ l.length ∧ ¬ x ∈ l.take k) (fun k => [(5, .int .i64 k)]) (fun _ => η) (fun _ => n) (fun k => l.length - k) 0 (by simp) (by simp) (by simp) (by simp) ?_
  intro k ⟨g1, g2⟩
  simp [z1]
  refine CondP.dec (fun h => ?_) (fun h => ?_)
  · have h' : k < l.length := by omega
    obtain ⟨p1, a1, a2⟩ := h1.idx (P := Tryz.prog) (t := 34) (e := 2) (by simp) (by simp) (by simp) h'
    simp [h, a1, a2]
    refine CondP.dec (fun h4 => ?_) (fun h4 => ?_)
    · simp [h4]
      refine resK.rt ⟨?_, rfl, rfl⟩
      have : x ∈ l := h4 ▸ List.getElem_mem h'
      simp [this]
    · simp [h4]
      rw [wrap_id (by omega) (by omega)]
      refine endK.intro (k + 1) ⟨by omega, ?_⟩ (by simp) (by repeat (first | exact Agree.mask _ _ | refine Agree.setf rfl ?_ | refine Agree.inner rfl ?_)) (AHeap.le_rfl _) (Nat.le_refl _) (show l.length - (k + 1) < l.length - k by omega)
      rw [List.take_succ_eq_append_getElem h']
      simp only [List.mem_append, List.mem_singleton, not_or]
      exact ⟨g2, fun e => h4 e.symm⟩
  · simp [h]
    refine resK.rt ⟨?_, rfl, rfl⟩
    have e : l.take k = l := List.take_of_length_le (by omega)
    rw [e] at g2
    simp [g2]
theorem filter_take {L : List Int} {f : Int → Bool} {k : Nat} (hk : k < L.length) : (L.take (k + 1)).filter f = (L.take k).filter f ++ (if f L[k] = true then [L[k]] else []) := by
  rw [List.take_succ_eq_append_getElem hk, List.filter_append]
  congr 1
  by_cases h : f L[k] = true <;> simp [h]
theorem IsL.more3 {η η' : AHeap} {n : Nat} {v : AVal} {l : List Int} (h : (v = .nils ∧ l = []) ∨ ∃ g, v = .sl g 0 l.length ∧ g < n ∧ η g = some (.cells 1 (ints l))) (hk : ∀ q, q < n → η' q = η q) : IsL η' v l := by
  rcases h with ⟨rfl, rfl⟩ | ⟨g, rfl, h1, h2⟩
  · exact Or.inr (Or.inl ⟨rfl, rfl⟩)
  · exact Or.inr (Or.inr ⟨g, 0, [], [], rfl, rfl, by rw [hk g h1]; simpa using h2⟩)
def RowB (η : AHeap) (n : Nat) (v : AVal) (l : List Int) : Prop := (v = .nils ∧ l = []) ∨ ∃ g, v = .sl g 0 l.length ∧ g < n ∧ η g = some (.cells 1 (ints l))
theorem RowB.more3 {η η' : AHeap} {n : Nat} {v : AVal} {l : List Int} (h : RowB η n v l) (hk : ∀ q, q < n → η' q = η q) : IsL η' v l := IsL.more3 h hk
theorem OutI.rowB {η1 : AHeap} {n n1 : Nat} {v : AVal} {l : List Int} (h : OutI η1 n n1 v l) : RowB η1 n1 v l := h.imp _root_.id fun ⟨g, a, _, b, c⟩ => ⟨g, a, b, c⟩
set_option maxHeartbeats 16000000 in
theorem wakes_ac (m : List Actr) (sc : List Pk) (h64 : Mod64 m) (hsc : sc.length ≤ 17592186044416) (η : AHeap) (n : Nat) : AC Tryz.prog 3 [modV m, .rs 3 (pkR sc)] η n (Rt (.bool true) η n) := by
  refine AC.pure (.bool _) ?_
  have hnew := fun η n => mnew16_ac (η := η) (n := n) h64
  simp only [modV] at hnew ⊢
  refine AC.fresh fun hf => ?_; refine AC.enter Tryz.func3 rfl Tryz.ntmps3 (by simp) ?_
  simp
  refine ACK.rt lives_ac ?_
  simp
  refine ACK.rt (early_ac sc hsc) ?_
  obtain ⟨L, hL⟩ : ∃ L, L = sc.take 1000 := ⟨_, rfl⟩
  have hLl : L.length ≤ 1000 := by rw [hL]; simp; omega
  rw [← hL]
  clear hL
  simp [aload, apart, upd_apply]
  refine ACK.use (hnew _ _).freshN ?_
  intro v η1 n1 ⟨hv, hf1, hn1⟩
  by_cases h0 : (checkF m).1 = 0
  · obtain ⟨nm, rfl, hI⟩ := MLI.start h0 hv hf1
    simp [fltV, aload, apart, afield, astore, upd_apply, upd_upd]
    have hI0 := hI.grow (η' := upd η1 n1 (some (.cells 3 [[.int .i64 0, .int .i64 0, .int .i64 0]]))) (n' := n1 + 1) (fun q hq => upd_ne (by omega)) (fun q hq => by rw [upd_ne (by omega)]; exact hf1 q (by omega)) (by omega)
    obtain ⟨mm, hmm⟩ : ∃ mm, mm = nm .mach := ⟨_, rfl⟩
    rw [← hmm] at hI0 ⊢
    refine loopK.inv [4, 7, 8, 9, 10, 11, 12, 13, 14, 29, 30, 31, 32, 33, 34, 35, 36, 37, 38, 39, 40, 41, 42, 43, 44, 45, 46, 47, 48, 49, 50, 51, 52, 53, 54, 55, 56, 57, 58, 59, 60, 61, 62, 63, 64, 65, 66, 67, 68, 69, 70, 71, 72, 73, 74, 75, 76, 77, 78, 79, 80, 81, 82, 83, 84, 85, 86, 87, 88, 89, 90, 91, 92, 93, 94, 95, 96, 97, 98, 99, 100, 101, 102, 103, 104, 105, 106, 107, 108, 109, 110, 111, 112, 113, 114, 115, 116] (fun s : Nat × (Role → Nat) × MD × AHeap × Nat => s.1 ≤ L.length ∧ MLI (upd η n (some (.cells 1 [[.rs 5 (actsC m)]]))) (n + 1) mm s.1 s.2.1 s.2.2.1 s.2.2.2.1 s.2.2.2.2) (fun s => [(7, .int .i64 s.1)]) (fun s => s.2.2.2.1) (fun s => s.2.2.2.2) (fun s => L.length - s.1) (0, nm, newD m, upd η1 n1 (some (.cells 3 [[.int .i64 0, .int .i64 0, .int .i64 0]])), n1 + 1) ⟨by simp, hI0⟩ (by simp) (AHeap.le_rfl _) (Nat.le_refl _) ?_
    intro ⟨k, nm2, D, η2, n2⟩ ⟨j1, j2⟩
    simp only at j1 j2
    simp
    refine CondP.dec (fun hk => ?_) (fun hk => ?_)
    · have hk' : k < L.length := by omega
      have ewk : IntKind.i64.wrap ((k : Int) + 1) = (k : Int) + 1 := wrap_id (by omega) (by omega)
      obtain ⟨t, r, N, hP⟩ : ∃ t r N, L[k] = (t, r, N) := ⟨_, _, _, rfl⟩
      have l32 := liveP_len j2.good.inv
      have HFR2 : ∀ q, n2 ≤ q → η2 q = none := j2.fr
      have hin2 : ∀ q, InM nm2 D q → q < n2 := fun q hq => j2.at'.inlt j2.fr hq
      simp [hk]
      refine ACK.rt j2.live ?_
      simp
      refine loopK.inv [9, 10, 37, 38, 39, 40, 41, 42, 43, 44, 45, 46, 47, 48, 49, 50, 51, 52, 53, 54, 55] (fun s : Nat × AVal × AHeap × Nat => s.1 ≤ (liveP D).length ∧ OutI s.2.2.1 n2 s.2.2.2 s.2.1 (((liveP D).take s.1).filter (runnableP D)) ∧ (∀ q, q < n2 → s.2.2.1 q = η2 q) ∧ n2 ≤ s.2.2.2 ∧ ∀ q, s.2.2.2 ≤ q → s.2.2.1 q = none) (fun s => [(10, .int .i64 s.1), (9, s.2.1)]) (fun s => s.2.2.1) (fun s => s.2.2.2) (fun s => (liveP D).length - s.1) (0, .nils, η2, n2) ⟨by simp, Or.inl ⟨rfl, rfl⟩, fun _ _ => rfl, Nat.le_refl _, HFR2⟩ (by simp) (AHeap.le_rfl _) (Nat.le_refl _) ?_
      intro ⟨i, w, G1, m1⟩ ⟨i1, i2, i3, i4, i5⟩
      simp only at i1 i2 i3 i4 i5
      simp
      refine CondP.dec (fun ik => ?_) (fun ik => ?_)
      · have ik' : i < (liveP D).length := by omega
        have ewi : IntKind.i64.wrap ((i : Int) + 1) = (i : Int) + 1 := wrap_id (by omega) (by omega)
        have efl := filter_take (f := runnableP D) ik'
        have hJl : (((liveP D).take i).filter (runnableP D)).length ≤ 32 := by
          refine Nat.le_trans (List.length_filter_le _ _) ?_
          simp; omega
        have jj := j2.grow i3 i5 i4
        simp [ik, aindex, aload, apart]
        refine ACK.rt (jj.run _) ?_
        cases hr : runnableP D (liveP D)[i] with
        | false =>
          rw [hr] at efl
          simp at efl
          simp [ewi]
          refine endK.intro (i + 1, w, G1, m1) ⟨by simp only; omega, ?_, i3, i4, i5⟩ (by simp) (by repeat (first | exact Agree.mask _ _ | refine Agree.setf rfl ?_ | refine Agree.inner rfl ?_)) (AHeap.le_rfl _) (Nat.le_refl _) (show (liveP D).length - (i + 1) < (liveP D).length - i by omega)
          simp only
          rw [efl]; simpa using i2
        | true =>
          rw [hr] at efl
          simp only [if_true] at efl
          revert i2 efl hJl
          generalize ((liveP D).take i).filter (runnableP D) = J
          intro i2 hJl efl
          simp [aindex, ik', aload, apart]
          have hlenJ : J.length ≤ 32 := by omega
          rcases i2 with ⟨rfl, rfl⟩ | ⟨g, rfl, c6, c7, c8⟩
          · simp [ewi, upd_apply, Nat.add_assoc, abuildS, afillP, tek, chunk, appK, aappend, arows, lenMax]
            refine endK.heap fun G hG => ?_
            have g1 : G (m1 + 1) = some (.cells 1 [[.int .i64 (liveP D)[i]]]) := by rw [hG]; simp [upd_apply]
            have g2 : ∀ q, q < n2 → G q = η2 q := fun q hq => by
              rw [hG]; simp only [upd_apply]
              repeat rw [if_neg (by omega)]
              exact i3 q hq
            have g3 : ∀ q, m1 + 2 ≤ q → G q = none := fun q hq => by
              rw [hG]; simp only [upd_apply]
              repeat rw [if_neg (by omega)]
              exact i5 q (by omega)
            refine endK.intro (i + 1, .sl (m1 + 1) 0 1, G, m1 + 2) ⟨by simp only; omega, ?_, g2, by simp only; omega, g3⟩ (by simp) (by repeat (first | exact Agree.mask _ _ | refine Agree.setf rfl ?_ | refine Agree.inner rfl ?_)) (AHeap.le_rfl _) (Nat.le_refl _) (show (liveP D).length - (i + 1) < (liveP D).length - i by omega)
            simp only
            rw [efl]
            exact Or.inr ⟨m1 + 1, by simp, by omega, by omega, by rw [g1]; simp [ints]⟩
          · have y5 : ¬ g = m1 := by omega
            have y6 : ∀ k, ¬ g = m1 + k := fun k => by omega
            have hb1 : (J.length + 1) * 8 ≤ 140737488355328 := by omega
            have hb2 : J.length + 1 ≤ 17592186044416 := by omega
            have etk : List.take J.length (ints J) = ints J := List.take_of_length_le (by simp)
            simp [ewi, upd_apply, Nat.add_assoc, abuildS, afillP, tek, chunk, appK, aappend, arows, lenMax, y5, c8, hb1, hb2, etk]
            refine endK.heap fun G hG => ?_
            have g1 : G (m1 + 1) = some (.cells 1 (ints J ++ [[.int .i64 (liveP D)[i]]])) := by rw [hG]; simp [upd_apply]
            have g2 : ∀ q, q < n2 → G q = η2 q := fun q hq => by
              rw [hG]; simp only [upd_apply]
              repeat rw [if_neg (by omega)]
              exact i3 q hq
            have g3 : ∀ q, m1 + 2 ≤ q → G q = none := fun q hq => by
              rw [hG]; simp only [upd_apply]
              repeat rw [if_neg (by omega)]
              exact i5 q (by omega)
            refine endK.intro (i + 1, .sl (m1 + 1) 0 (J.length + 1), G, m1 + 2) ⟨by simp only; omega, ?_, g2, by simp only; omega, g3⟩ (by simp) (by repeat (first | exact Agree.mask _ _ | refine Agree.setf rfl ?_ | refine Agree.inner rfl ?_)) (AHeap.le_rfl _) (Nat.le_refl _) (show (liveP D).length - (i + 1) < (liveP D).length - i by omega)
            simp only
            rw [efl]
            exact Or.inr ⟨m1 + 1, by simp, by omega, by omega, by rw [g1]; simp [ints]⟩
      · simp [ik]
        have e9 : (liveP D).take i = (liveP D) := List.take_of_length_le (by omega)
        rw [e9] at i2
        have j3 := j2.grow i3 i5 i4
        obtain ⟨wv, hwv⟩ : ∃ wv, wv = w := ⟨_, rfl⟩
        rw [← hwv] at i2 ⊢
        clear hwv
        change OutI G1 n2 m1 wv (runL D) at i2
        have hwas3 := i2.rowB
        have hscw := i2.sc.1
        have hno : ∀ g, n2 ≤ g → ¬ InM nm2 D g := fun g h1 h2 => by have := hin2 g h2; omega
        simp [hk, aindex, hP, pickC, aload, apart, afield]
        refine CondP.intro (fun ht => ?_) (fun ht => ?_)
        · simp
          have htk := (tick_ac j3.at' j3.good (by omega)).freshN
          rw [j3.mach] at htk
          refine ACK.use htk ?_
          intro u η4 n4 ⟨⟨t1, t2⟩, hf4, hn4⟩
          have j4 := j3.nx t2 hf4 j3.good.tick
          obtain ⟨D', hD'⟩ : ∃ D', D' = tickD D := ⟨_, rfl⟩
          obtain ⟨nm4, hnm4⟩ : ∃ nm4, nm4 = nm2 := ⟨_, rfl⟩
          have ewt : wokenL (tickD D) (waitL D) = wantL D (tickD D) 0 := tick_wakes j3.good.inv j4.good.inv rfl rfl 0 (by omega)
          rw [ewt] at t1
          have hwas : RowB η4 n4 wv (runL D) := by
            rcases i2 with e | ⟨g, e1, e2, e3, e4⟩
            · exact Or.inl e
            · exact Or.inr ⟨g, e1, by omega, by rw [t2.keep g e3 (hno g e2), e4]⟩
          have hwoke := t1.rowB
          rw [← hD'] at j4 hwoke
          rw [← hnm4] at j4
          clear hD' hnm4
          have l32' := liveP_len j4.good.inv
          have HFR4 : ∀ q, n4 ≤ q → η4 q = none := j4.fr
          simp
          refine ACK.rt j4.live ?_
          simp
          refine loopK.inv [13, 14, 77, 78, 79, 80, 81, 82, 83, 84, 85, 86, 87, 88, 89, 90, 91, 92, 93, 94, 95, 96, 97, 98, 99, 100, 101, 102, 103, 104, 105, 106, 107, 108, 109, 110, 111, 112] (fun s : Nat × AVal × AHeap × Nat => s.1 ≤ (liveP D').length ∧ OutI s.2.2.1 n4 s.2.2.2 s.2.1 (((liveP D').take s.1).filter (wantB D D' 0)) ∧ (∀ q, q < n4 → s.2.2.1 q = η4 q) ∧ n4 ≤ s.2.2.2 ∧ ∀ q, s.2.2.2 ≤ q → s.2.2.1 q = none) (fun s => [(14, .int .i64 s.1), (13, s.2.1)]) (fun s => s.2.2.1) (fun s => s.2.2.2) (fun s => (liveP D').length - s.1) (0, .nils, η4, n4) ⟨by simp, Or.inl ⟨rfl, rfl⟩, fun _ _ => rfl, Nat.le_refl _, HFR4⟩ (by simp) (AHeap.le_rfl _) (Nat.le_refl _) ?_
          intro ⟨i, w, G1, m1⟩ ⟨i1, i2, i3, i4, i5⟩
          simp only at i1 i2 i3 i4 i5
          simp
          refine CondP.dec (fun ik => ?_) (fun ik => ?_)
          · have ik' : i < (liveP D').length := by omega
            have ewi : IntKind.i64.wrap ((i : Int) + 1) = (i : Int) + 1 := wrap_id (by omega) (by omega)
            have efl := filter_take (f := wantB D D' 0) ik'
            have hJl : (((liveP D').take i).filter (wantB D D' 0)).length ≤ 32 := by
              refine Nat.le_trans (List.length_filter_le _ _) ?_
              simp; omega
            have jj := j4.grow i3 i5 i4
            have hwasI : IsL G1 wv (runL D) := hwas.more3 i3
            simp [ik, aindex, aload, apart]
            refine ACK.rt (jj.run _) ?_
            have hwb : wantB D D' 0 (liveP D')[i] = (runnableP D' (liveP D')[i] && ((liveP D')[i] != 0 && !(runL D).contains (liveP D')[i])) := rfl
            rw [hwb] at efl
            cases hr : runnableP D' (liveP D')[i] with
            | false =>
              rw [hr] at efl
              simp at efl
              simp [ewi]
              refine endK.intro (i + 1, w, G1, m1) ⟨by simp only; omega, ?_, i3, i4, i5⟩ (by simp) (by repeat (first | exact Agree.mask _ _ | refine Agree.setf rfl ?_ | refine Agree.inner rfl ?_)) (AHeap.le_rfl _) (Nat.le_refl _) (show (liveP D').length - (i + 1) < (liveP D').length - i by omega)
              simp only
              rw [efl]; simpa using i2
            | true =>
              rw [hr] at efl
              by_cases hpd : (liveP D')[i] = 0
              · simp [hpd] at efl
                simp [aindex, ik', aload, apart, hpd, ewi]
                refine endK.intro (i + 1, w, G1, m1) ⟨by simp only; omega, ?_, i3, i4, i5⟩ (by simp) (by repeat (first | exact Agree.mask _ _ | refine Agree.setf rfl ?_ | refine Agree.inner rfl ?_)) (AHeap.le_rfl _) (Nat.le_refl _) (show (liveP D').length - (i + 1) < (liveP D').length - i by omega)
                simp only
                rw [efl]; simpa using i2
              · simp [aindex, ik', aload, apart, hpd]
                refine ACK.rt (has_ac hwasI (by have := List.length_filter_le (runnableP D) (liveP D); unfold runL; omega) _) ?_
                cases hc : (runL D).contains (liveP D')[i] with
                | true =>
                  rw [hc] at efl
                  simp at efl
                  simp [ewi]
                  refine endK.intro (i + 1, w, G1, m1) ⟨by simp only; omega, ?_, i3, i4, i5⟩ (by simp) (by repeat (first | exact Agree.mask _ _ | refine Agree.setf rfl ?_ | refine Agree.inner rfl ?_)) (AHeap.le_rfl _) (Nat.le_refl _) (show (liveP D').length - (i + 1) < (liveP D').length - i by omega)
                  simp only
                  rw [efl]; simpa using i2
                | false =>
                  rw [hc] at efl
                  have hne : ((liveP D')[i] != 0) = true := by simpa using hpd
                  rw [hne] at efl
                  simp only [Bool.not_false, Bool.and_self, if_true] at efl
                  revert i2 efl hJl
                  generalize ((liveP D').take i).filter (wantB D D' 0) = J
                  intro i2 hJl efl
                  simp [aindex, ik', aload, apart]
                  have hlenJ : J.length ≤ 32 := by omega
                  rcases i2 with ⟨rfl, rfl⟩ | ⟨g, rfl, c6, c7, c8⟩
                  · simp [ewi, upd_apply, Nat.add_assoc, abuildS, afillP, tek, chunk, appK, aappend, arows, lenMax]
                    refine endK.heap fun G hG => ?_
                    have g1 : G (m1 + 1) = some (.cells 1 [[.int .i64 (liveP D')[i]]]) := by rw [hG]; simp [upd_apply]
                    have g2 : ∀ q, q < n4 → G q = η4 q := fun q hq => by
                      rw [hG]; simp only [upd_apply]
                      repeat rw [if_neg (by omega)]
                      exact i3 q hq
                    have g3 : ∀ q, m1 + 2 ≤ q → G q = none := fun q hq => by
                      rw [hG]; simp only [upd_apply]
                      repeat rw [if_neg (by omega)]
                      exact i5 q (by omega)
                    refine endK.intro (i + 1, .sl (m1 + 1) 0 1, G, m1 + 2) ⟨by simp only; omega, ?_, g2, by simp only; omega, g3⟩ (by simp) (by repeat (first | exact Agree.mask _ _ | refine Agree.setf rfl ?_ | refine Agree.inner rfl ?_)) (AHeap.le_rfl _) (Nat.le_refl _) (show (liveP D').length - (i + 1) < (liveP D').length - i by omega)
                    simp only
                    rw [efl]
                    exact Or.inr ⟨m1 + 1, by simp, by omega, by omega, by rw [g1]; simp [ints]⟩
                  · have y5 : ¬ g = m1 := by omega
                    have y6 : ∀ k, ¬ g = m1 + k := fun k => by omega
                    have hb1 : (J.length + 1) * 8 ≤ 140737488355328 := by omega
                    have hb2 : J.length + 1 ≤ 17592186044416 := by omega
                    have etk : List.take J.length (ints J) = ints J := List.take_of_length_le (by simp)
                    simp [ewi, upd_apply, Nat.add_assoc, abuildS, afillP, tek, chunk, appK, aappend, arows, lenMax, y5, c8, hb1, hb2, etk]
                    refine endK.heap fun G hG => ?_
                    have g1 : G (m1 + 1) = some (.cells 1 (ints J ++ [[.int .i64 (liveP D')[i]]])) := by rw [hG]; simp [upd_apply]
                    have g2 : ∀ q, q < n4 → G q = η4 q := fun q hq => by
                      rw [hG]; simp only [upd_apply]
                      repeat rw [if_neg (by omega)]
                      exact i3 q hq
                    have g3 : ∀ q, m1 + 2 ≤ q → G q = none := fun q hq => by
                      rw [hG]; simp only [upd_apply]
                      repeat rw [if_neg (by omega)]
                      exact i5 q (by omega)
                    refine endK.intro (i + 1, .sl (m1 + 1) 0 (J.length + 1), G, m1 + 2) ⟨by simp only; omega, ?_, g2, by simp only; omega, g3⟩ (by simp) (by repeat (first | exact Agree.mask _ _ | refine Agree.setf rfl ?_ | refine Agree.inner rfl ?_)) (AHeap.le_rfl _) (Nat.le_refl _) (show (liveP D').length - (i + 1) < (liveP D').length - i by omega)
                    simp only
                    rw [efl]
                    exact Or.inr ⟨m1 + 1, by simp, by omega, by omega, by rw [g1]; simp [ints]⟩
          · simp [ik]
            have e9 : (liveP D').take i = (liveP D') := List.take_of_length_le (by omega)
            rw [e9] at i2
            have hwk2 : IsL G1 u (wantL D D' 0) := hwoke.more3 i3
            have hw13 : IsL G1 w (wantL D D' 0) := i2.isL
            have hwl : (wantL D D' 0).length ≤ 32 := Nat.le_trans (List.length_filter_le _ _) l32'
            refine ACK.rt (sameLongs_ac hwk2 hw13 (by omega)) ?_
            simp [ewk]
            exact endK.intro (k + 1, nm4, D', G1, m1) ⟨by simp only; omega, j4.grow i3 i5 i4⟩ (by simp) (by repeat (first | exact Agree.mask _ _ | refine Agree.setf rfl ?_ | refine Agree.inner rfl ?_)) (AHeap.le_rfl _) (Nat.le_refl _) (show L.length - (k + 1) < L.length - k by omega)
        · simp
          have hw := fun η n => which_ac (η := η) (n := n) (t, r, N) (liveP D) (by omega)
          obtain ⟨pid, hpid⟩ : ∃ pid, whichF (t, r, N) (liveP D) = pid := ⟨_, rfl⟩
          simp only [pickC, hpid] at hw
          simp [hk', aindex, hP, pickC, aload, apart]
          refine ACK.rt (hw _ _) ?_
          simp
          refine ACK.use (j3.do (by omega) pid) ?_
          intro dv η4 n4 ⟨nm4, D', l, e, u, ev, hu, hdo, j4, hn4, hkeep⟩
          subst ev
          have el := hdo.want j3.good
          subst el
          have hwas : RowB η4 n4 wv (runL D) := by
            rcases i2 with e | ⟨g, e1, e2, e3, e4⟩
            · exact Or.inl e
            · exact Or.inr ⟨g, e1, by omega, by rw [hkeep g e3 (hno g e2), e4]⟩
          have hwoke := hu.rowB
          have l32' := liveP_len j4.good.inv
          have HFR4 : ∀ q, n4 ≤ q → η4 q = none := j4.fr
          simp
          refine ACK.rt j4.live ?_
          simp
          refine loopK.inv [13, 14, 77, 78, 79, 80, 81, 82, 83, 84, 85, 86, 87, 88, 89, 90, 91, 92, 93, 94, 95, 96, 97, 98, 99, 100, 101, 102, 103, 104, 105, 106, 107, 108, 109, 110, 111, 112] (fun s : Nat × AVal × AHeap × Nat => s.1 ≤ (liveP D').length ∧ OutI s.2.2.1 n4 s.2.2.2 s.2.1 (((liveP D').take s.1).filter (wantB D D' pid)) ∧ (∀ q, q < n4 → s.2.2.1 q = η4 q) ∧ n4 ≤ s.2.2.2 ∧ ∀ q, s.2.2.2 ≤ q → s.2.2.1 q = none) (fun s => [(14, .int .i64 s.1), (13, s.2.1)]) (fun s => s.2.2.1) (fun s => s.2.2.2) (fun s => (liveP D').length - s.1) (0, .nils, η4, n4) ⟨by simp, Or.inl ⟨rfl, rfl⟩, fun _ _ => rfl, Nat.le_refl _, HFR4⟩ (by simp) (AHeap.le_rfl _) (Nat.le_refl _) ?_
          intro ⟨i, w, G1, m1⟩ ⟨i1, i2, i3, i4, i5⟩
          simp only at i1 i2 i3 i4 i5
          simp
          refine CondP.dec (fun ik => ?_) (fun ik => ?_)
          · have ik' : i < (liveP D').length := by omega
            have ewi : IntKind.i64.wrap ((i : Int) + 1) = (i : Int) + 1 := wrap_id (by omega) (by omega)
            have efl := filter_take (f := wantB D D' pid) ik'
            have hJl : (((liveP D').take i).filter (wantB D D' pid)).length ≤ 32 := by
              refine Nat.le_trans (List.length_filter_le _ _) ?_
              simp; omega
            have jj := j4.grow i3 i5 i4
            have hwasI : IsL G1 wv (runL D) := hwas.more3 i3
            simp [ik, aindex, aload, apart]
            refine ACK.rt (jj.run _) ?_
            have hwb : wantB D D' pid (liveP D')[i] = (runnableP D' (liveP D')[i] && ((liveP D')[i] != pid && !(runL D).contains (liveP D')[i])) := rfl
            rw [hwb] at efl
            cases hr : runnableP D' (liveP D')[i] with
            | false =>
              rw [hr] at efl
              simp at efl
              simp [ewi]
              refine endK.intro (i + 1, w, G1, m1) ⟨by simp only; omega, ?_, i3, i4, i5⟩ (by simp) (by repeat (first | exact Agree.mask _ _ | refine Agree.setf rfl ?_ | refine Agree.inner rfl ?_)) (AHeap.le_rfl _) (Nat.le_refl _) (show (liveP D').length - (i + 1) < (liveP D').length - i by omega)
              simp only
              rw [efl]; simpa using i2
            | true =>
              rw [hr] at efl
              by_cases hpd : (liveP D')[i] = pid
              · simp [hpd] at efl
                simp [aindex, ik', aload, apart, hpd, ewi]
                refine endK.intro (i + 1, w, G1, m1) ⟨by simp only; omega, ?_, i3, i4, i5⟩ (by simp) (by repeat (first | exact Agree.mask _ _ | refine Agree.setf rfl ?_ | refine Agree.inner rfl ?_)) (AHeap.le_rfl _) (Nat.le_refl _) (show (liveP D').length - (i + 1) < (liveP D').length - i by omega)
                simp only
                rw [efl]; simpa using i2
              · simp [aindex, ik', aload, apart, hpd]
                refine ACK.rt (has_ac hwasI (by have := List.length_filter_le (runnableP D) (liveP D); unfold runL; omega) _) ?_
                cases hc : (runL D).contains (liveP D')[i] with
                | true =>
                  rw [hc] at efl
                  simp at efl
                  simp [ewi]
                  refine endK.intro (i + 1, w, G1, m1) ⟨by simp only; omega, ?_, i3, i4, i5⟩ (by simp) (by repeat (first | exact Agree.mask _ _ | refine Agree.setf rfl ?_ | refine Agree.inner rfl ?_)) (AHeap.le_rfl _) (Nat.le_refl _) (show (liveP D').length - (i + 1) < (liveP D').length - i by omega)
                  simp only
                  rw [efl]; simpa using i2
                | false =>
                  rw [hc] at efl
                  have hne : ((liveP D')[i] != pid) = true := by simpa using hpd
                  rw [hne] at efl
                  simp only [Bool.not_false, Bool.and_self, if_true] at efl
                  revert i2 efl hJl
                  generalize ((liveP D').take i).filter (wantB D D' pid) = J
                  intro i2 hJl efl
                  simp [aindex, ik', aload, apart]
                  have hlenJ : J.length ≤ 32 := by omega
                  rcases i2 with ⟨rfl, rfl⟩ | ⟨g, rfl, c6, c7, c8⟩
                  · simp [ewi, upd_apply, Nat.add_assoc, abuildS, afillP, tek, chunk, appK, aappend, arows, lenMax]
                    refine endK.heap fun G hG => ?_
                    have g1 : G (m1 + 1) = some (.cells 1 [[.int .i64 (liveP D')[i]]]) := by rw [hG]; simp [upd_apply]
                    have g2 : ∀ q, q < n4 → G q = η4 q := fun q hq => by
                      rw [hG]; simp only [upd_apply]
                      repeat rw [if_neg (by omega)]
                      exact i3 q hq
                    have g3 : ∀ q, m1 + 2 ≤ q → G q = none := fun q hq => by
                      rw [hG]; simp only [upd_apply]
                      repeat rw [if_neg (by omega)]
                      exact i5 q (by omega)
                    refine endK.intro (i + 1, .sl (m1 + 1) 0 1, G, m1 + 2) ⟨by simp only; omega, ?_, g2, by simp only; omega, g3⟩ (by simp) (by repeat (first | exact Agree.mask _ _ | refine Agree.setf rfl ?_ | refine Agree.inner rfl ?_)) (AHeap.le_rfl _) (Nat.le_refl _) (show (liveP D').length - (i + 1) < (liveP D').length - i by omega)
                    simp only
                    rw [efl]
                    exact Or.inr ⟨m1 + 1, by simp, by omega, by omega, by rw [g1]; simp [ints]⟩
                  · have y5 : ¬ g = m1 := by omega
                    have y6 : ∀ k, ¬ g = m1 + k := fun k => by omega
                    have hb1 : (J.length + 1) * 8 ≤ 140737488355328 := by omega
                    have hb2 : J.length + 1 ≤ 17592186044416 := by omega
                    have etk : List.take J.length (ints J) = ints J := List.take_of_length_le (by simp)
                    simp [ewi, upd_apply, Nat.add_assoc, abuildS, afillP, tek, chunk, appK, aappend, arows, lenMax, y5, c8, hb1, hb2, etk]
                    refine endK.heap fun G hG => ?_
                    have g1 : G (m1 + 1) = some (.cells 1 (ints J ++ [[.int .i64 (liveP D')[i]]])) := by rw [hG]; simp [upd_apply]
                    have g2 : ∀ q, q < n4 → G q = η4 q := fun q hq => by
                      rw [hG]; simp only [upd_apply]
                      repeat rw [if_neg (by omega)]
                      exact i3 q hq
                    have g3 : ∀ q, m1 + 2 ≤ q → G q = none := fun q hq => by
                      rw [hG]; simp only [upd_apply]
                      repeat rw [if_neg (by omega)]
                      exact i5 q (by omega)
                    refine endK.intro (i + 1, .sl (m1 + 1) 0 (J.length + 1), G, m1 + 2) ⟨by simp only; omega, ?_, g2, by simp only; omega, g3⟩ (by simp) (by repeat (first | exact Agree.mask _ _ | refine Agree.setf rfl ?_ | refine Agree.inner rfl ?_)) (AHeap.le_rfl _) (Nat.le_refl _) (show (liveP D').length - (i + 1) < (liveP D').length - i by omega)
                    simp only
                    rw [efl]
                    exact Or.inr ⟨m1 + 1, by simp, by omega, by omega, by rw [g1]; simp [ints]⟩
          · simp [ik]
            have e9 : (liveP D').take i = (liveP D') := List.take_of_length_le (by omega)
            rw [e9] at i2
            have hwk2 : IsL G1 u (wantL D D' pid) := hwoke.more3 i3
            have hw13 : IsL G1 w (wantL D D' pid) := i2.isL
            have hwl : (wantL D D' pid).length ≤ 32 := Nat.le_trans (List.length_filter_le _ _) l32'
            refine ACK.rt (sameLongs_ac hwk2 hw13 (by omega)) ?_
            simp [ewk]
            exact endK.intro (k + 1, nm4, D', G1, m1) ⟨by simp only; omega, j4.grow i3 i5 i4⟩ (by simp) (by repeat (first | exact Agree.mask _ _ | refine Agree.setf rfl ?_ | refine Agree.inner rfl ?_)) (AHeap.le_rfl _) (Nat.le_refl _) (show L.length - (k + 1) < L.length - k by omega)
    · simp [hk]
      refine resK.of (η' := η) (le_old hf fun q hq => ?_) _ (Nat.le_refl _) ⟨rfl, rfl⟩
      rw [j2.keep q (by omega), upd_ne (by omega)]
  · unfold NewK at hv
    rw [if_neg h0] at hv
    obtain ⟨rfl, hk, _⟩ := hv
    simp [fltV, aload, apart, afield, astore, upd_apply, upd_upd, h0]
    refine resK.of (η' := η) (le_old hf fun q hq => ?_) _ (Nat.le_refl _) ⟨rfl, rfl⟩
    rw [upd_ne (by omega), hk q (by omega), upd_ne (by omega)]
end Go.Proofs.YtbomkomipaipmaaGreat
