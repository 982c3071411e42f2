/- Layer 16 (machine): MachineEnds, walked. -/
import Derived.Test.YtbomkomipaipmaaGreatVj
namespace Go.Proofs.YtbomkomipaipmaaGreat
@[simp] theorem hb23 : HB Tryz.prog 23 = true := by kernel_rfl
@[simp] theorem ares10 (s : AState) : ares Tryz.prog Tryz.f10 s = resV Tryz.prog s (.tmp 6) := ares_one Tryz.results10 s
@[simp] theorem ares23 (s : AState) : ares Tryz.prog Tryz.f23 s = resV Tryz.prog s (.tmp 4) := ares_one Tryz.results23 s
/-- a step of a script -/
def DoesR (D D' : MD) (e : Int) : Prop := (D' = tickD D ∧ e = 0) ∨ ∃ pid l, DoR D pid D' l e
set_option maxHeartbeats 4000000 in
theorem MLI.does {η0 η : AHeap} {n0 mm k n : Nat} {nm : Role → Nat} {D : MD} (h : MLI η0 n0 mm k nm D η n) (hk : k ≤ 5000) (p : Pk) : AC Tryz.prog 23 [.ptr mm 0 0, .agg (pickC p)] η n (fun v η' n' => ∃ nm' D' e, v = .int .i64 e ∧ DoesR D D' e ∧ MLI η0 n0 mm (k + 1) nm' D' η' n' ∧ n ≤ n' ∧ ∀ q, q < n → ¬ InM nm D q → η' q = η q) := by
  obtain ⟨t, r, N⟩ := p
  have l32 := liveP_len h.good.inv
  have hw := fun η n => which_ac (η := η) (n := n) (t, r, N) (liveP D) (by omega)
  simp only [pickC] at hw ⊢
  refine AC.fresh fun hf => ?_; refine AC.enter Tryz.func23 rfl Tryz.ntmps23 (by simp) ?_
  have j2 := h.grow (η' := upd η n (some (.cells 3 [[.bool t, .bool r, .int .i64 N]]))) (n' := n + 1) (fun q hq => upd_ne (by omega)) (fun q hq => by rw [upd_ne (by omega)]; exact hf q (by omega)) (by omega)
  simp [aload, apart, afield, upd_eq]
  refine CondP.intro (fun ht => ?_) (fun ht => ?_)
  · simp
    have htk := (tick_ac j2.at' j2.good hk).freshN
    rw [j2.mach] at htk
    refine ACK.use htk ?_
    intro u η4 n4 ⟨⟨t1, t2⟩, hf4, hn4⟩
    have j4 := j2.nx t2 hf4 j2.good.tick
    simp
    refine resK.rt ⟨nm, tickD D, 0, rfl, Or.inl ⟨rfl, rfl⟩, j4, by omega, fun q h1 h2 => ?_⟩
    rw [t2.keep q (by omega) h2, upd_ne (by omega)]
  · simp
    obtain ⟨pid, hpid⟩ : ∃ pid, whichF (t, r, N) (liveP D) = pid := ⟨_, rfl⟩
    simp only [hpid] at hw
    refine drawK.intro mixed [(0, []), (1, []), (2, []), (3, [1]), (4, []), (5, []), (6, []), (7, []), (8, []), (9, []), (10, [])] (by kernel_rfl) ?_
    simp [lk_some, chkK, aload, apart, upd_eq]
    refine ACK.rt j2.live ?_
    simp [upd_eq]
    refine ACK.rt (hw _ _) ?_
    simp
    refine ACK.use (j2.do hk pid) ?_
    intro dv η4 n4 ⟨nm4, D', l, e, u, ev, hu, hdo, j4, hn4, hkeep⟩
    subst ev
    simp
    refine resK.rt ⟨nm4, D', e, rfl, Or.inr ⟨pid, l, hdo⟩, j4, by omega, fun q h1 h2 => ?_⟩
    rw [hkeep q (by omega) h2, upd_ne (by omega)]
theorem lookF_at {D : MD} (h : MInv D) {i : Nat} {p : PD} (hp : D.ps[i]? = some p) : lookF D p.pid = if p.dead = true then (sta0, [], false) else (p.st, p.box, true) := by
  unfold lookF
  cases hd : p.dead with
  | false => rw [atP_eq h.pidU hp hd]; simp only [hp]; rfl
  | true =>
    cases ha : atP D.ps p.pid with
    | none => rfl
    | some j =>
      obtain ⟨q, h1, h2, h3⟩ := atP_some ha
      have := h.uniq h1 hp h3
      subst this
      rw [hp] at h1; cases h1
      rw [hd] at h2; cases h2
end Go.Proofs.YtbomkomipaipmaaGreat
namespace Go.Proofs.YtbomkomipaipmaaGreat
set_option maxRecDepth 100000

def runB (D : MD) : Bool := (liveP D).any (runnableP D)
def untilB (D : MD) : Bool := (liveP D).any fun x => decide (0 ≤ (lookF D x).1.till)
/-- nobody goes on, and nobody waits for a time -/
def Still (D : MD) : Prop := ∀ p ∈ D.ps, goesP D p = false
theorem liveP_nil {D : MD} (h : MInv D) : liveP D = [] ↔ liveL D.ps 0 = [] := by
  constructor
  · intro e
    refine List.eq_nil_iff_forall_not_mem.2 fun x hx => ?_
    obtain ⟨j, p, a1, a2, _⟩ := (liveL_mem D.ps 0 x).1 hx
    have := (h.liveM p.pid).2 ⟨j, p, a1, a2, rfl⟩
    rw [e] at this; simp at this
  · intro e
    refine List.eq_nil_iff_forall_not_mem.2 fun x hx => ?_
    obtain ⟨j, p, a1, a2, _⟩ := (h.liveM x).1 hx
    have := (liveL_mem D.ps 0 (p.pid, 0 + j)).2 ⟨j, p, a1, a2, rfl⟩
    rw [e] at this; simp at this
theorem still_iff {D : MD} (h : MInv D) : (runB D || untilB D) = false ↔ Still D := by
  constructor
  · intro e p hp
    rw [Bool.or_eq_false_iff] at e
    obtain ⟨j, hj, rfl⟩ := List.getElem_of_mem hp
    have hq : D.ps[j]? = some D.ps[j] := List.getElem?_eq_getElem hj
    cases hd : D.ps[j].dead with
    | true => simp [goesP, hd]
    | false =>
      have hm := (h.liveM D.ps[j].pid).2 ⟨j, _, hq, hd, rfl⟩
      have e1 := List.any_eq_false.1 e.1 _ hm
      have e2 := List.any_eq_false.1 e.2 _ hm
      rw [runnableP_eq h hq hd] at e1
      rw [lookF_at h hq] at e2
      simp [hd] at e2
      simp only [Bool.not_eq_true] at e1
      simp [goesP, hd, e1]
      exact e2
  · intro hs
    rw [Bool.or_eq_false_iff]
    refine ⟨List.any_eq_false.2 fun x hx => ?_, List.any_eq_false.2 fun x hx => ?_⟩
    · obtain ⟨j, p, a1, a2, rfl⟩ := (h.liveM x).1 hx
      have := hs p (List.mem_of_getElem? a1)
      simp [goesP, a2] at this
      rw [runnableP_eq h a1 a2, this.2]; simp
    · obtain ⟨j, p, a1, a2, rfl⟩ := (h.liveM x).1 hx
      have := hs p (List.mem_of_getElem? a1)
      simp [goesP, a2] at this
      rw [lookF_at h a1]
      simp [a2]
      exact this.1
theorem any_goes {D : MD} : D.ps.any (goesP D) = false ↔ Still D := by
  rw [List.any_eq_false]
  constructor
  · intro h p hp; simpa using h p hp
  · intro h p hp; rw [h p hp]; simp
theorem endF_eq {D : MD} (h : MInv D) : endF D = if liveP D = [] then 1 else if (runB D || untilB D) = true then 0 else 2 := by
  unfold endF
  by_cases h1 : liveP D = []
  · rw [if_pos ((liveP_nil h).1 h1), if_pos h1]
  · rw [if_neg (fun e => h1 ((liveP_nil h).2 e)), if_neg h1]
    cases hb : (runB D || untilB D) with
    | false => rw [any_goes.2 ((still_iff h).1 hb)]
    | true =>
      have : D.ps.any (goesP D) = true := by
        cases hx : D.ps.any (goesP D) with
        | true => rfl
        | false => rw [(still_iff h).2 (any_goes.1 hx)] at hb; cases hb
      rw [this]
/-- time changes nothing where all is still -/
theorem readyP_tick {D : MD} {p : PD} (ht : p.st.till < 0) : readyP (tickD D) p = readyP D p := by
  unfold readyP tickD
  simp only
  congr 1
  unfold readyF
  have hd : ∀ now, dueF p.st.till now = false := fun now => by unfold dueF; simp; omega
  simp only [hd]
theorem Still.tick {D : MD} (h : Still D) : Still (tickD D) := fun p hp => by
  have := h p hp
  cases hd : p.dead with
  | true => simp [goesP, hd]
  | false =>
    simp [goesP, hd] at this
    simp only [goesP, hd]
    rw [readyP_tick (by omega), this.2]
    simp; omega
theorem Still.woken {D : MD} (h : Still D) (is : List Nat) : wokenL (tickD D) is = [] := by
  refine List.eq_nil_iff_forall_not_mem.2 fun x hx => ?_
  obtain ⟨i, _, p, h1, h2, h3, _⟩ := wokenL_mem.1 hx
  have := h.tick p (List.mem_of_getElem? h1)
  simp [goesP, h2, h3] at this
theorem Still.end {D : MD} (h : Still D) : endF D = if liveL D.ps 0 = [] then 1 else 2 := by
  unfold endF
  rw [any_goes.2 h]; simp
theorem urem50 (a : Int) : ∃ k : Nat, k < 50 ∧ IntKind.i64.wrap ((IntKind.u64.wrap a).tmod 50) = (k : Int) := by
  have h := modI_nat (a := a) (n := 50) (by omega) (by omega)
  unfold modI at h
  rwa [show IntKind.u64.wrap ((50 : Nat) : Int) = 50 from by rw [uW]; rfl] at h
set_option maxHeartbeats 16000000 in
theorem ends_ac (m : List Actr) (sc : List Pk) (ticks : Int) (h64 : Mod64 m) (hsc : sc.length ≤ 17592186044416) (η : AHeap) (n : Nat) : AC Tryz.prog 10 [modV m, .rs 3 (pkR sc), .int .i64 ticks] η n (Rt (.bool true) η n) := by
  refine AC.pure (.bool _) ?_
  have hnew := fun η n => mnew16_ac (η := η) (n := n) h64
  simp only [modV] at hnew ⊢
  refine AC.fresh fun hf => ?_; refine AC.enter Tryz.func10 rfl Tryz.ntmps10 (by simp) ?_
  simp
  refine ACK.rt lives_ac ?_
  simp
  refine ACK.rt (early_ac sc hsc) ?_
  obtain ⟨L, hL⟩ : ∃ L, L = sc.take 1000 := ⟨_, rfl⟩
  have hLl : L.length ≤ 1000 := by rw [hL]; simp; omega
  rw [← hL]
  clear hL
  simp [aload, apart, upd_apply]
  refine ACK.use (hnew _ _).freshN ?_
  intro v η1 n1 ⟨hv, hf1, hn1⟩
  by_cases h0 : (checkF m).1 = 0
  · obtain ⟨nm, rfl, hI⟩ := MLI.start h0 hv hf1
    simp [fltV, aload, apart, afield, astore, upd_apply, upd_upd]
    have hI0 := hI.grow (η' := upd η1 n1 (some (.cells 3 [[.int .i64 0, .int .i64 0, .int .i64 0]]))) (n' := n1 + 1) (fun q hq => upd_ne (by omega)) (fun q hq => by rw [upd_ne (by omega)]; exact hf1 q (by omega)) (by omega)
    obtain ⟨mm, hmm⟩ : ∃ mm, mm = nm .mach := ⟨_, rfl⟩
    rw [← hmm] at hI0 ⊢
    refine loopK.inv [9, 36, 37, 38, 39, 40, 41, 42, 43, 44, 45, 46, 47] (fun s : Nat × (Role → Nat) × MD × AHeap × Nat => s.1 ≤ L.length ∧ MLI (upd η n (some (.cells 1 [[.rs 5 (actsC m)]]))) (n + 1) mm s.1 s.2.1 s.2.2.1 s.2.2.2.1 s.2.2.2.2) (fun s => [(9, .int .i64 s.1)]) (fun s => s.2.2.2.1) (fun s => s.2.2.2.2) (fun s => L.length - s.1) (0, nm, newD m, upd η1 n1 (some (.cells 3 [[.int .i64 0, .int .i64 0, .int .i64 0]])), n1 + 1) ⟨by simp, hI0⟩ (by simp) (AHeap.le_rfl _) (Nat.le_refl _) ?_
    intro ⟨k, nm2, D, η2, n2⟩ ⟨j1, j3⟩
    simp only at j1 j3
    simp
    refine CondP.dec (fun hk => ?_) (fun hk => ?_)
    · have hk' : k < L.length := by omega
      have ewk : IntKind.i64.wrap ((k : Int) + 1) = (k : Int) + 1 := wrap_id (by omega) (by omega)
      obtain ⟨P, hP⟩ : ∃ P, L[k] = P := ⟨_, rfl⟩
      have hdoes := j3.does (by omega) P
      obtain ⟨t, r, N⟩ := P
      simp only [pickC] at hdoes
      simp [hk, aindex, hP, pickC, aload, apart]
      refine ACK.use hdoes ?_
      intro dv η4 n4 ⟨nm4, D', e, ev, hdr, j4, hn4, _⟩
      subst ev
      simp [ewk]
      exact endK.intro (k + 1, nm4, D', η4, n4) ⟨by simp only; omega, j4⟩ (by simp) (by repeat (first | exact Agree.mask _ _ | refine Agree.setf rfl ?_ | refine Agree.inner rfl ?_)) (AHeap.le_rfl _) (Nat.le_refl _) (show L.length - (k + 1) < L.length - k by omega)
    · have ek : k = L.length := by omega
      have hi := j3.good.inv
      have l32 := liveP_len hi
      have hnum := j3.good.num
      have houts : ∀ p ∈ D.ps, p.out.length ≤ 1000000 := fun p hp => by have := j3.good.out p hp; omega
      simp [hk]
      refine ACK.rt j3.end ?_
      simp
      refine ACK.rt j3.live ?_
      simp
      refine loopK.inv [12, 13, 14, 15, 16, 17, 52, 53, 54, 55, 56, 57, 58, 59, 60, 61, 62, 63, 64, 65, 66, 67, 68, 69, 70, 71, 72, 73, 74, 75, 76, 77, 78, 79, 80, 81, 82] (fun s : Nat × Bool × Bool × AHeap × Nat => s.1 ≤ (liveP D).length ∧ s.2.1 = ((liveP D).take s.1).any (runnableP D) ∧ s.2.2.1 = (((liveP D).take s.1).any fun x => decide (0 ≤ (lookF D x).1.till)) ∧ MLI (upd η n (some (.cells 1 [[.rs 5 (actsC m)]]))) (n + 1) mm k nm2 D s.2.2.2.1 s.2.2.2.2) (fun s => [(14, .int .i64 s.1), (12, .bool s.2.1), (13, .bool s.2.2.1)]) (fun s => s.2.2.2.1) (fun s => s.2.2.2.2) (fun s => (liveP D).length - s.1) (0, false, false, η2, n2) ⟨by simp, by simp, by simp, j3⟩ (by simp) (AHeap.le_rfl _) (Nat.le_refl _) ?_
      intro ⟨i, run, unt, G, g⟩ ⟨i1, i2, i3, i4⟩
      simp only at i1 i2 i3 i4
      simp
      refine CondP.dec (fun ik => ?_) (fun ik => ?_)
      · have ik' : i < (liveP D).length := by omega
        have ewi : IntKind.i64.wrap ((i : Int) + 1) = (i : Int) + 1 := wrap_id (by omega) (by omega)
        have er : ((liveP D).take (i + 1)).any (runnableP D) = (run || runnableP D (liveP D)[i]) := by
          rw [List.take_succ_eq_append_getElem ik', List.any_append, ← i2]; simp
        have eu : (((liveP D).take (i + 1)).any fun x => decide (0 ≤ (lookF D x).1.till)) = (unt || decide (0 ≤ (lookF D (liveP D)[i]).1.till)) := by
          rw [List.take_succ_eq_append_getElem ik', List.any_append, ← i3]; simp
        simp [ik, aindex, aload, apart]
        refine ACK.rt (i4.look _) ?_
        obtain ⟨lk, hlk⟩ : ∃ lk, lookF D (liveP D)[i] = lk := ⟨_, rfl⟩
        rw [hlk] at eu
        rw [hlk]
        simp [lookV, stV, stC, astore, upd_apply, upd_upd]
        obtain ⟨H, hH⟩ : ∃ H, H = upd G g (some (.cells 6 [[.int .i64 lk.1.actor, .int .i64 lk.1.pc, .rs 1 (ints lk.1.stack), .rs 1 (ints lk.1.regs), .bool lk.1.waiting, .int .i64 lk.1.till]])) := ⟨_, rfl⟩
        have hHg : H g = some (.cells 6 [[.int .i64 lk.1.actor, .int .i64 lk.1.pc, .rs 1 (ints lk.1.stack), .rs 1 (ints lk.1.regs), .bool lk.1.waiting, .int .i64 lk.1.till]]) := by rw [hH]; exact upd_eq _ _ _
        have jj := i4.grow (η' := H) (n' := g + 1) (fun q hq => by rw [hH, upd_ne (by omega)]) (fun q hq => by rw [hH, upd_ne (by omega)]; exact i4.fr q (by omega)) (by omega)
        rw [← hH]
        clear hH
        cases run with
        | true =>
          simp only [Bool.true_or] at er
          cases unt with
          | true =>
            simp only [Bool.true_or] at eu
            simp [ewi]
            exact endK.intro (i + 1, true, true, H, g + 1) ⟨by simp only; omega, er.symm, eu.symm, jj⟩ (by simp) (by repeat (first | exact Agree.mask _ _ | refine Agree.setf rfl ?_ | refine Agree.inner rfl ?_)) (AHeap.le_rfl _) (Nat.le_refl _) (show (liveP D).length - (i + 1) < (liveP D).length - i by omega)
          | false =>
            simp only [Bool.false_or] at eu
            simp [ewi, aload, apart, afield, hHg]
            exact endK.intro (i + 1, true, decide (0 ≤ lk.1.till), H, g + 1) ⟨by simp only; omega, er.symm, eu.symm, jj⟩ (by simp) (by repeat (first | exact Agree.mask _ _ | refine Agree.setf rfl ?_ | refine Agree.inner rfl ?_)) (AHeap.le_rfl _) (Nat.le_refl _) (show (liveP D).length - (i + 1) < (liveP D).length - i by omega)
        | false =>
          simp only [Bool.false_or] at er
          simp [aindex, ik', aload, apart]
          refine ACK.rt (jj.run _) ?_
          cases unt with
          | true =>
            simp only [Bool.true_or] at eu
            simp [ewi]
            exact endK.intro (i + 1, runnableP D (liveP D)[i], true, H, g + 1) ⟨by simp only; omega, er.symm, eu.symm, jj⟩ (by simp) (by repeat (first | exact Agree.mask _ _ | refine Agree.setf rfl ?_ | refine Agree.inner rfl ?_)) (AHeap.le_rfl _) (Nat.le_refl _) (show (liveP D).length - (i + 1) < (liveP D).length - i by omega)
          | false =>
            simp only [Bool.false_or] at eu
            simp [ewi, aload, apart, afield, hHg]
            exact endK.intro (i + 1, runnableP D (liveP D)[i], decide (0 ≤ lk.1.till), H, g + 1) ⟨by simp only; omega, er.symm, eu.symm, jj⟩ (by simp) (by repeat (first | exact Agree.mask _ _ | refine Agree.setf rfl ?_ | refine Agree.inner rfl ?_)) (AHeap.le_rfl _) (Nat.le_refl _) (show (liveP D).length - (i + 1) < (liveP D).length - i by omega)
      · have e9 : (liveP D).take i = liveP D := List.take_of_length_le (by omega)
        rw [e9] at i2 i3
        change run = runB D at i2
        change unt = untilB D at i3
        have hE := endF_eq hi
        rw [← i2, ← i3] at hE
        by_cases hl : liveP D = []
        · have hlen0 : (liveP D).length = 0 := by rw [hl]; rfl
          have hrun : run = false := by rw [i2]; unfold runB; rw [hl]; rfl
          have hunt : unt = false := by rw [i3]; unfold untilB; rw [hl]; rfl
          have hst : Still D := (still_iff hi).1 (by rw [← i2, ← i3, hrun, hunt]; rfl)
          rw [if_pos hl] at hE
          subst hrun hunt
          simp [hE, hl, aeqB]
          refine ACK.rt (i4.all (by omega)) ?_
          simp
          refine ACK.rt i4.now ?_
          obtain ⟨T, hT, eT⟩ := urem50 ticks
          have hnow := i4.good.now
          have ewn : IntKind.i64.wrap (D.now + (T : Int)) = D.now + T := wrap_id (by omega) (by omega)
          simp [aconv, eT]
          refine loopK.inv [6, 21, 119, 120, 121, 122, 123, 124, 125, 126, 127] (fun s : Nat × MD × AHeap × Nat => s.1 ≤ T ∧ MLI (upd η n (some (.cells 1 [[.rs 5 (actsC m)]]))) (n + 1) mm (k + s.1) nm2 s.2.1 s.2.2.1 s.2.2.2 ∧ Still s.2.1 ∧ s.2.1.ps = D.ps ∧ s.2.1.now = D.now + s.1) (fun s => [(21, .int .i64 s.1)]) (fun s => s.2.2.1) (fun s => s.2.2.2) (fun s => T - s.1) (0, D, G, g) ⟨by simp, i4, hst, rfl, by simp⟩ (by simp) (AHeap.le_rfl _) (Nat.le_refl _) ?_
          intro ⟨j, Dj, Gj, gj⟩ ⟨t1, t2, t3, t4, t5⟩
          simp only at t1 t2 t3 t4 t5
          simp
          refine CondP.dec (fun jt => ?_) (fun jt => ?_)
          · have jt' : j < T := by omega
            have ewj : IntKind.i64.wrap ((j : Int) + 1) = (j : Int) + 1 := wrap_id (by omega) (by omega)
            have hnj : (tickD Dj).now = D.now + ((j + 1 : Nat) : Int) := by simp only [tickD]; omega
            simp [jt]
            refine ACK.use (t2.tick (by omega)) ?_
            intro u η5 n5 ⟨o1, o2⟩
            rw [t3.woken] at o1
            have o3 : MLI (upd η n (some (.cells 1 [[.rs 5 (actsC m)]]))) (n + 1) mm (k + (j + 1)) nm2 (tickD Dj) η5 n5 := o2
            rcases o1 with ⟨rfl, _⟩ | ⟨g5, rfl, _⟩
            · simp [ewj]
              exact endK.intro (j + 1, tickD Dj, η5, n5) ⟨by simp only; omega, o3, t3.tick, t4, hnj⟩ (by simp) (by repeat (first | exact Agree.mask _ _ | refine Agree.setf rfl ?_ | refine Agree.inner rfl ?_)) (AHeap.le_rfl _) (Nat.le_refl _) (show T - (j + 1) < T - j by omega)
            · simp [ewj]
              exact endK.intro (j + 1, tickD Dj, η5, n5) ⟨by simp only; omega, o3, t3.tick, t4, hnj⟩ (by simp) (by repeat (first | exact Agree.mask _ _ | refine Agree.setf rfl ?_ | refine Agree.inner rfl ?_)) (AHeap.le_rfl _) (Nat.le_refl _) (show T - (j + 1) < T - j by omega)
          · have jT : j = T := by omega
            subst jT
            have hEj : endF Dj = 1 := by rw [t3.end, t4, ← hst.end, hE]
            have a1 := t2.end
            have a2 := t2.all (by omega)
            have a3 := t2.now
            rw [hEj] at a1
            rw [t4] at a2
            rw [t5] at a3
            simp [jt]
            refine ACK.rt a1 ?_
            simp
            refine ACK.rt a2 ?_
            simp
            refine ACK.rt (sameTold_ac _ (by omega) houts) ?_
            simp
            refine ACK.rt a3 ?_
            simp [ewn]
            refine resK.of (η' := η) (le_old hf fun q hq => ?_) _ (Nat.le_refl _) ⟨rfl, rfl⟩
            rw [t2.keep q (by omega), upd_ne (by omega)]
        · have hlen0 : 0 < (liveP D).length := List.length_pos_iff.2 hl
          rw [if_neg hl] at hE
          cases hb : (run || unt) with
          | true =>
            rw [hb] at hE
            simp only [if_true] at hE
            have hpl : ¬ (liveP D).length = 0 := by omega
            cases run with
            | true =>
              simp [ik, hE, hlen0, hpl, aeqB]
              refine resK.of (η' := η) (le_old hf fun q hq => ?_) _ (Nat.le_refl _) ⟨rfl, rfl⟩
              rw [i4.keep q (by omega), upd_ne (by omega)]
            | false =>
              simp only [Bool.false_or] at hb
              subst hb
              simp [ik, hE, hlen0, hpl, aeqB]
              refine resK.of (η' := η) (le_old hf fun q hq => ?_) _ (Nat.le_refl _) ⟨rfl, rfl⟩
              rw [i4.keep q (by omega), upd_ne (by omega)]
          | false =>
            rw [hb] at hE
            have hb2 := hb
            rw [Bool.or_eq_false_iff] at hb
            obtain ⟨hb1, hb3⟩ := hb
            have hst : Still D := (still_iff hi).1 (by rw [← i2, ← i3]; exact hb2)
            simp only [Bool.false_eq_true, if_false] at hE
            have hpl : ¬ (liveP D).length = 0 := by omega
            subst hb1 hb3
            simp [ik, hE, hlen0, hpl, aeqB]
            refine ACK.rt (i4.all (by omega)) ?_
            simp
            refine ACK.rt i4.now ?_
            obtain ⟨T, hT, eT⟩ := urem50 ticks
            have hnow := i4.good.now
            have ewn : IntKind.i64.wrap (D.now + (T : Int)) = D.now + T := wrap_id (by omega) (by omega)
            simp [aconv, eT]
            refine loopK.inv [6, 21, 119, 120, 121, 122, 123, 124, 125, 126, 127] (fun s : Nat × MD × AHeap × Nat => s.1 ≤ T ∧ MLI (upd η n (some (.cells 1 [[.rs 5 (actsC m)]]))) (n + 1) mm (k + s.1) nm2 s.2.1 s.2.2.1 s.2.2.2 ∧ Still s.2.1 ∧ s.2.1.ps = D.ps ∧ s.2.1.now = D.now + s.1) (fun s => [(21, .int .i64 s.1)]) (fun s => s.2.2.1) (fun s => s.2.2.2) (fun s => T - s.1) (0, D, G, g) ⟨by simp, i4, hst, rfl, by simp⟩ (by simp) (AHeap.le_rfl _) (Nat.le_refl _) ?_
            intro ⟨j, Dj, Gj, gj⟩ ⟨t1, t2, t3, t4, t5⟩
            simp only at t1 t2 t3 t4 t5
            simp
            refine CondP.dec (fun jt => ?_) (fun jt => ?_)
            · have jt' : j < T := by omega
              have ewj : IntKind.i64.wrap ((j : Int) + 1) = (j : Int) + 1 := wrap_id (by omega) (by omega)
              have hnj : (tickD Dj).now = D.now + ((j + 1 : Nat) : Int) := by simp only [tickD]; omega
              simp [jt]
              refine ACK.use (t2.tick (by omega)) ?_
              intro u η5 n5 ⟨o1, o2⟩
              rw [t3.woken] at o1
              have o3 : MLI (upd η n (some (.cells 1 [[.rs 5 (actsC m)]]))) (n + 1) mm (k + (j + 1)) nm2 (tickD Dj) η5 n5 := o2
              rcases o1 with ⟨rfl, _⟩ | ⟨g5, rfl, _⟩
              · simp [ewj]
                exact endK.intro (j + 1, tickD Dj, η5, n5) ⟨by simp only; omega, o3, t3.tick, t4, hnj⟩ (by simp) (by repeat (first | exact Agree.mask _ _ | refine Agree.setf rfl ?_ | refine Agree.inner rfl ?_)) (AHeap.le_rfl _) (Nat.le_refl _) (show T - (j + 1) < T - j by omega)
              · simp [ewj]
                exact endK.intro (j + 1, tickD Dj, η5, n5) ⟨by simp only; omega, o3, t3.tick, t4, hnj⟩ (by simp) (by repeat (first | exact Agree.mask _ _ | refine Agree.setf rfl ?_ | refine Agree.inner rfl ?_)) (AHeap.le_rfl _) (Nat.le_refl _) (show T - (j + 1) < T - j by omega)
            · have jT : j = T := by omega
              subst jT
              have hEj : endF Dj = 2 := by rw [t3.end, t4, ← hst.end, hE]
              have a1 := t2.end
              have a2 := t2.all (by omega)
              have a3 := t2.now
              rw [hEj] at a1
              rw [t4] at a2
              rw [t5] at a3
              simp [jt]
              refine ACK.rt a1 ?_
              simp
              refine ACK.rt a2 ?_
              simp
              refine ACK.rt (sameTold_ac _ (by omega) houts) ?_
              simp
              refine ACK.rt a3 ?_
              simp [ewn]
              refine resK.of (η' := η) (le_old hf fun q hq => ?_) _ (Nat.le_refl _) ⟨rfl, rfl⟩
              rw [t2.keep q (by omega), upd_ne (by omega)]
  · unfold NewK at hv
    rw [if_neg h0] at hv
    obtain ⟨rfl, hk, _⟩ := hv
    simp [fltV, aload, apart, afield, astore, upd_apply, upd_upd, h0]
    refine resK.of (η' := η) (le_old hf fun q hq => ?_) _ (Nat.le_refl _) ⟨rfl, rfl⟩
    rw [upd_ne (by omega), hk q (by omega), upd_ne (by omega)]
end Go.Proofs.YtbomkomipaipmaaGreat
