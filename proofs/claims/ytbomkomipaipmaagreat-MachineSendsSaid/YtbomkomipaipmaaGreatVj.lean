/- Layer 16 (machine): All, Look. Layer 16 (machine): New. Layer 16 (machine): the laws' helpers: Halts, lives. Layer 16 (machine): what the laws take; which, early. Layer 16 (machine): MachineRuns, walked. What all rows of this seat ask. -/
import Derived.Test.YtbomkomipaipmaaGreatRows
import Derived.Test.YtbomkomipaipmaaGreatVi
namespace Go.Proofs.YtbomkomipaipmaaGreat
set_option maxRecDepth 100000

theorem cloneL {η : AHeap} {n : Nat} {v : AVal} {l : List Int} (h : IsL η v l) (hl : l.length ≤ 17592186044416) : AC Tryz.prog 53 [v] η n (Rt (.rs 1 (ints l)) η n) := by
  refine AC.gl (by unfold lenMax; omega) ((clone_ac h hl).mono ?_)
  rintro u η' n' ⟨r, rfl, h1, h2, h3, h4⟩
  exact ⟨FL.own h2 rfl h1, h4⟩
def toldC (p : PD) : List AVal := [.int .i64 p.pid, .int .i64 p.parent, .int .i64 p.actor, .bool p.dead, .int .i64 p.rs.1, .int .i64 p.rs.2, .rs 1 (ints p.out)]
def toldR (ps : List PD) : List (List AVal) := ps.map toldC
@[simp] theorem toldR_len (ps : List PD) : (toldR ps).length = ps.length := by simp [toldR]
@[simp] theorem toldR_at (ps : List PD) (i : Nat) (h : i < (toldR ps).length) : (toldR ps)[i] = toldC (ps[i]'(by simpa using h)) := by simp [toldR]
theorem toldR_get {ps : List PD} {i : Nat} : (toldR ps)[i]? = (ps[i]?).map toldC := by simp [toldR]
theorem toldR_nq (ps : List PD) (η : AHeap) : NQ η (.rs 7 (toldR ps)) := .rs _ _ fun row hr c hc => by
  obtain ⟨p, _, rfl⟩ := List.mem_map.1 hr
  simp [toldC] at hc
  rcases hc with rfl | rfl | rfl | rfl | rfl | rfl | rfl
  all_goals first
    | exact .int _ _
    | exact .bool _
    | exact ints_nq _ _
theorem toldR_sc {ps : List PD} : ∀ r ∈ toldR ps, ∀ c ∈ r, c.sc = true := fun r hr c hc => by
  obtain ⟨p, _, rfl⟩ := List.mem_map.1 hr
  simp [toldC] at hc
  rcases hc with rfl | rfl | rfl | rfl | rfl | rfl | rfl <;> rfl
/-- an own row, made behind n -/
def RowI (k : Nat) (η1 : AHeap) (n n1 : Nat) (v : AVal) (rows : List (List AVal)) : Prop := (v = .nils ∧ rows = []) ∨ ∃ g, v = .sl g 0 rows.length ∧ n ≤ g ∧ g < n1 ∧ η1 g = some (.cells k rows)
theorem RowI.told {η1 : AHeap} {n n1 : Nat} {v : AVal} {ps : List PD} (h : RowI 7 η1 n n1 v (toldR ps)) (hl : ps.length ≤ 1000000) : Ent (gnd n η1 2 v) (.rs 7 (toldR ps)) := by
  rcases h with ⟨rfl, h⟩ | ⟨g, rfl, h1, h2, h3⟩
  · rw [gnd_nils, h]; exact Ent.nils _
  · rw [gnd_new h1 h3 (by omega) (by simp; unfold lenMax; omega)]
    have : (((toldR ps).drop 0).take (toldR ps).length).map (fun row => row.map (gnd n η1 1)) = toldR ps := by
      rw [List.drop_zero, List.take_length]
      unfold toldR
      rw [List.map_map]
      refine List.map_congr_left fun p _ => ?_
      simp [toldC]
    rw [this]; exact Ent.refl _
set_option maxHeartbeats 8000000 in
theorem mall_ac' {η : AHeap} {n kk : Nat} {nm : Role → Nat} {D : MD} (h : MachAt η n nm D) (gd : Good kk D) (hk : kk ≤ 5000) :
    AC Tryz.prog 22 [.ptr (nm .mach) 0 0] η n (Rt (.rs 7 (toldR D.ps)) η n) := by
  have hnum := gd.num
  refine AC.gnd1 (toldR_nq _ _) 2 ?_
  suffices hx : AC Tryz.prog 22 [.ptr (nm .mach) 0 0] η n (fun v η1 n1 => RowI 7 η1 n n1 v (toldR D.ps) ∧ ∀ q, q < n → η1 q = η q) from hx.mono fun v η1 n1 ⟨a, b⟩ => ⟨b, a.told (by omega)⟩
  have hm := h.mach
  have hlA : ∀ η', alenT Tryz.prog 88 (allV nm D) η' = some (D.ps.length : Int) := fun η' => by
    unfold allV; split
    · rename_i e; rw [e]; simp
    · simp
  refine AC.fresh fun hf => ?_; refine AC.enter Tryz.func22 rfl Tryz.ntmps22 (by simp) ?_
  simp [aload, apart, afield, hm, machC, hlA]
  refine loopK.inv [3, 5, 6, 14, 15, 16, 17, 18, 19, 20, 21, 22, 23, 24, 25, 26, 27, 28, 29, 30] (fun s : Nat × AVal × AHeap × Nat => s.1 ≤ D.ps.length ∧ RowI 7 s.2.2.1 n s.2.2.2 s.2.1 (toldR (D.ps.take s.1)) ∧ (∀ q, q < n → s.2.2.1 q = η q) ∧ n ≤ s.2.2.2) (fun s => [(14, .int .i64 s.1), (3, s.2.1)]) (fun s => s.2.2.1) (fun s => s.2.2.2) (fun s => D.ps.length - s.1) (0, .nils, η, n) ⟨by simp, Or.inl ⟨rfl, rfl⟩, fun _ _ => rfl, Nat.le_refl _⟩ (by simp) (AHeap.le_rfl _) (Nat.le_refl _) ?_
  intro ⟨k, t, η1, n1⟩ ⟨j1, j2, j3, j4⟩
  simp only at j1 j2 j3 j4
  simp
  refine CondP.dec (fun hk => ?_) (fun hk => ?_)
  · have hk' : k < D.ps.length := by omega
    have ewk : IntKind.i64.wrap ((k : Int) + 1) = (k : Int) + 1 := wrap_id (by omega) (by omega)
    have h1 : MachAt η1 n1 nm D := h.grow (fun q hq => j3 q (h.inlt hf hq)) j4
    obtain ⟨p, hpe⟩ : ∃ p, D.ps[k] = p := ⟨_, rfl⟩
    have hp : D.ps[k]? = some p := by rw [List.getElem?_eq_getElem hk', hpe]
    have hne : D.ps ≠ [] := fun e => by rw [e] at hk'; simp at hk'
    have hv0 : allV nm D = .sl (nm .all) 0 D.ps.length := by simp [allV, hne]
    have hA := h1.obj .all (.cells 1 (allR nm D.ps.length)) (by simp [objOf, hne])
    have hix : aindex Tryz.prog 88 (allV nm D) (.int .i64 k) η1 = some (.ptr (nm .all) k 0) := by rw [hv0]; simp [aindex, hA, allR, hk']
    have hget : (allR nm D.ps.length)[k]? = some [.ptr (nm (.proc k)) 0 0] := by simp [allR, hk']
    have hpc := h1.proc hp
    have lp := h1.lt (.proc k) hk'
    have lo := h1.lt (.orow k) hk'
    have z1 : ¬ nm (.proc k) = n1 := by omega
    have hIs : ∀ G : AHeap, (∀ q, q < n1 → G q = η1 q) → IsL G (outV nm k p) p.out := fun G hG => by
      unfold outV
      by_cases ho : p.out = []
      · rw [if_pos ho]; exact Or.inr (Or.inl ⟨rfl, ho⟩)
      · rw [if_neg ho]
        exact Or.inr (Or.inr ⟨nm (.orow k), 0, [], [], rfl, rfl, by rw [hG _ lo]; have := h1.obj (.orow k) (.cells 1 (ints p.out)) (by simp [objOf, hp, ho]); simpa using this⟩)
    have hout := gd.out p (List.mem_of_getElem? hp)
    have hsc : (outV nm k p).sc = true := by unfold outV; split <;> rfl
    have hac : acells (outV nm k p) = [outV nm k p] := by unfold outV; split <;> rfl
    have etk1 : toldR (D.ps.take (k + 1)) = toldR (D.ps.take k) ++ [toldC p] := by
      rw [List.take_succ_eq_append_getElem hk', hpe]; simp [toldR]
    have elk : (toldR (D.ps.take k)).length = k := by simp; omega
    have hb1 : (k + 1) * 72 ≤ 140737488355328 := by omega
    have hb2 : k + 1 ≤ 17592186044416 := by omega
    revert j2 etk1 elk
    generalize toldR (D.ps.take k) = J
    intro j2 etk1 elk
    have etk : List.take k J = J := List.take_of_length_le (by omega)
    rcases j2 with ⟨rfl, rfl⟩ | ⟨g, rfl, k6, k7, k8⟩
    · simp [hk, hix, aload, apart, hA, hget, afield, hpc, procC, hsc, astore, upd_apply, upd_upd]
      refine ACK.rt (cloneL (hIs _ (fun q hq => by simp only [upd_apply]; repeat rw [if_neg (by omega)])) (by omega)) ?_
      simp [afield, aload, apart, astore, upd_apply, upd_upd, ewk, Nat.add_assoc, abuildS, afillP, tek, chunk, appK, aappend, arows, lenMax]
      refine endK.heap fun G hG => ?_
      have g1 : G (n1 + 2) = some (.cells 7 ([] ++ [toldC p])) := by rw [hG]; simp [upd_apply, toldC]
      have g2 : ∀ q, q < n → G q = η q := fun q hq => by
        rw [hG]; simp only [upd_apply]
        repeat rw [if_neg (by omega)]
        exact j3 q hq
      refine endK.intro (k + 1, .sl (n1 + 2) 0 (1), G, n1 + 3) ⟨by simp only; omega, ?_, g2, by simp only; omega⟩ (by simp) (by repeat (first | exact Agree.mask _ _ | refine Agree.setf rfl ?_ | refine Agree.inner rfl ?_)) (AHeap.le_rfl _) (Nat.le_refl _) (show D.ps.length - (k + 1) < D.ps.length - k by omega)
      simp only
      rw [etk1]
      exact Or.inr ⟨n1 + 2, by simp, by omega, by omega, g1⟩
    · have y5 : ¬ g = n1 := by omega
      have y6 : ∀ k, ¬ g = n1 + k := fun k => by omega
      simp [hk, hix, aload, apart, hA, hget, afield, hpc, procC, hsc, astore, upd_apply, upd_upd]
      refine ACK.rt (cloneL (hIs _ (fun q hq => by simp only [upd_apply]; repeat rw [if_neg (by omega)])) (by omega)) ?_
      simp [afield, aload, apart, astore, upd_apply, upd_upd, ewk, Nat.add_assoc, abuildS, afillP, tek, chunk, appK, aappend, arows, lenMax, y5, y6, k8, elk, hb1, hb2, etk]
      refine endK.heap fun G hG => ?_
      have g1 : G (n1 + 2) = some (.cells 7 (J ++ [toldC p])) := by rw [hG]; simp [upd_apply, toldC]
      have g2 : ∀ q, q < n → G q = η q := fun q hq => by
        rw [hG]; simp only [upd_apply]
        repeat rw [if_neg (by omega)]
        exact j3 q hq
      refine endK.intro (k + 1, .sl (n1 + 2) 0 (k + 1), G, n1 + 3) ⟨by simp only; omega, ?_, g2, by simp only; omega⟩ (by simp) (by repeat (first | exact Agree.mask _ _ | refine Agree.setf rfl ?_ | refine Agree.inner rfl ?_)) (AHeap.le_rfl _) (Nat.le_refl _) (show D.ps.length - (k + 1) < D.ps.length - k by omega)
      simp only
      rw [etk1]
      exact Or.inr ⟨n1 + 2, by simp [elk], by omega, by omega, g1⟩
  · simp [hk]
    have e9 : D.ps.take k = D.ps := List.take_of_length_le (by omega)
    rw [e9] at j2
    exact resK.rt ⟨j2, j3⟩
/-- what Look tells -/
def lookF (D : MD) (pid : Int) : Sta × List (Int × Int) × Bool := match atP D.ps pid with
  | some i => match D.ps[i]? with
    | some p => (p.st, p.box, true)
    | none => (sta0, [], false)
  | none => (sta0, [], false)
def lookV (r : Sta × List (Int × Int) × Bool) : AVal := .tup [stV r.1, .rs 2 (pairs r.2.1), .bool r.2.2]
theorem lookV_nq (r : Sta × List (Int × Int) × Bool) (η : AHeap) : NQ η (lookV r) := by
  refine .tup _ ?_
  intro c hc
  simp at hc
  rcases hc with rfl | rfl | rfl
  · exact stV_nq _ _
  · exact .rs _ _ fun row hr c hc => by
      obtain ⟨p, _, rfl⟩ := List.mem_map.1 hr
      simp at hc
      rcases hc with rfl | rfl <;> exact .int _ _
  · exact .bool _
theorem look0_ent (n : Nat) (η : AHeap) : Ent (gnd n η 3 (.tup [.agg [.int .i64 0, .int .i64 0, .nils, .nils, .bool false, .int .i64 0], .nils, .bool false])) (lookV (sta0, [], false)) := by
  rw [gnd_tup]
  refine Ent.tup ⟨?_, ?_, ?_, trivial⟩
  · rw [gnd_agg]
    refine Ent.agg ⟨?_, ?_, ?_, ?_, ?_, ?_, trivial⟩ rfl
    all_goals first
      | (rw [gnd_int]; exact Ent.refl _)
      | (rw [gnd_bool]; exact Ent.refl _)
      | (rw [gnd_nils]; exact Ent.nils _)
  · rw [gnd_nils]; exact Ent.nils _
  · rw [gnd_bool]; exact Ent.refl _
theorem look1_ent (n : Nat) (η : AHeap) (r : Sta × List (Int × Int) × Bool) : Ent (gnd n η 3 (lookV r)) (lookV r) := by
  unfold lookV stV stC
  rw [gnd_tup]
  refine Ent.tup ⟨?_, ?_, ?_, trivial⟩
  · rw [gnd_agg]
    refine Ent.agg ⟨?_, ?_, ?_, ?_, ?_, ?_, trivial⟩ rfl
    all_goals first
      | (rw [gnd_int]; exact Ent.refl _)
      | (rw [gnd_bool]; exact Ent.refl _)
      | (rw [gnd_rs]; exact Ent.refl _)
  · rw [gnd_rs]; exact Ent.refl _
  · rw [gnd_bool]; exact Ent.refl _
set_option maxHeartbeats 4000000 in
theorem lookNil_ac {η : AHeap} {n : Nat} (pid : Int) : AC Tryz.prog 24 [.nilp, .int .i64 pid] η n (Rt (lookV (sta0, [], false)) η n) := by
  refine AC.gnd1 (lookV_nq _ _) 3 ?_
  refine AC.fresh fun hf => ?_; refine AC.enter Tryz.func24 rfl Tryz.ntmps24 (by simp) ?_
  simp [abuild, aplace, afillP, astore, upd_apply, upd_upd, aload, apart]
  exact resK.rt ⟨fun q hq => by simp only [upd_apply]; repeat rw [if_neg (by omega)], look0_ent _ _⟩
set_option maxHeartbeats 8000000 in
theorem look_ac {η : AHeap} {n kk : Nat} {nm : Role → Nat} {D : MD} (h : MachAt η n nm D) (gd : Good kk D) (pid : Int) :
    AC Tryz.prog 24 [.ptr (nm .mach) 0 0, .int .i64 pid] η n (Rt (lookV (lookF D pid)) η n) := by
  refine AC.gnd1 (lookV_nq _ _) 3 ?_
  have l1 := h.lt .mach trivial
  have z0 : ¬ nm .mach = n := by omega
  unfold lookF
  cases ha : atP D.ps pid with
  | none =>
    simp only
    refine AC.fresh fun hf => ?_; refine AC.enter Tryz.func24 rfl Tryz.ntmps24 (by simp) ?_
    obtain ⟨H, hH⟩ : ∃ H, H = upd η n (some (.cells 6 [[.int .i64 0, .int .i64 0, .nils, .nils, .bool false, .int .i64 0]])) := ⟨_, rfl⟩
    have hHk : ∀ q, q < n → H q = η q := fun q hq => by rw [hH, upd_ne (by omega)]
    have hHn : H n = some (.cells 6 [[.int .i64 0, .int .i64 0, .nils, .nils, .bool false, .int .i64 0]]) := by rw [hH]; exact upd_eq _ _ _
    have b1 := Nx.beside (n' := n + 1) h hf hHk (by omega)
    have hm := b1.at'.mach
    have hL := lookLv b1.at' pid
    rw [ha] at hL
    simp only at hL
    simp
    rw [← hH]
    clear hH
    simp [aload, apart, afield, hm, machC, hL, abuild, aplace, afillP, astore, hHn, upd_apply]
    exact resK.rt ⟨fun q hq => by rw [upd_ne (by omega), hHk q hq], look0_ent _ _⟩
  | some i =>
    obtain ⟨p, hp, hd, hpid⟩ := atP_some ha
    have hpm := List.mem_of_getElem? hp
    have hst := gd.stk p hpm
    have h16 := gd.box p hpm
    simp only [hp]
    have hil : i < D.ps.length := (List.getElem?_eq_some_iff.1 hp).1
    have lp := h.lt (.proc i) hil
    refine AC.fresh fun hf => ?_; refine AC.enter Tryz.func24 rfl Tryz.ntmps24 (by simp) ?_
    obtain ⟨H, hH⟩ : ∃ H, H = upd η n (some (.cells 6 [[.int .i64 0, .int .i64 0, .nils, .nils, .bool false, .int .i64 0]])) := ⟨_, rfl⟩
    have hHk : ∀ q, q < n → H q = η q := fun q hq => by rw [hH, upd_ne (by omega)]
    have hHn : H n = some (.cells 6 [[.int .i64 0, .int .i64 0, .nils, .nils, .bool false, .int .i64 0]]) := by rw [hH]; exact upd_eq _ _ _
    have b1 := Nx.beside (n' := n + 1) h hf hHk (by omega)
    have hm := b1.at'.mach
    have hpc := b1.at'.proc hp
    have hbx := b1.at'.bx i p hp
    have hL := lookLv b1.at' pid
    rw [ha] at hL
    simp only at hL
    have hmsg : ∀ (G : AHeap) m, (∀ q, q < n → G q = H q) → AC Tryz.prog 50 [.ptr (nm (.box i)) 0 0] G m (Rt (.rs 2 (pairs p.box)) G m) := fun G m hG => messages_ac (hbx.cong (hG _ (h.lt (.box i) hil)) (hG _ (h.lt (.brow i) hil))) h16
    have z2 : ¬ nm (.proc i) = n + 1 := by omega
    have z3 : ¬ n = n + 1 := by omega
    have lst := hst.1
    have lrg := hst.2
    unfold lenMax at lst lrg
    simp
    rw [← hH]
    clear hH
    simp [aload, apart, afield, hm, machC, hL, hpc, procC, astore, upd_apply, upd_upd]
    refine drawK.intro mixed [(0, []), (1, []), (3, []), (4, []), (2, [4]), (6, []), (5, []), (7, []), (8, []), (9, [])] (by kernel_rfl) ?_
    simp [lk_some, chkK, aload, apart, afield, upd_apply]
    refine ACK.rt (cloneL (Or.inl rfl) lst) ?_
    simp [afield, upd_apply]
    refine ACK.rt (cloneL (Or.inl rfl) lrg) ?_
    simp [afield, upd_apply, astore, upd_upd]
    refine drawK.intro mixed [(0, []), (1, []), (2, []), (3, []), (4, []), (5, [0]), (6, []), (7, []), (8, [])] (by kernel_rfl) ?_
    simp [lk_some, chkK, aload, apart, afield, upd_apply, z2, hpc, procC]
    refine ACK.rt (hmsg _ _ (fun q hq => by simp only [upd_apply]; repeat rw [if_neg (by omega)])) ?_
    simp [aload, apart, upd_apply, astore, z2, hpc, procC, hHn]
    exact resK.rt ⟨fun q hq => by
      rw [← hHk q hq]
      simp only [upd_apply]
      repeat rw [if_neg (by omega)], look1_ent _ _ (p.st, p.box, true)⟩
end Go.Proofs.YtbomkomipaipmaaGreat
namespace Go.Proofs.YtbomkomipaipmaaGreat
set_option maxRecDepth 100000

theorem modS_of {m : List Actr} (h : (checkF m).1 = 0) : ModS m := by
  have hr : rightM m = 0 := by
    unfold checkF at h
    by_cases hx : rightM m ≠ 0
    · rw [if_pos hx] at h; exact h
    · simpa using hx
  unfold rightM at hr
  by_cases h1 : 8 < m.length ∨ m.all littleF = false
  · rw [if_pos h1] at hr; cases hr
  · have h2 : m.length ≤ 8 := by
      rcases Nat.lt_or_ge 8 m.length with k | k
      · exact absurd (Or.inl k) h1
      · exact k
    have h3 : m.all littleF = true := by
      cases hx : m.all littleF with
      | true => rfl
      | false => exact absurd (Or.inr hx) h1
    refine ⟨h2, fun a ha => ?_, fun a ha t ht => ?_⟩
    · have := List.all_eq_true.1 h3 a ha
      simp only [littleF, Bool.and_eq_true, decide_eq_true_eq] at this
      omega
    · have := List.all_eq_true.1 h3 a ha
      simp only [littleF, Bool.and_eq_true, decide_eq_true_eq] at this
      have := this.1
      unfold tabsFew at this
      have := List.all_eq_true.1 this t ht
      simp at this
      omega
def tab0 : Tab := ⟨List.replicate 32 (0, false), 0⟩
def newD0 (m : List Actr) : MD := ⟨m, 0, [], tab0, []⟩
noncomputable def newD (m : List Actr) : MD := (spawnD (newD0 m) 0 0 []).1
theorem newD0_inv (m : List Actr) : MInv (newD0 m) := by
  refine ⟨⟨by simp [newD0, tab0], fun x hx => ?_, by simp [newD0, tab0]⟩, by simp [newD0], fun p hp => by simp [newD0] at hp, fun k x hx ht => ?_, by simp [newD0], fun e he => by simp [newD0] at he, fun a b hb => by simp [newD0, toW, lkOf] at hb, fun a => by simp [newD0, toW, lkOf]⟩
  · simp [newD0, tab0] at hx
    subst hx; simp
  · simp only [newD0, tab0] at hx
    have := List.mem_of_getElem? hx
    simp at this
    subst this; cases ht
theorem low00 : lowS tab0.sl = some 0 := by decide +kernel
theorem low0 (m : List Actr) : lowS (newD0 m).tab.sl = some 0 := low00
theorem newD_eq (m : List Actr) : newD m = { newD0 m with ps := [spawnP (newD0 m) 0 0 [] 1], tab := takeT tab0 0 (by decide) } := by
  unfold newD
  rw [spawnD_some (low0 m)]
  rfl
theorem newD_good {m : List Actr} (hm : ModS m) : Good 0 (newD m) := by
  have hi : MInv (newD m) := (newD0_inv m).spawn 0 0 []
  have e := newD_eq m
  have hps : (newD m).ps = [spawnP (newD0 m) 0 0 [] 1] := by rw [e]
  have hmm : (newD m).m = m := by rw [e]; rfl
  refine ⟨hi, by rw [hmm]; exact hm, fun p hp => ?_, fun p hp => ?_, by rw [hps]; simp, fun p hp => ?_, by rw [e]; exact ⟨Int.le_refl _, Int.le_refl _⟩, fun i p hp => ?_⟩
  · rw [hps] at hp
    have hp := List.mem_singleton.1 hp
    subst hp
    exact newF_len _ _ _ (fun a ha => by have := hm.par a ha; unfold lenMax; omega) (by simp [lenMax])
  · rw [hps] at hp
    have hp := List.mem_singleton.1 hp
    subst hp
    simp [spawnP]
  · rw [hps] at hp
    have hp := List.mem_singleton.1 hp
    subst hp
    simp [spawnP]
  · rw [hps] at hp
    have hi0 := (List.getElem?_eq_some_iff.1 hp).1
    simp at hi0
    subst hi0
    simp at hp
    subst hp
    simp [spawnP]
def newNm (n : Nat) : Role → Nat
  | .mach => n + 7
  | .pids => n + 3
  | .web => n + 5
  | .wmap => n + 4
  | .live => n + 6
  | _ => n
theorem newAt {η' : AHeap} {n : Nat} {m : List Actr} (k1 : η' (n + 7) = some (.cells 6 [[.rs 5 (actsC m), .int .i64 0, .ptr (n + 3) 0 0, .ptr (n + 5) 0 0, .nils, .mp (n + 6)]])) (k2 : η' (n + 3) = some (tabO tab0)) (k3 : η' (n + 5) = some (.cells 1 [[.mp (n + 4)]])) (k4 : η' (n + 4) = some (.map [])) (k5 : η' (n + 6) = some (.map [])) :
    MachAt η' (n + 8) (newNm n) (newD0 m) := by
  refine ⟨fun ρ o ho => ?_, fun i p hp => by simp [newD0] at hp, ⟨k3, k4, fun e he => by simp [newD0] at he, by simp [newD0], fun e he => by simp [newD0] at he⟩, fun ρ ρ' h1 h2 he => ?_, fun ρ h1 hk => by simp [newD0] at hk, fun ρ h1 => ?_⟩
  · cases ρ with
    | mach => rw [← ho]; exact k1
    | pids => rw [← ho]; exact k2
    | live => rw [← ho]; exact k5
    | all => simp [objOf, newD0] at ho
    | proc i => simp [objOf, newD0] at ho
    | orow i => simp [objOf, newD0] at ho
    | _ => cases ho
  · cases ρ <;> cases ρ' <;> simp [newNm, dom, newD0] at h1 h2 he ⊢
  · cases ρ <;> simp [newNm, dom, newD0] at h1 ⊢
def NewK (m : List Actr) (η : AHeap) (n : Nat) : AVal → AHeap → Nat → Prop := fun v η' n' =>
  if (checkF m).1 = 0 then ∃ nm, v = .tup [.ptr (nm .mach) 0 0, fltV (0, 0, 0)] ∧ MachAt η' n' nm (newD m) ∧ (∀ q, q < n → η' q = η q) ∧ (∀ q, InM nm (newD m) q → n ≤ q) ∧ n ≤ n'
  else v = .tup [.nilp, fltV (checkF m)] ∧ (∀ q, q < n → η' q = η q) ∧ n ≤ n'
set_option maxHeartbeats 8000000 in
theorem mnew16_ac {η : AHeap} {n : Nat} {m : List Actr} (h64 : Mod64 m) : AC Tryz.prog 14 [modV m] η n (NewK m η n) := by
  have hch := fun η n => check_ac m η n h64
  unfold NewK
  simp only [modV, fltV] at hch ⊢
  by_cases h0 : (checkF m).1 = 0
  · have hm := modS_of h0
    simp only [if_pos h0]
    have hcp := fun η n => copied_ac (η := η) (n := n) hm
    simp only [modV] at hcp
    refine AC.fresh fun hf => ?_; refine AC.enter Tryz.func14 rfl Tryz.ntmps14 (by simp) ?_
    simp [aload, apart, upd_apply]
    refine ACK.rt (hch _ _) ?_
    simp [aload, apart, afield, upd_apply, astore, upd_upd, Nat.add_assoc, h0]
    refine ACK.rt (hcp _ _) ?_
    simp
    refine ACK.use (pnew_ac _ _) ?_
    intro v η1 n1 ⟨d1, d2, d3⟩
    subst d1 d2 d3
    simp [Nat.add_assoc]
    refine ACK.use lnew_ac ?_
    intro v η1 n1 ⟨d1, d2, d3⟩
    subst d1 d2 d3
    simp [Nat.add_assoc, abuild, aplace, afillP]
    refine ACK.heap fun H hH => ?_
    have hA : MachAt H (n + 8) (newNm n) (newD0 m) := newAt (by rw [hH, upd_eq]) (by
      rw [hH]; simp only [upd_apply]
      repeat rw [if_neg (by omega)]
      rw [if_pos trivial]; rfl) (by rw [hH]; simp [upd_apply]) (by rw [hH]; simp [upd_apply]) (by rw [hH]; simp [upd_apply])
    have hHk : ∀ q, q < n → H q = η q := fun q hq => by
      rw [hH]; simp only [upd_apply]
      repeat rw [if_neg (by omega)]
    have hH1 : H (n + 1) = some (.cells 3 [[.int .i64 0, .int .i64 0, .int .i64 0]]) := by rw [hH]; simp [upd_apply]
    clear hH
    have hin : ∀ q, InM (newNm n) (newD0 m) q → n ≤ q ∧ q ≠ n + 1 := fun q hq => by
      rcases hq with ⟨ρ, h1, rfl⟩ | hq
      · cases ρ <;> simp [newNm, dom, newD0] at h1 ⊢
      · simp [newD0] at hq
    have hsp := spawn_ac (av := .nils) (args := []) hA (newD0_inv m) ((newD0_inv m).ok hm (by simp [newD0]) (by simp [newD0])) (by simp [newD0]) 0 0 (Or.inr ⟨rfl, rfl⟩) (by simp [lenMax])
    refine ACK.use hsp.freshN ?_
    intro v η1 n1 ⟨⟨c1, nm1, b1⟩, hf1, hn1⟩
    subst c1
    have e1 : η1 (n + 1) = some (.cells 3 [[.int .i64 0, .int .i64 0, .int .i64 0]]) := by
      rw [b1.keep (n + 1) (by omega) fun hq => (hin _ hq).2 rfl, hH1]
    have em : nm1 .mach = n + 7 := b1.mach
    have hno : ∀ q, InM nm1 (newD m) q → n ≤ q ∧ q ≠ n + 1 := fun q hq => by
      rcases b1.own q hq with k | k
      · exact hin q k
      · omega
    simp [spawnV, abuild, aplace, afillP, aload, apart, upd_apply, astore, e1]
    refine resK.rt ⟨nm1, by rw [em], b1.at'.grow (fun q hq => upd_ne (hno q hq).2) (Nat.le_refl _), fun q hq => ?_, fun q hq => (hno q hq).1, by omega⟩
    rw [upd_ne (by omega), b1.keep q (by omega) fun k => by have := (hin q k).1; omega, hHk q hq]
  · simp only [if_neg h0]
    refine AC.fresh fun hf => ?_; refine AC.enter Tryz.func14 rfl Tryz.ntmps14 (by simp) ?_
    simp [aload, apart, upd_apply]
    refine ACK.rt (hch _ _) ?_
    simp [aload, apart, afield, upd_apply, astore, upd_upd, Nat.add_assoc, h0]
    refine drawK.intro mixed [(0, []), (1, []), (2, [])] (by kernel_rfl) ?_
    simp [aload, apart, upd_apply, astore]
    exact resK.rt ⟨rfl, fun q hq => by simp only [upd_apply]; repeat rw [if_neg (by omega)], by omega⟩
end Go.Proofs.YtbomkomipaipmaaGreat
namespace Go.Proofs.YtbomkomipaipmaaGreat
set_option maxRecDepth 100000

def haltsM : List Actr := [⟨[], [], [], [(1, 4), (24, 0), (0, 0)], []⟩]
theorem modV_nq (m : List Actr) (η : AHeap) : NQ η (modV m) := by
  refine .agg _ fun c hc => ?_
  simp at hc; subst hc
  refine .rs _ _ fun row hr c hc => ?_
  obtain ⟨a, _, rfl⟩ := List.mem_map.1 hr
  simp [actC] at hc
  have hp : ∀ l : List (Int × Int), NQ η (.rs 2 (pairs l)) := fun l => .rs _ _ fun row hr c hc => by
    obtain ⟨x, rfl⟩ := pairs_int row hr c hc; exact .int _ _
  rcases hc with rfl | rfl | rfl | rfl | rfl
  · exact ints_nq _ _
  · exact ints_nq _ _
  · exact ints_nq _ _
  · exact hp _
  · refine .rs _ _ fun row hr c hc => ?_
    obtain ⟨a, _, rfl⟩ := List.mem_map.1 hr
    simp [tblC] at hc
    rcases hc with rfl | rfl
    · exact hp _
    · exact .int _ _
theorem halts_nq (η : AHeap) : NQ η (modV haltsM) := modV_nq _ _
set_option maxHeartbeats 4000000 in
theorem halts_ac {η : AHeap} {n : Nat} : AC Tryz.prog 38 [] η n (Rt (modV haltsM) η n) := by
  refine AC.gnd1 (halts_nq _) 5 ?_
  refine AC.fresh fun hf => ?_; refine AC.enter Tryz.func38 rfl Tryz.ntmps38 (by simp) ?_
  simp [abuild, aplace, afillP, abuildS, tek, chunk, astore, upd_apply, Nat.add_assoc, aload, apart]
  refine resK.rt ⟨fun q hq => by simp only [upd_apply]; repeat rw [if_neg (by omega)], ?_⟩
  rw [gnd_agg]
  refine Ent.agg ⟨?_, trivial⟩ rfl
  rw [gnd_new (k := 5) (rows := [[.nils, .nils, .nils, .sl (n + 1) 0 3, .nils]]) (by omega) (by simp [upd_apply]) (by simp) (by simp [lenMax])]
  simp only [List.drop_zero, List.take, List.map_cons, List.map_nil, gnd_nils]
  rw [gnd_new (k := 2) (rows := [[.int .i64 1, .int .i64 4], [.int .i64 24, .int .i64 0], [.int .i64 0, .int .i64 0]]) (by omega) (by simp [upd_apply]) (by simp) (by simp [lenMax])]
  simp only [List.drop_zero, List.take, List.map_cons, List.map_nil, gnd_int]
  exact Ent.rs ⟨⟨Ent.nils _, Ent.nils _, Ent.nils _, Ent.refl _, Ent.nils _, trivial⟩, trivial⟩
theorem halts_64 : Mod64 haltsM := by
  refine ⟨by simp [haltsM], fun x hx => ?_⟩
  have hx := List.mem_singleton.1 hx
  subst hx
  refine ⟨⟨by simp, by simp⟩, ⟨by simp, by simp⟩, ⟨by simp, by simp⟩, ⟨by simp, fun x hx => ?_⟩, ⟨by simp, by simp⟩⟩
  simp at hx
  rcases hx with rfl | rfl | rfl <;> simp [I64]
theorem halts_check : checkF haltsM = (0, 0, 0) := by decide +kernel
noncomputable def Hp (D : MD) : PD := D.ps.headD ⟨0, 0, 0, true, (0, 0), [], sta0, []⟩
noncomputable def Hs : Nat → MD
  | 0 => newD haltsM
  | k + 1 => doD 0 0 (Hs k) 0 (Hp (Hs k))
theorem hs0 : ∃ p, (Hs 0).ps = [p] ∧ p.dead = false ∧ p.pid = 1 ∧ readyP (Hs 0) p = true ∧ ∀ m1 m2, doD m1 m2 (Hs 0) 0 p = Hs 1 := ⟨Hp (Hs 0), by kernel_rfl, by kernel_rfl, by kernel_rfl, by kernel_rfl, fun _ _ => by kernel_rfl⟩
theorem hs1 : ∃ p, (Hs 1).ps = [p] ∧ p.dead = false ∧ p.pid = 1 ∧ readyP (Hs 1) p = true ∧ ∀ m1 m2, doD m1 m2 (Hs 1) 0 p = Hs 2 := ⟨Hp (Hs 1), by kernel_rfl, by kernel_rfl, by kernel_rfl, by kernel_rfl, fun _ _ => by kernel_rfl⟩
theorem hs2 : ∃ p, (Hs 2).ps = [p] ∧ p.dead = false ∧ p.pid = 1 ∧ readyP (Hs 2) p = true ∧ ∀ m1 m2, doD m1 m2 (Hs 2) 0 p = Hs 3 := ⟨Hp (Hs 2), by kernel_rfl, by kernel_rfl, by kernel_rfl, by kernel_rfl, fun _ _ => by kernel_rfl⟩
theorem hs3 : toldR (Hs 3).ps = [[.int .i64 1, .int .i64 0, .int .i64 0, .bool true, .int .i64 0, .int .i64 0, .rs 1 (ints [4])]] ∧ endF (Hs 3) = 1 ∧ runnableP (Hs 0) 1 = true ∧ endF (Hs 0) = 0 := ⟨by kernel_rfl, by kernel_rfl, by kernel_rfl, by kernel_rfl⟩
theorem hs_step : ∀ k, k < 3 → ∀ D' l e, DoR (Hs k) 1 D' l e → D' = Hs (k + 1) ∧ e = 0 := fun k hk D' l e h => by
  have key : ∀ D E : MD, (∃ p, D.ps = [p] ∧ p.dead = false ∧ p.pid = 1 ∧ readyP D p = true ∧ ∀ m1 m2, doD m1 m2 D 0 p = E) → DoR D 1 D' l e → D' = E ∧ e = 0 := fun D E ⟨p, h1, h2, h3, h4, h5⟩ hr => by
    unfold DoR at hr
    have ha : atP D.ps 1 = some 0 := by rw [h1]; simp [atP, livesP, h2, h3]
    rw [ha] at hr
    have hr := hr p (by rw [h1]; rfl)
    rw [if_pos h4] at hr
    obtain ⟨m1, m2, e1, _, e2⟩ := hr
    exact ⟨e1.trans (h5 m1 m2), e2⟩
  match k, hk with
  | 0, _ => exact key _ _ hs0 h
  | 1, _ => exact key _ _ hs1 h
  | 2, _ => exact key _ _ hs2 h
set_option maxHeartbeats 8000000 in
theorem lives_ac {η : AHeap} {n : Nat} : AC Tryz.prog 12 [] η n (Rt (.bool true) η n) := by
  refine AC.pure (.bool _) ?_
  have hm := modS_of (m := haltsM) (by rw [halts_check])
  have gd0 : Good 0 (Hs 0) := newD_good hm
  obtain ⟨q1, q2, q3, q4⟩ := hs3
  refine AC.fresh fun hf => ?_; refine AC.enter Tryz.func12 rfl Tryz.ntmps12 (by simp) ?_
  simp
  refine ACK.rt halts_ac ?_
  simp
  refine ACK.use (mnew16_ac halts_64).freshN ?_
  intro v η1 n1 ⟨hv, hf1, hn1⟩
  unfold NewK at hv
  rw [halts_check] at hv
  rw [if_pos rfl] at hv
  obtain ⟨nm, rfl, hA, hk, hno, hle⟩ := hv
  change MachAt η1 n1 nm (Hs 0) at hA
  simp [fltV, aload, apart, afield, astore, upd_apply, upd_upd]
  refine ACK.heap fun H hH => ?_
  have hHk : ∀ q, q < n1 → H q = η1 q := fun q hq => by rw [hH, upd_ne (by omega)]
  have b1 := Nx.beside (n' := n1 + 1) hA hf1 hHk (by omega)
  have hHf : ∀ k, n1 + 1 ≤ k → H k = none := fun k hk => by rw [hH, upd_ne (by omega)]; exact hf1 k (by omega)
  have hHn : ∀ q, q < n → H q = η q := fun q hq => by rw [hHk q (by omega), hk q hq]
  clear hH
  have hrun := runnable_ac (n := n1 + 1) b1.at' gd0.ok 1
  have hend := mend_ac (n := n1 + 1) b1.at' gd0.ok
  rw [q3] at hrun
  rw [q4] at hend
  refine ACK.rt hrun ?_
  simp
  refine ACK.rt hend ?_
  simp
  have emach : ∀ nm' : Role → Nat, nm' .mach = nm .mach → True := fun _ _ => trivial
  refine loopK.inv [0, 3, 4, 5, 29, 30, 31, 32, 33, 34, 35, 36, 37, 38, 39] (fun s : Nat × (Role → Nat) × AHeap × Nat => s.1 ≤ 3 ∧ MachAt s.2.2.1 s.2.2.2 s.2.1 (Hs s.1) ∧ Good s.1 (Hs s.1) ∧ s.2.1 .mach = nm .mach ∧ (∀ q, q < n → s.2.2.1 q = η q) ∧ (∀ q, InM s.2.1 (Hs s.1) q → n ≤ q) ∧ n ≤ s.2.2.2) (fun s => [(3, .int .i64 s.1)]) (fun s => s.2.2.1) (fun s => s.2.2.2) (fun s => 3 - s.1) (0, nm, H, n1 + 1) ⟨by simp, b1.at', gd0, rfl, hHn, hno, by simp only; omega⟩ (by simp) (AHeap.le_rfl _) (Nat.le_refl _) ?_
  intro ⟨k, nm2, η2, n2⟩ ⟨j1, j2, j3, j4, j5, j6, j7⟩
  simp only at j1 j2 j3 j4 j5 j6 j7
  simp
  refine CondP.dec (fun hk3 => ?_) (fun hk3 => ?_)
  · have hk' : k < 3 := by omega
    have ewk : IntKind.i64.wrap ((k : Int) + 1) = (k : Int) + 1 := wrap_id (by omega) (by omega)
    have hdo := do_ac j2 j3 (by omega) 1
    rw [j4] at hdo
    simp [hk3]
    refine ACK.use hdo.freshN ?_
    intro v η3 n3 ⟨⟨nm3, D', l, e, u, e1, e2, e3, e4⟩, hf3, hn3⟩
    obtain ⟨f1, f2⟩ := hs_step k hk' D' l e e4
    have gd' := DoR.good j3 e4
    subst e1 f1 f2
    simp [ewk]
    refine endK.intro (k + 1, nm3, η3, n3) ⟨by simp only; omega, e3.at', gd', e3.mach.trans j4, fun q hq => ?_, fun q hq => ?_, by simp only; omega⟩ (by simp) (by repeat (first | exact Agree.mask _ _ | refine Agree.setf rfl ?_ | refine Agree.inner rfl ?_)) (AHeap.le_rfl _) (Nat.le_refl _) (show 3 - (k + 1) < 3 - k by omega)
    · simp only
      rw [e3.keep q (by omega) fun hq' => by have := j6 q hq'; omega, j5 q hq]
    · rcases e3.own q hq with k | k
      · exact j6 q k
      · omega
  · have ek : k = 3 := by omega
    subst ek
    have hall := mall_ac' j2 j3 (by omega)
    have hend3 := mend_ac j2 j3.ok
    rw [j4] at hall hend3
    rw [q1] at hall
    rw [q2] at hend3
    simp
    refine ACK.rt hall ?_
    simp
    refine ACK.rt hend3 ?_
    simp [aload, apart, afield, aindex, ints]
    refine resK.of (η' := η) (le_old hf j5) _ (Nat.le_refl _) ⟨rfl, rfl⟩
end Go.Proofs.YtbomkomipaipmaaGreat
namespace Go.Proofs.YtbomkomipaipmaaGreat
set_option maxRecDepth 100000

/-- a step: tick, raw, number -/
abbrev Pk := Bool × Bool × Int
def pickC (p : Pk) : List AVal := [.bool p.1, .bool p.2.1, .int .i64 p.2.2]
def pkR (l : List Pk) : List (List AVal) := l.map pickC
@[simp] theorem pkR_len (l : List Pk) : (pkR l).length = l.length := by simp [pkR]
@[simp] theorem pkR_at (l : List Pk) (i : Nat) (h : i < (pkR l).length) : (pkR l)[i] = pickC (l[i]'(by simpa using h)) := by simp [pkR]
def Pick64 (p : Pk) : Prop := I64 p.2.2
theorem lies_pick {w : World} : Lies Tryz.prog w 38 pickC Pick64 := by
  refine Lies.map (lies_struct Tryz.underlying38 (size := 3) (by kernel_rfl) (liesF_cons (z := 1) rfl (by kernel_rfl) (lies_bool Tryz.underlying4) (liesF_cons (z := 1) rfl (by kernel_rfl) (lies_bool Tryz.underlying4) (liesF_one (z := 1) rfl (by kernel_rfl) (lies_i64 Tryz.underlying2))))) (fun p => ((p.1, p.2.1, p.2.2) : Pk)) pickC Pick64 ?_
  intro p h
  exact ⟨rfl, h.2.2⟩
theorem lies_picks {w : World} : Lies Tryz.prog w 25 (fun l : List Pk => [.rs 3 (pkR l)]) (fun l => l.length ≤ 17592186044416 ∧ ∀ x ∈ l, Pick64 x) := lies_slice Tryz.underlying25 (by kernel_rfl) (by decide) (of_decide_eq_true (by kernel_rfl)) lies_pick
set_option maxHeartbeats 2000000 in
theorem early_ac (l : List Pk) (hl : l.length ≤ 17592186044416) {η : AHeap} {n : Nat} : AC Tryz.prog 13 [.rs 3 (pkR l)] η n (Rt (.rs 3 (pkR (l.take 1000))) η n) := by
  refine AC.enter Tryz.func13 rfl Tryz.ntmps13 (by simp) ?_
  obtain ⟨k, hk1, hk2⟩ : ∃ k : Nat, min (l.length : Int) 1000 = (k : Int) ∧ k = min l.length 1000 := ⟨min l.length 1000, by omega, rfl⟩
  have hk3 : (k : Int) ≤ l.length := by omega
  have ek : List.take k (pkR l) = pkR (l.take 1000) := by
    unfold pkR
    rw [← List.map_take, hk2]
    congr 1
    rcases Nat.lt_or_ge 1000 l.length with h | h
    · rw [Nat.min_eq_right (by omega)]
    · rw [Nat.min_eq_left h, List.take_of_length_le (Nat.le_refl _), List.take_of_length_le h]
  simp [aminmax, asliceV, abnd, hk1, hk3, ek]
  exact resK.rt ⟨rfl, rfl, rfl⟩
def modI (a : Int) (n : Nat) : Int := IntKind.i64.wrap ((IntKind.u64.wrap a).tmod (IntKind.u64.wrap (n : Int)))
theorem uW (n : Int) : IntKind.u64.wrap n = n % 18446744073709551616 := by rw [IntKind.wrap_u64]
theorem modI_nat {a : Int} {n : Nat} (h0 : 0 < n) (h1 : n ≤ 17592186044416) : ∃ k : Nat, k < n ∧ modI a n = (k : Int) := by
  unfold modI
  rw [uW, uW]
  have h3 : (n : Int) % 18446744073709551616 = n := by omega
  rw [h3]
  have h2 := Int.emod_nonneg a (b := 18446744073709551616) (by omega)
  generalize a % 18446744073709551616 = b at *
  obtain ⟨c, rfl⟩ : ∃ c : Nat, b = c := ⟨b.toNat, by omega⟩
  refine ⟨c % n, Nat.mod_lt _ h0, ?_⟩
  have e : (c : Int).tmod n = ((c % n : Nat) : Int) := by rw [Int.tmod_eq_emod_of_nonneg (by omega)]; omega
  have := Nat.mod_lt c h0
  rw [e, wrap_id (by omega) (by omega)]
def whichF (p : Pk) (live : List Int) : Int := if p.2.1 = true ∨ live = [] then p.2.2 else live.getD (modI p.2.2 live.length).toNat 0
set_option maxHeartbeats 2000000 in
theorem which_ac (p : Pk) (live : List Int) (hl : live.length ≤ 1000) {η : AHeap} {n : Nat} : AC Tryz.prog 18 [.agg (pickC p), .rs 1 (ints live)] η n (Rt (.int .i64 (whichF p live)) η n) := by
  refine AC.pure (.int _ _) ?_
  obtain ⟨t, r, N⟩ := p
  refine AC.fresh fun hf => ?_; refine AC.enter Tryz.func18 rfl Tryz.ntmps18 (by simp) ?_
  have le1 : ∀ o, η.le (upd η n o) := fun o => le_upd (AHeap.le_rfl _) (hf n (Nat.le_refl _))
  simp [pickC, afield, aload, apart, upd_apply]
  refine CondP.intro (fun hr => ?_) (fun hr => ?_)
  · simp [hr, afield, aload, apart, upd_apply]
    exact resK.of (η' := η) (le1 _) _ (Nat.le_refl _) ⟨by simp [whichF, hr], rfl⟩
  · by_cases hL : live = []
    · subst hL
      simp [hr, afield, aload, apart, upd_apply]
      exact resK.of (η' := η) (le1 _) _ (Nat.le_refl _) ⟨by simp [whichF], rfl⟩
    · have hpos : 0 < live.length := List.length_pos_iff.2 hL
      obtain ⟨k, hk, ek⟩ := modI_nat (a := N) hpos (by omega)
      have ew : whichF (t, r, N) live = live[k] := by
        unfold whichF
        rw [if_neg (by simp [hr, hL]), ek]
        simp [hk]
      unfold modI at ek
      have u1 : ¬ IntKind.u64.wrap (live.length : Int) = 0 := by rw [uW]; omega
      simp [hL, hr, afield, aload, apart, upd_apply, aconv, u1, ek, aindex, hk]
      exact resK.of (η' := η) (le1 _) _ (Nat.le_refl _) ⟨by rw [ew], rfl⟩

set_option maxHeartbeats 8000000 in
theorem sameTold_ac (a : List PD) (ha : a.length ≤ 1000000) (ho : ∀ p ∈ a, p.out.length ≤ 1000000) {η : AHeap} {n : Nat} : AC Tryz.prog 33 [.rs 7 (toldR a), .rs 7 (toldR a)] η n (Rt (.bool true) η n) := by
  refine AC.pure (.bool _) ?_
  refine AC.fresh fun hf => ?_; refine AC.enter Tryz.func33 rfl Tryz.ntmps33 (by simp) ?_
  simp
  refine loopK.inv [4, 5, 6, 7, 13, 14, 15, 16, 17, 18, 19, 20, 21, 22, 23, 24, 25, 26, 27, 28, 29, 30, 31, 32, 33, 34, 35, 36, 37, 38, 39, 40, 41, 42, 43, 44, 45, 46, 47, 48, 49, 50, 51, 52, 53, 54, 55, 56, 57, 58, 59, 60, 61, 62, 63, 64, 65, 66, 67] (fun x : Nat × AHeap × Nat => x.1 ≤ a.length ∧ (∀ q, q < n → x.2.1 q = η q) ∧ n ≤ x.2.2) (fun x => [(5, .int .i64 x.1)]) (fun x => x.2.1) (fun x => x.2.2) (fun x => a.length - x.1) (0, η, n) ⟨by simp, fun _ _ => rfl, Nat.le_refl _⟩ (by simp) (AHeap.le_rfl _) (Nat.le_refl _) ?_
  intro ⟨k, η1, n1⟩ ⟨g1, g3, g4⟩
  simp only at g1 g3 g4
  simp
  refine CondP.dec (fun h => ?_) (fun h => ?_)
  · have ha' : k < a.length := by omega
    obtain ⟨x, ex⟩ : ∃ x, a[k] = x := ⟨_, rfl⟩
    have hxo := ho x (ex ▸ List.getElem_mem ha')
    have ewk : IntKind.i64.wrap ((k : Int) + 1) = (k : Int) + 1 := wrap_id (by omega) (by omega)
    simp [h]
    refine drawK.introF mixed [8, 9] [(0, []), (1, []), (2, []), (3, []), (4, []), (5, []), (6, []), (7, []), (8, [2, 3, 6, 7]), (9, [2, 3, 6, 7]), (10, [6, 7]), (11, [])] (by kernel_rfl) (by simp [fltC]) ?_
    simp [lk_some, chkK, aload, apart, afield, aindex, ha', ex, toldC, astore, upd_apply, aeqB, aeqS2 fields_reason]
    refine ACK.rt (sameLongs_ac (l1 := x.out) (l2 := x.out) (Or.inl rfl) (Or.inl rfl) (by omega)) ?_
    simp [ewk]
    refine endK.heap fun G hG => ?_
    refine endK.intro (k + 1, G, n1 + 2) ⟨by simp only; omega, fun q hq => ?_, by simp only; omega⟩ (by simp) (by repeat (first | exact Agree.mask _ _ | refine Agree.setf rfl ?_ | refine Agree.inner rfl ?_)) (AHeap.le_rfl _) (Nat.le_refl _) (show a.length - (k + 1) < a.length - k by omega)
    simp only
    rw [hG]
    simp only [upd_apply]
    repeat rw [if_neg (by omega)]
    exact g3 q hq
  · simp [h]
    exact resK.of (η' := η) (le_old hf g3) _ (Nat.le_refl _) ⟨rfl, rfl⟩
end Go.Proofs.YtbomkomipaipmaaGreat
namespace Go.Proofs.YtbomkomipaipmaaGreat
set_option maxRecDepth 100000

/-- what stands while a law runs -/
structure MLI (η0 : AHeap) (n0 mm k : Nat) (nm : Role → Nat) (D : MD) (η : AHeap) (n : Nat) : Prop where
  at' : MachAt η n nm D
  good : Good k D
  mach : nm .mach = mm
  keep : ∀ q, q < n0 → η q = η0 q
  own : ∀ q, InM nm D q → n0 ≤ q
  fr : ∀ q, n ≤ q → η q = none
  le : n0 ≤ n
theorem MLI.grow {η0 η η' : AHeap} {n0 mm k n n' : Nat} {nm : Role → Nat} {D : MD} (h : MLI η0 n0 mm k nm D η n) (hk : ∀ q, q < n → η' q = η q) (hf : ∀ q, n' ≤ q → η' q = none) (hn : n ≤ n') : MLI η0 n0 mm k nm D η' n' :=
  ⟨h.at'.grow (fun q hq => hk q (h.at'.inlt h.fr hq)) hn, h.good, h.mach, fun q hq => by rw [hk q (by have := h.le; omega), h.keep q hq], h.own, hf, Nat.le_trans h.le hn⟩
theorem MLI.nx {η0 η η' : AHeap} {n0 mm k k' n n' : Nat} {nm nm' : Role → Nat} {D D' : MD} (h : MLI η0 n0 mm k nm D η n) (b : Nx η n nm D η' n' nm' D') (hf : ∀ q, n' ≤ q → η' q = none) (g : Good k' D') : MLI η0 n0 mm k' nm' D' η' n' :=
  ⟨b.at', g, b.mach.trans h.mach, fun q hq => by rw [b.keep q (by have := h.le; omega) fun hq' => by have := h.own q hq'; omega, h.keep q hq], fun q hq => by rcases b.own q hq with k | k; exact h.own q k; have := h.le; omega, hf, Nat.le_trans h.le b.le⟩
/-- New, as a law begins -/
theorem MLI.start {η : AHeap} {n : Nat} {m : List Actr} {v : AVal} {η' : AHeap} {n' : Nat} (h0 : (checkF m).1 = 0) (h : NewK m η n v η' n') (hf : ∀ q, n' ≤ q → η' q = none) : ∃ nm, v = .tup [.ptr (nm .mach) 0 0, fltV (0, 0, 0)] ∧ MLI η n (nm .mach) 0 nm (newD m) η' n' := by
  unfold NewK at h
  rw [if_pos h0] at h
  obtain ⟨nm, h1, h2, h3, h4, h5⟩ := h
  exact ⟨nm, h1, h2, newD_good (modS_of h0), rfl, h3, h4, hf, h5⟩
theorem MLI.live {η0 η : AHeap} {n0 mm k n : Nat} {nm : Role → Nat} {D : MD} (h : MLI η0 n0 mm k nm D η n) : AC Tryz.prog 15 [.ptr mm 0 0] η n (Rt (.rs 1 (ints (liveP D))) η n) := by
  have := live_ac h.at' h.good.ok (by have := allP_len D.tab.sl 0; have := h.good.inv.tab.len; omega)
  rw [h.mach] at this
  exact this
theorem MLI.run {η0 η : AHeap} {n0 mm k n : Nat} {nm : Role → Nat} {D : MD} (h : MLI η0 n0 mm k nm D η n) (pid : Int) : AC Tryz.prog 16 [.ptr mm 0 0, .int .i64 pid] η n (Rt (.bool (runnableP D pid)) η n) := by
  have := runnable_ac h.at' h.good.ok pid
  rw [h.mach] at this
  exact this
theorem MLI.look {η0 η : AHeap} {n0 mm k n : Nat} {nm : Role → Nat} {D : MD} (h : MLI η0 n0 mm k nm D η n) (pid : Int) : AC Tryz.prog 24 [.ptr mm 0 0, .int .i64 pid] η n (Rt (lookV (lookF D pid)) η n) := by
  have := look_ac h.at' h.good pid
  rw [h.mach] at this
  exact this
theorem MLI.all {η0 η : AHeap} {n0 mm k n : Nat} {nm : Role → Nat} {D : MD} (h : MLI η0 n0 mm k nm D η n) (hk : k ≤ 5000) : AC Tryz.prog 22 [.ptr mm 0 0] η n (Rt (.rs 7 (toldR D.ps)) η n) := by
  have := mall_ac' h.at' h.good hk
  rw [h.mach] at this
  exact this
theorem MLI.now {η0 η : AHeap} {n0 mm k n : Nat} {nm : Role → Nat} {D : MD} (h : MLI η0 n0 mm k nm D η n) : AC Tryz.prog 32 [.ptr mm 0 0] η n (Rt (.int .i64 D.now) η n) := by
  have := now_ac h.at'
  rw [h.mach] at this
  exact this
theorem MLI.end {η0 η : AHeap} {n0 mm k n : Nat} {nm : Role → Nat} {D : MD} (h : MLI η0 n0 mm k nm D η n) : AC Tryz.prog 37 [.ptr mm 0 0] η n (Rt (.int .i64 (endF D)) η n) := by
  have := mend_ac h.at' h.good.ok
  rw [h.mach] at this
  exact this
theorem MLI.tick {η0 η : AHeap} {n0 mm k n : Nat} {nm : Role → Nat} {D : MD} (h : MLI η0 n0 mm k nm D η n) (hk : k ≤ 5000) : AC Tryz.prog 17 [.ptr mm 0 0] η n (fun v η' n' => OutI η' n n' v (wokenL (tickD D) (waitL D)) ∧ MLI η0 n0 mm (k + 1) nm (tickD D) η' n') := by
  have := (tick_ac h.at' h.good hk).freshN
  rw [h.mach] at this
  exact this.mono fun v η' n' ⟨⟨a, b⟩, c, _⟩ => ⟨a, h.nx b c h.good.tick⟩
theorem MLI.do {η0 η : AHeap} {n0 mm k n : Nat} {nm : Role → Nat} {D : MD} (h : MLI η0 n0 mm k nm D η n) (hk : k ≤ 5000) (pid : Int) : AC Tryz.prog 19 [.ptr mm 0 0, .int .i64 pid] η n (fun v η' n' => ∃ nm' D' l e u, v = .tup [u, .int .i64 e] ∧ OutI η' n n' u l ∧ DoR D pid D' l e ∧ MLI η0 n0 mm (k + 1) nm' D' η' n' ∧ n ≤ n' ∧ ∀ q, q < n → ¬ InM nm D q → η' q = η q) := by
  have := (do_ac h.at' h.good hk pid).freshN
  rw [h.mach] at this
  exact this.mono fun v η' n' ⟨⟨nm', D', l, e, u, e1, e2, e3, e4⟩, c, _⟩ => ⟨nm', D', l, e, u, e1, e2, e4, h.nx e3 c (DoR.good h.good e4), e3.le, fun q a b => e3.keep q a b⟩
theorem liveP_len {D : MD} (h : MInv D) : (liveP D).length ≤ 32 := by
  unfold liveP; simp
  have := allP_len D.tab.sl 0; have := h.tab.len; omega
theorem lookF_there {D : MD} (pid : Int) : (lookF D pid).2.2 = (atP D.ps pid).isSome := by
  unfold lookF
  cases ha : atP D.ps pid with
  | none => rfl
  | some i =>
    obtain ⟨p, hp, _, _⟩ := atP_some ha
    simp only [hp]; rfl
set_option maxHeartbeats 8000000 in
theorem runs_ac (m : List Actr) (sc : List Pk) (h64 : Mod64 m) (hsc : sc.length ≤ 17592186044416) (η : AHeap) (n : Nat) : AC Tryz.prog 8 [modV m, .rs 3 (pkR sc)] η n (Rt (.bool true) η n) := by
  refine AC.pure (.bool _) ?_
  have hnew := fun η n => mnew16_ac (η := η) (n := n) h64
  simp only [modV] at hnew ⊢
  refine AC.fresh fun hf => ?_; refine AC.enter Tryz.func8 rfl Tryz.ntmps8 (by simp) ?_
  simp
  refine ACK.rt lives_ac ?_
  simp
  refine ACK.rt (early_ac sc hsc) ?_
  obtain ⟨L, hL⟩ : ∃ L, L = sc.take 1000 := ⟨_, rfl⟩
  have hLl : L.length ≤ 1000 := by rw [hL]; simp; omega
  rw [← hL]
  clear hL
  simp [aload, apart, upd_apply]
  refine ACK.use (hnew _ _).freshN ?_
  intro v η1 n1 ⟨hv, hf1, hn1⟩
  by_cases h0 : (checkF m).1 = 0
  · obtain ⟨nm, rfl, hI⟩ := MLI.start h0 hv hf1
    simp [fltV, aload, apart, afield, astore, upd_apply, upd_upd]
    have hI0 := hI.grow (η' := upd η1 n1 (some (.cells 3 [[.int .i64 0, .int .i64 0, .int .i64 0]]))) (n' := n1 + 1) (fun q hq => upd_ne (by omega)) (fun q hq => by rw [upd_ne (by omega)]; exact hf1 q (by omega)) (by omega)
    obtain ⟨mm, hmm⟩ : ∃ mm, mm = nm .mach := ⟨_, rfl⟩
    rw [← hmm] at hI0 ⊢
    refine loopK.inv [4, 7, 8, 9, 10, 11, 12, 13, 14, 15, 16, 17, 32, 33, 34, 35, 36, 37, 38, 39, 40, 41, 42, 43, 44, 45, 46, 47, 48, 49, 50, 51, 52, 53, 54, 55, 56, 57, 58, 59, 60, 61, 62, 63, 64, 65, 66, 67, 68, 69, 70, 71, 72, 73, 74, 75, 76, 77, 78, 79, 80, 81, 82, 83, 84, 85, 86, 87, 88, 89, 90, 91, 92, 93, 94, 95, 96, 97, 98, 99, 100, 101, 102, 103, 104, 105, 106, 107, 108, 109, 110, 111, 112, 113, 114, 115, 116, 117, 118] (fun s : Nat × (Role → Nat) × MD × AHeap × Nat => s.1 ≤ L.length ∧ MLI (upd η n (some (.cells 1 [[.rs 5 (actsC m)]]))) (n + 1) mm s.1 s.2.1 s.2.2.1 s.2.2.2.1 s.2.2.2.2) (fun s => [(7, .int .i64 s.1)]) (fun s => s.2.2.2.1) (fun s => s.2.2.2.2) (fun s => L.length - s.1) (0, nm, newD m, upd η1 n1 (some (.cells 3 [[.int .i64 0, .int .i64 0, .int .i64 0]])), n1 + 1) ⟨by simp, hI0⟩ (by simp) (AHeap.le_rfl _) (Nat.le_refl _) ?_
    intro ⟨k, nm2, D, η2, n2⟩ ⟨j1, j2⟩
    simp only at j1 j2
    simp
    refine CondP.dec (fun hk => ?_) (fun hk => ?_)
    · have hk' : k < L.length := by omega
      have ewk : IntKind.i64.wrap ((k : Int) + 1) = (k : Int) + 1 := wrap_id (by omega) (by omega)
      obtain ⟨t, r, N, hP⟩ : ∃ t r N, L[k] = (t, r, N) := ⟨_, _, _, rfl⟩
      simp [hk, aindex, hP, pickC, aload, apart, afield]
      refine CondP.intro (fun ht => ?_) (fun ht => ?_)
      · simp
        refine ACK.use (j2.tick (by omega)).freshN ?_
        intro tv η3 n3 ⟨⟨_, j3⟩, _, hn3⟩
        simp [ewk]
        exact endK.intro (k + 1, nm2, tickD D, η3, n3) ⟨by simp only; omega, j3⟩ (by simp) (by repeat (first | exact Agree.mask _ _ | refine Agree.setf rfl ?_ | refine Agree.inner rfl ?_)) (AHeap.le_rfl _) (Nat.le_refl _) (show L.length - (k + 1) < L.length - k by omega)
      · simp
        have l32 := liveP_len j2.good.inv
        have hw := fun η n => which_ac (η := η) (n := n) (t, r, N) (liveP D) (by omega)
        obtain ⟨pid, hpid⟩ : ∃ pid, whichF (t, r, N) (liveP D) = pid := ⟨_, rfl⟩
        simp only [pickC, hpid] at hw
        refine drawK.intro mixed [(0, []), (1, []), (2, []), (3, []), (4, []), (5, [2, 3]), (6, []), (7, [])] (by kernel_rfl) ?_
        simp [lk_some, chkK, aindex, hk', hP, pickC, aload, apart]
        refine ACK.rt j2.live ?_
        simp [hk', hP, pickC]
        refine ACK.rt (hw _ _) ?_
        simp
        refine ACK.rt (j2.run pid) ?_
        simp
        refine ACK.rt (j2.look pid) ?_
        have hth := lookF_there (D := D) pid
        obtain ⟨th, hth2⟩ : ∃ th, (lookF D pid).2.2 = th := ⟨_, rfl⟩
        rw [hth2] at hth
        simp [lookV, stV, stC, astore, upd_apply, upd_upd, hth2]
        refine ACK.heap fun H hH => ?_
        have j3 := j2.grow (η' := H) (n' := n2 + 1) (fun q hq => by rw [hH, upd_ne (by omega)]) (fun q hq => by rw [hH, upd_ne (by omega)]; exact j2.fr q (by omega)) (by omega)
        clear hH
        refine ACK.rt (j3.all (by omega)) ?_
        simp
        refine ACK.rt j3.now ?_
        simp
        refine ACK.rt j3.live ?_
        simp
        refine ACK.use (j3.do (by omega) pid) ?_
        intro v η3 n3 ⟨nm3, D', l, e, u, ev, hu, hdo, j4, hn3, _⟩
        subst ev
        have husc : u.sc = true := by rcases hu with ⟨rfl, _⟩ | ⟨g, rfl, _⟩ <;> rfl
        have houts : ∀ p ∈ D.ps, p.out.length ≤ 1000000 := fun p hp => by have := j2.good.out p hp; omega
        have hnum := j2.good.num
        rcases hdo.cases j3.good with ⟨rfl, _, ⟨rfl, ha, hr⟩ | ⟨rfl, hr, i, ha⟩⟩ | ⟨rfl, hr, i, p, ha, _⟩
        · rw [ha] at hth
          simp at hth
          subst hth
          simp [hr, aeqB]
          refine ACK.rt (j4.all (by omega)) ?_
          simp
          refine ACK.rt (sameTold_ac _ (by omega) houts) ?_
          simp
          refine ACK.rt j4.now ?_
          simp
          refine ACK.rt j4.live ?_
          simp
          refine ACK.rt (sameLongs_ac (Or.inl rfl) (Or.inl rfl) (by omega)) ?_
          simp [ewk]
          exact endK.intro (k + 1, nm3, _, η3, n3) ⟨by simp only; omega, j4⟩ (by simp) (by repeat (first | exact Agree.mask _ _ | refine Agree.setf rfl ?_ | refine Agree.inner rfl ?_)) (AHeap.le_rfl _) (Nat.le_refl _) (show L.length - (k + 1) < L.length - k by omega)
        · rw [ha] at hth
          simp at hth
          subst hth
          simp [hr, aeqB]
          refine ACK.rt (j4.all (by omega)) ?_
          simp
          refine ACK.rt (sameTold_ac _ (by omega) houts) ?_
          simp
          refine ACK.rt j4.now ?_
          simp
          refine ACK.rt j4.live ?_
          simp
          refine ACK.rt (sameLongs_ac (Or.inl rfl) (Or.inl rfl) (by omega)) ?_
          simp [ewk]
          exact endK.intro (k + 1, nm3, _, η3, n3) ⟨by simp only; omega, j4⟩ (by simp) (by repeat (first | exact Agree.mask _ _ | refine Agree.setf rfl ?_ | refine Agree.inner rfl ?_)) (AHeap.le_rfl _) (Nat.le_refl _) (show L.length - (k + 1) < L.length - k by omega)
        · rw [ha] at hth
          simp at hth
          subst hth
          simp [hr, aeqB, ewk]
          exact endK.intro (k + 1, nm3, _, η3, n3) ⟨by simp only; omega, j4⟩ (by simp) (by repeat (first | exact Agree.mask _ _ | refine Agree.setf rfl ?_ | refine Agree.inner rfl ?_)) (AHeap.le_rfl _) (Nat.le_refl _) (show L.length - (k + 1) < L.length - k by omega)
    · simp [hk]
      refine resK.of (η' := η) (le_old hf fun q hq => ?_) _ (Nat.le_refl _) ⟨rfl, rfl⟩
      rw [j2.keep q (by omega), upd_ne (by omega)]
  · unfold NewK at hv
    rw [if_neg h0] at hv
    obtain ⟨rfl, hk, _⟩ := hv
    simp [fltV, aload, apart, afield, astore, upd_apply, upd_upd, h0]
    refine resK.of (η' := η) (le_old hf fun q hq => ?_) _ (Nat.le_refl _) ⟨rfl, rfl⟩
    rw [upd_ne (by omega), hk q (by omega), upd_ne (by omega)]
end Go.Proofs.YtbomkomipaipmaaGreat
namespace Go.Proofs.YtbomkomipaipmaaGreat
open Go.ChangeShapes Go.WideShapes Go.ChangeAt Go.WideMaps Go.WideElems Go.RowKit
theorem own : ownKnob Tryz.prog.godebug = none := by kernel_rfl
theorem laidOut : laidOutB Tryz.prog = true := by kernel_rfl
end Go.Proofs.YtbomkomipaipmaaGreat
