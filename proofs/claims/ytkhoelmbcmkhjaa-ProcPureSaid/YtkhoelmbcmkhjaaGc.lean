/- Layer 6, the reference: Check. Layer 6 (check): Shapes. Layer 6 (check): Shapes, by the program. -/
import Derived.Test.YtkhoelmbcmkhjaaCz
namespace Go.Proofs.Ytkhoelmbcmkhjaa
set_option maxRecDepth 100000

theorem check06_ac (m : List Actr) (η : AHeap) (n : Nat) (hm : Mod64 m) : AC Try.prog 26 [modV m] η n (Rt (fltV (checkF m)) η n) := by
  refine AC.pure (fltV_nr _) ?_
  refine AC.fresh fun hf => ?_; refine AC.enter Try.func26 rfl Try.ntmps26 (by simp) ?_
  have le2 : ∀ o o', η.le (upd (upd η n o) (n + 1) o') := fun o o' => le_upd (le_upd (AHeap.le_rfl _) (hf n (Nat.le_refl _))) (hf _ (by omega))
  have hmr := fun η n => right05_ac m η n hm
  simp only [modV, actsC] at hmr
  simp [modV, actsC, aload, apart, upd_eq, upd_ne]
  refine ACK.rt (hmr _ _) ?_
  simp
  by_cases h1 : rightM m = 0
  rotate_left
  · have e : checkF m = (rightM m, 0, 0) := by unfold checkF; rw [if_pos h1]
    simp [h1, abuild, aplace, afillP, astore, aload, apart, upd_eq]
    rw [e]
    exact resK.of (η' := η) (by rw [upd_upd]; exact le2 _ _) _ (Nat.le_refl _) ⟨rfl, rfl⟩
  have e : checkF m = checkN m m.length 0 := by unfold checkF; rw [if_neg (by simpa using h1)]
  simp [h1]
  refine loopK.inv [4, 5, 6, 7, 14, 15, 16, 17, 18, 19, 20, 21, 22, 23, 24, 25, 26, 27, 28, 29, 30, 31] (fun a : Nat × AHeap × Nat => ChI m n η a.1 a.2.1 a.2.2) (fun a => [(4, .int .i64 a.1)]) (fun a => a.2.1) (fun a => a.2.2) (fun a => m.length - a.1) (0, upd (upd η n (some (.cells 1 [[.rs 5 (actsC m)]]))) (n + 1) (some (.cells 3 [[.int .i64 0, .int .i64 0, .int .i64 0]])), n + 2) ⟨by simp, rfl, fun y hy => by show upd _ _ _ y = _; rw [upd_ne (by omega), upd_ne (by omega)], by show upd _ _ _ n = _; rw [upd_ne (by omega), upd_eq], upd_eq .., Nat.le_refl _, fun y hy => by
    have hy' : n + 2 ≤ y := hy
    show upd _ _ _ y = _
    rw [upd_ne (by omega), upd_ne (by omega)]; exact hf y (by omega)⟩ (by simp) (by simp [actsC, AHeap.le]) (by simp) ?_
  intro ⟨k, η', n'⟩ hI
  replace hI : ChI m n η k η' n' := hI
  have b1 := hI.b1
  have b2 := hI.b2
  have hn' := hI.le
  have heq := hI.eq
  have hm64 := hm.1
  simp only [actsC] at b1
  simp [aload, afield, apart, b1]
  refine CondP.dec (fun h2 => ?_) (fun h2 => ?_)
  · have h2' : k < m.length := by omega
    have hc := lcOK_of h1 h2'
    have hac := fun η n => actor06_ac m k h2' hc η n
    simp only [modV, actsC, actRes] at hac
    have ej : m.length - k = (m.length - (k + 1)) + 1 := by omega
    rw [ej, checkN] at heq
    have hne : n + 1 ≠ n' := by omega
    simp [h2, aload, apart, b1]
    refine ACK.rt (hac _ _) ?_
    simp [fltV, astore, upd_eq, upd_upd, afield, aload, apart]
    have hle : ∀ o, η'.le (upd η' n' o) := fun o => le_upd (AHeap.le_rfl _) (hI.free _ (Nat.le_refl _))
    have hle0 : ∀ o o', η.le (upd (upd η' n' o) (n + 1) o') := fun o o' y ob hy => by
      have hyn : y < n := by
        rcases Nat.lt_or_ge y n with h | h
        · exact h
        · rw [hf y h] at hy; cases hy
      rw [upd_ne (by omega), upd_ne (by omega), hI.fr y hyn]; exact hy
    by_cases h3 : (lookL m k).2.1 = 0
    · rw [if_neg (by simpa using h3)] at heq
      have ew : IntKind.i64.wrap ((k : Int) + 1) = (k : Int) + 1 := wrap_id (by omega) (by omega)
      simp [h3, ew]
      exact endK.intro (k + 1, η', n' + 1) (⟨h2', heq, hI.fr, hI.b1, b2, by omega, fun y hy => hI.free y (by omega)⟩ : ChI m n η (k + 1) η' (n' + 1)) (by simp) (by repeat (first | exact Agree.mask _ _ | refine Agree.setf rfl ?_ | refine Agree.inner rfl ?_)) (hle _) (Nat.le_refl _) (show m.length - (k + 1) < m.length - k by omega)
    · rw [if_pos h3] at heq
      simp [h3, astore, aload, apart, upd_eq, upd_ne hne, b2]
      rw [e, ← heq]
      exact resK.of (η' := η) (hle0 _ _) _ (Nat.le_refl _) ⟨rfl, rfl⟩
  · have hkm : k = m.length := by have := hI.hk; omega
    rw [hkm, Nat.sub_self, checkN] at heq
    simp [h2, abuild, aplace, afillP, astore, b2, aload, apart, upd_eq]
    rw [e, ← heq]
    refine resK.of (η' := η) (fun y ob hy => ?_) _ (Nat.le_refl _) ⟨rfl, rfl⟩
    have hyn : y < n := by
      rcases Nat.lt_or_ge y n with h | h
      · exact h
      · rw [hf y h] at hy; cases hy
    show upd _ _ _ y = _
    rw [upd_ne (by omega), hI.fr y hyn]; exact hy

/-- a call that only looks: all is lent as read only, and one's own again behind it -/
theorem AC.lend {P : Program} {f : FuncId} {args : List AVal} {η : AHeap} {n : Nat} (fu : Nat) {v : AVal} (hR : ∀ own M own' M' u, VR own' M' v u → VR own M v u) (h : AC P f (args.map (frz (fun _ => true) η fu)) (fun _ => none) n (Rt v (fun _ => none) n)) :
    AC P f args η n (Rt v η n) := by
  intro own M w vals hst h2 h3
  have hst1 := frzH_st hst (fun _ => true) [] fu
  have e0 : frzH (fun _ => true) [] fu η = fun _ => none := by funext x; unfold frzH; simp
  rw [e0] at hst1
  refine (h own (frzM own M (fun _ => true) η w) w vals hst1 (by simpa using h2) fun i c hi => ?_).mono ?_
  · rw [List.getElem?_map] at hi
    cases hx : args[i]? with
    | none => rw [hx] at hi; simp at hi
    | some c0 => rw [hx] at hi; simp at hi; subst hi; exact frz_sound hst (fun _ => true) fu c0 _ (h3 i c0 hx)
  rintro e w' ⟨u, rfl, v', η', n', own', M', ⟨hv, hη, hn⟩, a1, a2, a3, a4, a5, a6, a7⟩
  subst hv hη
  have hno : ∀ b, ¬ OB own (fun _ => none) b := fun b ⟨r, p, o, g, _⟩ => by cases g
  refine ⟨u, rfl, v', η, n, own, M, ⟨rfl, rfl, rfl⟩, Nat.le_refl _, ⟨hst.fresh, fun r o hr => ?_, hst.inj, fun b arr hb => a2.mem b arr (a5 _ _ (frzM_le _ _ _ hb))⟩, hR _ _ _ _ _ a3, Own.le_refl _, Mem.le_refl _, a6.weaken fun b hb => absurd hb (hno b), fun b hb => Or.inl hb, fun b hb => Or.inl hb⟩
  obtain ⟨p, g1, g2⟩ := hst.obj r o hr
  exact ⟨p, g1, g2.keep (Own.le_refl _) (Mem.le_refl _) (fun hs => a6.block _ (g2.lt hs) (hno _)) fun hs => g2.noMem hs⟩
theorem int_plain {own : Own} {M : Mem} {own' : Own} {M' : Mem} {k : IntKind} {n : Int} {u : Value} (h : VR own' M' (.int k n) u) : VR own M (.int k n) u := by
  cases h; exact .int k n
theorem fltV_plain (f : Int × Int × Int) : ∀ own M own' M' u, VR own' M' (fltV f) u → VR own M (fltV f) u := fun own M own' M' u h => by
  cases h with
  | agg _ A hA hs hc =>
  refine .agg _ A hA hs fun i c hi => ?_
  have := hc i c hi
  match i, hi with
  | 0, hi => simp at hi; subst hi; exact int_plain this
  | 1, hi => simp at hi; subst hi; exact int_plain this
  | 2, hi => simp at hi; subst hi; exact int_plain this

theorem chunk_one : ∀ (k : Nat) (l : List AVal), l.length = k → chunk 1 k l = rows1 l
  | 0, [], _ => by simp [chunk, rows1]
  | k + 1, v :: l, h => by
    have := chunk_one k l (by simpa using h)
    simp [chunk, rows1] at this ⊢
    exact this
def NewB (η : AHeap) (n : Nat) (l : List Bool) : AVal → AHeap → Nat → Prop := fun u η' n' => ∃ q, u = .sl q 0 l.length ∧ η' q = some (.cells 1 (rows1 (bools l))) ∧ n ≤ q ∧ q < n' ∧ ∀ r, r < n → η' r = η r
theorem cloneB_ac {c : Lc} {v : AVal} {hs td : List Bool} {g k : Nat} {η : AHeap} {n : Nat} (hg : η g = some (.cells 408 [lookC c v hs td])) (h1 : hs.length = 200) (h2 : td.length = 200) (hk : k ≤ 200) : AC Try.prog 54 [.arr g 0 8 k 1] η n (NewB η n (hs.take k)) := by
  have hlen : (lookC c v hs td).length = 408 := lookC_len _ _ _ _ h1 h2
  have et : List.take k (List.drop 8 (lookC c v hs td)) = bools (hs.take k) := by
    have : List.drop 8 (lookC c v hs td) = bools hs ++ bools td := rfl
    rw [this, List.take_append_of_le_length (by simp [bools]; omega)]
    simp [bools, List.map_take]
  have hr : ∀ η', η' g = some (.cells 408 [lookC c v hs td]) → arows 1 (.arr g 0 8 k 1) η' = some (rows1 (bools (hs.take k))) := fun η' h => by
    simp [arows, h, hlen, et]
    exact ⟨by omega, chunk_one _ _ (by simp [bools]; omega)⟩
  have hl : (rows1 (bools (hs.take k))).length = k := by simp [rows1, bools]; omega
  have hsc : ∀ r ∈ rows1 (bools (hs.take k)), ∀ c ∈ r, c.sc = true := by
    intro r hr c hc
    obtain ⟨w, hw, rfl⟩ := List.mem_map.1 hr
    obtain ⟨b, _, rfl⟩ := List.mem_map.1 hw
    simp at hc; subst hc; rfl
  refine AC.fresh fun hf => ?_
  have hgn : g ≠ n := fun e => by subst e; rw [hf g (Nat.le_refl _)] at hg; cases hg
  refine AC.enter Try.func54 rfl Try.ntmps54 (by simp) ?_
  simp [nilcmp, anil, abuildS, afillP, chunk, appK, aappend, tek, upd_eq, hr (upd η n (some (.cells 1 []))) (by rw [upd_ne hgn]; exact hg), hl, lenMax]
  refine ⟨hsc, by omega, by omega, resK.same ⟨n + 1, by simp; omega, upd_eq .., by omega, by omega, fun r hr => by rw [upd_ne (by omega), upd_ne (by omega), upd_ne (by omega)]⟩ (Nat.le_refl _)⟩
/-- Shapes speaks of this actor -/
def shpB (m : List Actr) (a : Int) : Bool := decide (checkF m = (0, 0, 0) ∧ 0 ≤ a ∧ a < m.length)
theorem checkN_zero (m : List Actr) : ∀ (j k : Nat), (checkN m j k).1 = 0 → checkN m j k = (0, 0, 0)
  | 0, _, _ => rfl
  | j + 1, k, h => by
    unfold checkN at *
    by_cases h1 : (lookL m k).2.1 ≠ 0
    · rw [if_pos h1] at h; exact absurd h h1
    · rw [if_neg h1] at h ⊢; exact checkN_zero m j (k + 1) h
theorem checkF_zero {m : List Actr} (h : (checkF m).1 = 0) : checkF m = (0, 0, 0) ∧ rightM m = 0 := by
  unfold checkF at *
  by_cases h1 : rightM m ≠ 0
  · rw [if_pos h1] at h; exact absurd h h1
  · rw [if_neg h1] at h ⊢; exact ⟨checkN_zero m _ _ h, by simpa using h1⟩
/-- its own rows -/
def ShpPost (m : List Actr) (a : Int) (η : AHeap) (n : Nat) : AVal → AHeap → Nat → Prop := fun r η' n' => ((shpB m a = false ∧ r = .tup [.nils, .nils]) ∨ (shpB m a = true ∧ ∃ q h vs, r = .tup [.sl q 0 (actr m a).code.length, .sl h 0 (actr m a).code.length] ∧ n ≤ q ∧ n ≤ h ∧ η' h = some (.cells 1 (rows1 (bools ((lookL m a.toNat).1.has.take (actr m a).code.length)))) ∧ (∃ g, h ≠ g ∧ h ≠ q ∧ LkAt ⟨m, a.toNat, actr m a⟩ (lookL m a.toNat).1 n g q vs η'))) ∧ (∀ y, y < n → η' y = η y) ∧ n ≤ n'
theorem LkAt.low {c : Lc} {x : Lx} {B B' g q : Nat} {vs : List AVal} {η : AHeap} (h : LkAt c x B g q vs η) (hB : B' ≤ B) : LkAt c x B' g q vs η :=
  ⟨h.hg, h.hq, h.gq, Nat.le_trans hB h.bg, Nat.le_trans hB h.bq, h.lh, h.lt, h.lv, h.ls, h.rows, fun i r m hi => Nat.le_trans hB (h.big i r m hi), h.apt⟩
theorem shapes_ac (m : List Actr) (a : Int) (η : AHeap) (n : Nat) (hm : Mod64 m) : AC Try.prog 27 [modV m, .int .i64 a] η n (ShpPost m a η n) := by
  have hch := fun η n => check_ac m η n hm
  simp only [modV, actsC, fltV] at hch
  refine AC.fresh fun hf => ?_; refine AC.enter Try.func27 rfl Try.ntmps27 (by simp) ?_
  have o1 : ∀ o x, x < n → upd η n o x = η x := fun o x hx => upd_ne (by omega)
  simp [modV, actsC, aload, apart, upd_eq]
  refine ACK.rt (hch _ _) ?_
  have ev : ∀ f : Int × Int × Int, aeqS Try.prog 68 [.int .i64 f.1, .int .i64 f.2.1, .int .i64 f.2.2] [.int .i64 0, .int .i64 0, .int .i64 0] = some (decide (f = (0, 0, 0))) := fun f => by
    rw [aeqS3 fields_fault]
    simp [Prod.ext_iff]
  simp [abuild, aplace, afillP, ev]
  have bad : shpB m a = false → ∀ {fr : Nat → AVal} {nt : Nat} {o : Option AObj} {gg}, resK (some (.tup [.nils, .nils])) ⟨fr, nt, upd η n o, n + 1⟩ (ShpPost m a η n) gg := fun h _ _ _ _ => resK.same ⟨Or.inl ⟨h, rfl⟩, o1 _, by omega⟩ (Nat.le_refl _)
  by_cases hz : checkF m = (0, 0, 0)
  rotate_left
  · simp [hz]
    exact bad (by simp [shpB, hz])
  by_cases ha : a < 0
  · simp [hz, ha]
    exact bad (by simp [shpB]; omega)
  by_cases hb : (m.length : Int) ≤ a
  · simp [hz, ha, hb, afield, aload, apart, upd_eq]
    exact bad (by simp [shpB]; omega)
  obtain ⟨k, rfl⟩ : ∃ k : Nat, a = k := ⟨a.toNat, by omega⟩
  have hk : k < m.length := by omega
  have h1 := (checkF_zero (m := m) (by rw [hz])).2
  have hc := lcOK_of h1 hk
  have hbg := fun η n => begin_ac m k hk hc.ownA.c200 η n
  simp only [modV, actsC] at hbg
  simp [hz, ha, hb, afield, aload, apart, upd_eq]
  refine ACK.use (hbg _ _).freshP ?_
  intro r1 η1 n1 ⟨⟨g, q, vs, e1, hL1, hk1, hn1⟩, hf1⟩
  subst e1
  simp
  refine ACK.use (all_ac hc hL1 (LI0 hc.ownA.c0)).freshP ?_
  intro r2 η2 n2 ⟨⟨vs2, e2, hL2, hfr2, hn2⟩, hf2⟩
  subst e2
  have hlk : allL ⟨m, k, actr m k⟩ 700 (lx0 (actr m k).code.length) = lookL m k := rfl
  rw [hlk] at hL2
  have hlt := hL2.lt' hf2
  have lv := hL2.lv
  have h200 := hc.ownA.c200
  simp only at lv h200
  have hl2 : (vs2.length : Int) ≤ 200 := by omega
  simp
  refine drawK.intro mixed [(0, []), (1, []), (2, []), (3, []), (4, []), (5, []), (6, []), (7, []), (8, []), (9, []), (10, []), (11, []), (12, []), (13, [3]), (14, []), (15, [])] (by kernel_rfl) ?_
  simp [aload, afield, apart, hL2.hg, asliceV, abnd, hl2]
  refine ACK.use (cloneB_ac hL2.hg hL2.lh hL2.lt (by omega)).freshP ?_
  intro r3 η3 n3 ⟨⟨h, e3, hh, hh1, hh2, hh3⟩, hf3⟩
  subst e3
  have hg3 : η3 g = some (.cells 408 [lookC ⟨m, k, actr m k⟩ (.sl q 0 vs2.length) (lookL m k).1.has (lookL m k).1.todo]) := by rw [hh3 g hlt.1]; exact hL2.hg
  simp [lk_some, chkK, hg3]
  have bg := hL1.bg
  have bq := hL1.bq
  have hL3 := hL2.keep hf2 hh3
  refine resK.same ⟨Or.inr ⟨by simp [shpB, hz]; omega, q, h, vs2, ?_, by omega, by omega, ?_, g, by omega, by omega, ?_⟩, fun y hy => by rw [hh3 y (by omega), hfr2 y (by omega) (by omega) (by omega), hk1 y (by omega), o1 _ y hy], by omega⟩ (Nat.le_refl _)
  · have := hL2.lh
    have em : min vs2.length (lookL m k).1.has.length = vs2.length := by omega
    rw [em, lv]
  · rw [lv] at hh; exact hh
  · exact hL3.low (by omega)
theorem allL_li {c : Lc} (hc : LcOK c) : ∀ (f : Nat) (x : Lx), LI c x → LI c (allL c f x).1
  | 0, x, h => h
  | f + 1, x, h => by
    unfold allL
    cases ht : x.todo.findIdx? id with
    | none => exact h
    | some p =>
      simp only
      obtain ⟨_, o2, o3⟩ := off_goes h ht
      have hg := (atL_goes hc o3 o2).2
      split
      · exact hg
      · exact allL_li hc f _ hg
/-! ### what Shapes hands back, to be read only -/
def shpRes (m : List Actr) (a : Int) : AVal := if shpB m a = true then .tup [.rs 1 (shpC (lookL m a.toNat).1.shapes), .rs 1 (boolC ((lookL m a.toNat).1.has.take (actr m a).code.length))] else .tup [.rs 1 [], .rs 1 []]
theorem shpRes_nq (m : List Actr) (a : Int) (η : AHeap) : NQ η (shpRes m a) := by
  have e : NQ η (.rs 1 []) := .rs _ _ (by simp)
  unfold shpRes; split
  · exact .tup _ (by simp; exact ⟨shpC_nq η _, boolC_nq η _⟩)
  · exact .tup _ (by simp; exact e)
theorem ent_own (n : Nat) (η : AHeap) (fu g q : Nat) (hq : ∀ r, r ≠ g → True) : ∀ (vs : List AVal) (ls : List (List Int)), vs.length = ls.length → (∀ (i r m : Nat), vs[i]? = some (AVal.sl r 0 m) → n ≤ r) → (∀ i (h : i < vs.length), RowAt g q η vs[i] (ls.getD i []) ∧ (ls.getD i []).length ≤ 1000) → EntR ((rows1 vs).map fun row => row.map (gnd n η (fu + 1))) (shpC ls)
  | [], [], _, _, _ => trivial
  | v :: vs, l :: ls, hl, hb, h => by
    refine ⟨⟨?_, trivial⟩, ent_own n η fu g q hq vs ls (by simpa using hl) (fun i r m hi => hb (i + 1) r m (by simpa using hi)) fun i hi => h (i + 1) (by simpa using hi)⟩
    obtain ⟨h0, hl0⟩ := h 0 (by simp)
    have hn := hb 0
    simp at h0 hl0 hn
    rcases h0 with ⟨e, e2⟩ | ⟨r, e, e2, e3⟩
    · rw [e, e2, gnd_nils]; exact Ent.nils 1
    · rw [e, gnd_new (hn r _ e) e2 (by rw [ints_length]; omega) (by simp only [lenMax]; omega), List.drop_zero, tk_ints, ints_gnd]
      exact Ent.refl _
theorem shapesR_ac (m : List Actr) (a : Int) (η : AHeap) (n : Nat) (hm : Mod64 m) : AC Try.prog 27 [modV m, .int .i64 a] η n (Rt (shpRes m a) η n) := by
  refine AC.gnd1 (shpRes_nq m a η) 4 ((shapes_ac m a η n hm).mono ?_)
  rintro v η' n' ⟨h, h2, _⟩
  refine ⟨h2, ?_⟩
  rcases h with ⟨hb, rfl⟩ | ⟨hb, q, h, vs, rfl, hq, hh, hh2, g, hg1, hg2, hL⟩
  · unfold shpRes
    rw [if_neg (by simp [hb]), gnd_tup]
    exact Ent.tup ⟨by rw [gnd_nils]; exact Ent.nils 1, by rw [gnd_nils]; exact Ent.nils 1, trivial⟩
  · unfold shpRes
    rw [if_pos hb, gnd_tup]
    have hb' := hb
    simp only [shpB, decide_eq_true_eq] at hb'
    obtain ⟨k, rfl⟩ : ∃ k : Nat, a = k := ⟨a.toNat, by omega⟩
    simp only [Int.toNat_natCast] at hL hh2 ⊢
    have hk : k < m.length := by omega
    have hc := lcOK_of (checkF_zero (m := m) (by rw [hb'.1])).2 hk
    have h200 := hc.ownA.c200
    have lv := hL.lv
    have ls := hL.ls
    have lh := hL.lh
    simp only at h200 lv ls
    have hli : LI ⟨m, k, actr m k⟩ (lookL m k).1 := allL_li hc 700 _ (LI0 hc.ownA.c0)
    refine Ent.tup ⟨?_, ?_, trivial⟩
    · have hq' : η' q = some (.cells 1 (rows1 vs)) := hL.hq
      rw [gnd_new hq hq' (by simp [rows1]; omega) (by simp only [lenMax]; omega)]
      have et : List.take (actr m (k : Int)).code.length (List.drop 0 (rows1 vs)) = rows1 vs := by rw [List.drop_zero]; exact List.take_of_length_le (by simp [rows1]; omega)
      rw [et]
      exact Ent.rs (ent_own n η' 1 g q (fun _ _ => trivial) vs _ (by rw [ls, lv]) hL.big fun i hi => ⟨hL.rows i hi, by have := (hli.ok i).2; omega⟩)
    · have hl : (bools ((lookL m k).1.has.take (actr m k).code.length)).length = (actr m k).code.length := by simp [bools]; omega
      rw [gnd_new hh hh2 (by simp [rows1, bools]; omega) (by simp only [lenMax]; omega)]
      have et : List.take (actr m (k : Int)).code.length (List.drop 0 (rows1 (bools ((lookL m k).1.has.take (actr m k).code.length)))) = rows1 (bools ((lookL m k).1.has.take (actr m k).code.length)) := by rw [List.drop_zero]; exact List.take_of_length_le (by simp only [rows1, List.length_map, hl]; omega)
      have := ent_bools n η' 2 ((lookL m k).1.has.take (actr m k).code.length)
      rw [et, this]; exact Ent.refl _
end Go.Proofs.Ytkhoelmbcmkhjaa
