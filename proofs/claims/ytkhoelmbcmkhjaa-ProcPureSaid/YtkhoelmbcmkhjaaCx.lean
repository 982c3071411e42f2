/- Layer 6, the reference: Ways. Layer 6, the reference: Ways, by the program. -/
import Derived.Test.YtkhoelmbcmkhjaaCv
namespace Go.Proofs.Ytkhoelmbcmkhjaa
set_option maxRecDepth 100000

/-- rows that are being gathered -/
def RAcc (k : Nat) (η : AHeap) (n0 : Nat) (v : AVal) (rows : List (List AVal)) : Prop := (v = .nils ∧ rows = []) ∨ ∃ r, v = .sl r 0 rows.length ∧ η r = some (.cells k rows) ∧ n0 ≤ r
theorem RAcc.upd {k n0 r : Nat} {η : AHeap} {v : AVal} {rows : List (List AVal)} (h : RAcc k η n0 v rows) (hr : η r = none ∨ r < n0) (o : Option AObj) : RAcc k (Go.Proofs.Ytkhoelmbcmkhjaa.upd η r o) n0 v rows := by
  rcases h with h | ⟨r', h1, h2, h3⟩
  · exact Or.inl h
  · refine Or.inr ⟨r', h1, ?_, h3⟩
    have : r' ≠ r := fun e => by
      subst e
      rcases hr with hr | hr
      · rw [hr] at h2; cases h2
      · omega
    rw [upd_ne this]; exact h2
theorem appK.acc {P : Program} {t t2 e e2 : TypeId} {k b n n0 : Nat} {zs : List AVal} {v y : AVal} {η : AHeap} {rows news : List (List AVal)} {K : AVal → AHeap → Nat → Prop} {g : Tag K} (h1 : telem P t = some e) (h2 : tzero P e = some zs) (h3 : tbytes P e = some b) (h4 : P.underlying t2 = some (.slice e2)) (h5 : t2 = t) (hk : zs.length = k) (h0 : 0 < k)
    (hy : arows k y η = some news) (hs : ∀ r ∈ news, ∀ c ∈ r, c.sc = true) (hv : RAcc k η n0 v rows) (hb : (rows.length + news.length) * b ≤ 140737488355328) (hl : rows.length + news.length ≤ lenMax) (hn : n0 ≤ n) (hf : ∀ y, n ≤ y → η y = none)
    (hK : ∀ η', RAcc k η' n0 (.sl n 0 (rows.length + news.length)) (rows ++ news) → (∀ y, y < n0 → η' y = η y) → (∀ y, n + 1 ≤ y → η' y = none) → K (.sl n 0 (rows.length + news.length)) η' (n + 1)) : appK P t t2 v y η n K g := by
  unfold appK aappend
  subst h5
  simp only [h1, h2, h3, h4, hk, hy]
  refine ⟨trivial, h0, hs, ?_⟩
  rcases hv with ⟨rfl, rfl⟩ | ⟨r, rfl, hr, hr0⟩
  · simp only
    simp at hb hl hK
    exact ⟨hb, hl, hK _ (Or.inr ⟨n, rfl, upd_eq .., hn⟩) (fun y hy => upd_ne (by omega)) fun y hy => by rw [upd_ne (by omega)]; exact hf y (by omega)⟩
  · simp only [hr]
    have hrn : r < n := by
      rcases Nat.lt_or_ge r n with h | h
      · exact h
      · rw [hf r h] at hr; cases hr
    have et : List.take rows.length (List.drop 0 rows) = rows := by simp
    rw [et]
    exact ⟨trivial, by omega, hb, hl, hK _ (Or.inr ⟨n, by simp, upd_eq .., hn⟩) (fun y hy => by rw [upd_ne (by omega), upd_ne (by omega)]) fun y hy => by rw [upd_ne (by omega), upd_ne (by omega)]; exact hf y (by omega)⟩

/-- a way: where to, with which shape, an error -/
abbrev Wy := Int × List Int × Int
def wayC (w : Wy) : List AVal := [.int .i64 w.1, .rs 1 (ints w.2.1), .int .i64 w.2.2]
def waysC (ws : List Wy) : List (List AVal) := ws.map wayC
def recvW (c : Lc) (tmo : Int) (s : List Int) : List (Int × Int) → List Wy
  | [] => if 0 ≤ tmo then [(tmo, s, 0)] else []
  | cl :: r => if (c.own.msgs.length : Int) ≤ cl.1 then [(0, [], 6)] else if 16 < s.length + 1 then [(0, [], 12)] else (cl.2, s ++ [c.own.msgs.getD cl.1.toNat 0], 0) :: recvW c tmo s r
def waysL (c : Lc) (p : Nat) (s : List Int) : List Wy :=
  let i := c.own.code.getD p (0, 0)
  if i.1 = 0 ∨ i.1 = 23 then [] else if i.1 = 16 then [(i.2, s, 0)] else if i.1 = 17 then [(i.2, s, 0), ((p : Int) + 1, s, 0)]
  else if i.1 = 21 then recvW c (tbl c.own i.2).tmo s (tbl c.own i.2).cls else [((p : Int) + 1, s, 0)]
theorem recvW_len (c : Lc) (tmo : Int) (s : List Int) : ∀ cls, (recvW c tmo s cls).length ≤ cls.length + 1
  | [] => by unfold recvW; split <;> simp
  | cl :: r => by
    have := recvW_len c tmo s r
    unfold recvW
    split
    · simp
    · split
      · simp
      · simp; omega
theorem waysC_nq (η : AHeap) (ws : List Wy) : NQ η (.rs 3 (waysC ws)) := by
  refine .rs _ _ fun row hr c hc => ?_
  simp [waysC] at hr
  obtain ⟨_, _, _, _, rfl⟩ := hr
  simp [wayC] at hc
  rcases hc with rfl | rfl | rfl
  · exact .int _ _
  · exact ints_nq η _
  · exact .int _ _
/-- the cells of a way, as they come -/
def WayR (row : List AVal) (w : Wy) : Prop := ∃ u, row = [.int .i64 w.1, u, .int .i64 w.2.2] ∧ (u = .rs 1 (ints w.2.1) ∨ (u = .nils ∧ w.2.1 = []))
def WaysR : List (List AVal) → List Wy → Prop
  | [], [] => True
  | r :: rs, w :: ws => WayR r w ∧ WaysR rs ws
  | _, _ => False
theorem WaysR.len : ∀ {rs : List (List AVal)} {ws : List Wy}, WaysR rs ws → rs.length = ws.length
  | [], [], _ => rfl
  | _ :: _, _ :: _, h => by simp [WaysR.len h.2]
  | [], _ :: _, h => h.elim
  | _ :: _, [], h => h.elim
theorem WaysR.app : ∀ {rs : List (List AVal)} {ws : List Wy} {r : List AVal} {w : Wy}, WaysR rs ws → WayR r w → WaysR (rs ++ [r]) (ws ++ [w])
  | [], [], _, _, _, hw => ⟨hw, trivial⟩
  | _ :: _, _ :: _, _, _, h, hw => ⟨h.1, WaysR.app h.2 hw⟩
  | [], _ :: _, _, _, h, _ => h.elim
  | _ :: _, [], _, _, h, _ => h.elim
theorem WaysR.ent (n : Nat) (η : AHeap) (fu : Nat) : ∀ {rs : List (List AVal)} {ws : List Wy}, WaysR rs ws → EntR (rs.map fun row => row.map (gnd n η fu)) (waysC ws)
  | [], [], _ => trivial
  | r :: rs, w :: ws, h => by
    refine ⟨?_, WaysR.ent n η fu h.2⟩
    obtain ⟨u, rfl, hu⟩ := h.1
    simp only [List.map_cons, List.map_nil, wayC, gnd_int]
    refine ⟨Ent.refl _, ?_, Ent.refl _, trivial⟩
    rcases hu with rfl | ⟨rfl, hw⟩
    · rw [gnd_rs]; exact Ent.refl _
    · rw [gnd_nils, hw]; exact Ent.nils 1
  | [], _ :: _, h => h.elim
  | _ :: _, [], h => h.elim
theorem RAcc.ent {n n0 : Nat} {η : AHeap} {v : AVal} {rs : List (List AVal)} {ws : List Wy} (h : RAcc 3 η n0 v rs) (hn : n ≤ n0) (hw : WaysR rs ws) (hl : ws.length ≤ 1000) (fu : Nat) : Ent (gnd n η (fu + 1) v) (.rs 3 (waysC ws)) := by
  have hlen := hw.len
  rcases h with ⟨rfl, rfl⟩ | ⟨r, rfl, hr, hr0⟩
  · cases ws with
    | nil => rw [gnd_nils]; exact Ent.nils 3
    | cons => simp at hlen
  · rw [gnd_new (by omega) hr (by omega) (by simp only [lenMax]; omega)]
    have et : List.take rs.length (List.drop 0 rs) = rs := by simp
    rw [et]
    exact Ent.rs (hw.ent n η fu)
/-- ways, from what a function hands back -/
theorem AC.ways {P : Program} {f : FuncId} {args : List AVal} {η : AHeap} {n : Nat} {ws : List Wy} (hl : ws.length ≤ 1000) (h : AC P f args η n fun v η' _ => (∃ rs n0, n ≤ n0 ∧ RAcc 3 η' n0 v rs ∧ WaysR rs ws) ∧ ∀ r, r < n → η' r = η r) : AC P f args η n (Rt (.rs 3 (waysC ws)) η n) := by
  refine AC.gnd1 (waysC_nq η ws) 1 (h.mono ?_)
  rintro v η' n' ⟨⟨rs, n0, h1, h2, h3⟩, h4⟩
  exact ⟨h4, h2.ent h1 h3 hl 0⟩

structure WyI (c : Lc) (t : Tbl) (s : List Int) (n : Nat) (H : AHeap) (k : Nat) (v : AVal) (rs : List (List AVal)) (ws : List Wy) (η' : AHeap) (n' : Nat) : Prop where
  hk : k ≤ t.cls.length
  acc : RAcc 3 η' (n + 4) v rs
  wr : WaysR rs ws
  wl : ws.length ≤ k
  eq : ws ++ recvW c t.tmo s (t.cls.drop k) = recvW c t.tmo s t.cls
  fr : ∀ y, y < n + 4 → η' y = H y
  le : n + 4 ≤ n'
  free : ∀ y, n' ≤ y → η' y = none
theorem ways06_ac (m : List Actr) (k p : Nat) (s : List Int) (hk : k < m.length) (hc : LcOK ⟨m, k, actr m k⟩) (hp : p < (actr m k).code.length) (hn : namesL ⟨m, k, actr m k⟩ ((actr m k).code.getD p (0, 0)) = true) (hl : s.length ≤ 16) (η : AHeap) (n : Nat) :
    AC Try.prog 31 [modV m, .int .i64 k, .int .i64 p, .rs 1 (ints s)] η n (Rt (.rs 3 (waysC (waysL ⟨m, k, actr m k⟩ p s))) η n) := by
  have ho := hc.ownA
  have ea : actr m (k : Int) = m[k] := by simp [actr, List.getD_eq_getElem?_getD, hk]
  simp only at ho
  rw [ea] at hp hn ho ⊢
  have ei : m[k].code.getD p (0, 0) = m[k].code[p] := by simp [List.getD_eq_getElem?_getD, hp]
  have hi := ho.code m[k].code[p] (List.getElem_mem ..)
  have h200 := ho.c200
  rcases hcp : m[k].code[p] with ⟨op, a⟩
  rw [hcp] at hi ei
  rw [ei] at hn
  have hb := rightI_bd hi
  have htab : ∀ (h : op = 21), a < m[k].tabs.length := fun h => by simpa [namesL, h] using hn
  have hw : waysL ⟨m, k, m[k]⟩ p s = (if op = 0 ∨ op = 23 then [] else if op = 16 then [(a, s, 0)] else if op = 17 then [(a, s, 0), ((p : Int) + 1, s, 0)] else if op = 21 then recvW ⟨m, k, m[k]⟩ (tbl m[k] a).tmo s (tbl m[k] a).cls else [((p : Int) + 1, s, 0)]) := by unfold waysL; simp only [ei]
  have hwl : (waysL ⟨m, k, m[k]⟩ p s).length ≤ 1000 := by
    rw [hw]
    split
    · simp
    split
    · simp
    split
    · simp
    split
    · rename_i h
      have hA := htab h
      have e : tbl m[k] a ∈ m[k].tabs := by
        unfold tbl
        have : a.toNat < m[k].tabs.length := by simp only at hb; omega
        rw [List.getD_eq_getElem?_getD, List.getElem?_eq_getElem this]; exact List.getElem_mem ..
      have h1 := (ho.tabs _ e).1
      exact Nat.le_trans (recvW_len _ _ _ _) (by omega)
    · simp
  generalize hws : waysL ⟨m, k, m[k]⟩ p s = ws at *
  refine AC.ways hwl ?_
  have ew : IntKind.i64.wrap ((p : Int) + 1) = (p : Int) + 1 := wrap_id (by omega) (by omega)
  refine AC.fresh fun hf => ?_; refine AC.enter Try.func31 rfl Try.ntmps31 (by simp) ?_
  have hne2 : n ≠ n + 1 + 1 := by omega
  have hne3 : n + 1 ≠ n + 1 + 1 := by omega
  have o3 : ∀ o1 o2 o3 x, x < n → (upd (upd (upd η n o1) (n + 1) o2) (n + 1 + 1) o3) x = η x := fun o1 o2 o3 x hx => by rw [upd_ne (by omega), upd_ne (by omega), upd_ne (by omega)]
  have o4 : ∀ o1 o2 o3 o4 x, x < n → (upd (upd (upd (upd η n o1) (n + 1) o2) (n + 1 + 1) o3) (n + 1 + 1 + 1) o4) x = η x := fun o1 o2 o3' o4 x hx => by rw [upd_ne (by omega)]; exact o3 _ _ _ x hx
  simp [modV, actsC, actC, aload, afield, apart, upd_eq, aindex, hk, hp, hcp, astore, upd_upd]
  by_cases w0 : op = 0
  · rw [if_pos (Or.inl w0)] at hw
    simp [w0]
    exact resK.same ⟨⟨[], n, Nat.le_refl _, Or.inl ⟨rfl, rfl⟩, by rw [hw]; trivial⟩, o3 _ _ _⟩ (Nat.le_refl _)
  by_cases w23 : op = 23
  · rw [if_pos (Or.inr w23)] at hw
    simp [w23]
    exact resK.same ⟨⟨[], n, Nat.le_refl _, Or.inl ⟨rfl, rfl⟩, by rw [hw]; trivial⟩, o3 _ _ _⟩ (Nat.le_refl _)
  rw [if_neg (by omega)] at hw
  by_cases w16 : op = 16
  · rw [if_pos w16] at hw
    simp [w0, w23, eq_true w16, aload, afield, apart, upd_eq, abuild, aplace, abuildS, afillP, tek, chunk]
    exact resK.same ⟨⟨[wayC (a, s, 0)], n, Nat.le_refl _, Or.inr ⟨n + 1 + 1 + 1, rfl, by rw [upd_eq]; rfl, by omega⟩, by rw [hw]; exact ⟨⟨_, rfl, Or.inl rfl⟩, trivial⟩⟩, o4 _ _ _ _⟩ (Nat.le_refl _)
  rw [if_neg w16] at hw
  by_cases w17 : op = 17
  · rw [if_pos w17] at hw
    simp [w0, w23, w16, eq_true w17, aload, afield, apart, upd_eq, abuild, aplace, abuildS, afillP, tek, chunk, ew]
    exact resK.same ⟨⟨[wayC (a, s, 0), wayC ((p : Int) + 1, s, 0)], n, Nat.le_refl _, Or.inr ⟨n + 1 + 1 + 1, rfl, by rw [upd_eq]; rfl, by omega⟩, by rw [hw]; exact ⟨⟨_, rfl, Or.inl rfl⟩, ⟨_, rfl, Or.inl rfl⟩, trivial⟩⟩, o4 _ _ _ _⟩ (Nat.le_refl _)
  rw [if_neg w17] at hw
  by_cases w21 : op = 21
  · rw [if_pos w21] at hw
    have hA := htab w21
    obtain ⟨j, rfl⟩ : ∃ j : Nat, a = j := ⟨a.toNat, by simp only at hb; omega⟩
    have hj : j < m[k].tabs.length := by omega
    have et : tbl m[k] (j : Int) = m[k].tabs[j] := by simp [tbl, List.getD_eq_getElem?_getD, hj]
    rw [et] at hw
    have htt := ho.tabs m[k].tabs[j] (List.getElem_mem ..)
    obtain ⟨t, ht⟩ : ∃ t, m[k].tabs[j] = t := ⟨_, rfl⟩
    rw [ht] at hw htt
    simp [w0, w23, w16, w17, eq_true w21, aload, afield, apart, upd_eq, upd_ne, aindex, hj, tblsC, tblC, astore, upd_upd, ht]
    generalize hH : upd (upd (upd (upd η n (some (.cells 1 [[.rs 5 (List.map actC m)]]))) (n + 1) (some (.cells 5 [[.rs 1 (ints m[k].params), .rs 1 (ints m[k].regs), .rs 1 (ints m[k].msgs), .rs 2 (pairs m[k].code), .rs 2 (tblsC m[k].tabs)]]))) (n + 1 + 1) (some (.cells 2 [[.int .i64 op, .int .i64 j]]))) (n + 1 + 1 + 1) (some (.cells 2 [[.rs 2 (pairs t.cls), .int .i64 t.tmo]])) = H
    simp only [tblsC] at hH
    simp only [hH]
    have hH1 : H (n + 1) = some (.cells 5 [[.rs 1 (ints m[k].params), .rs 1 (ints m[k].regs), .rs 1 (ints m[k].msgs), .rs 2 (pairs m[k].code), .rs 2 (tblsC m[k].tabs)]]) := by
      rw [← hH, upd_ne (by omega), upd_ne (by omega), upd_eq]; rfl
    have hH3 : H (n + 1 + 1 + 1) = some (.cells 2 [[.rs 2 (pairs t.cls), .int .i64 t.tmo]]) := by rw [← hH, upd_eq]
    have hH0 : ∀ y, y < n → H y = η y := fun y hy => by rw [← hH]; exact o4 _ _ _ _ y hy
    have hHf : ∀ y, n + 4 ≤ y → H y = none := fun y hy => by rw [← hH, upd_ne (by omega), upd_ne (by omega), upd_ne (by omega), upd_ne (by omega)]; exact hf y (by omega)
    refine loopK.inv [8, 11, 13, 14, 15, 57, 58, 59, 60, 61, 62, 63, 64, 65, 66, 67, 68, 69, 70, 71, 72, 73, 74, 75, 76, 77, 78, 79, 80, 81, 82, 83, 84, 85, 86, 87, 88, 89, 90, 91, 92, 93, 94, 95, 96, 97, 98, 99, 100, 101, 102] (fun a : Nat × AVal × List (List AVal) × List Wy × AHeap × Nat => WyI ⟨m, k, m[k]⟩ t s n H a.1 a.2.1 a.2.2.1 a.2.2.2.1 a.2.2.2.2.1 a.2.2.2.2.2) (fun a => [(13, .int .i64 a.1), (11, a.2.1)]) (fun a => a.2.2.2.2.1) (fun a => a.2.2.2.2.2) (fun a => t.cls.length - a.1) (0, .nils, [], [], H, n + 4) ⟨by simp, Or.inl ⟨rfl, rfl⟩, trivial, by simp, rfl, fun _ _ => rfl, Nat.le_refl _, hHf⟩ (by simp) (AHeap.le_rfl _) (by simp) ?_
    intro ⟨kk, v, rs, ws', η', n'⟩ hI
    replace hI : WyI ⟨m, k, m[k]⟩ t s n H kk v rs ws' η' n' := hI
    have hn1 : η' (n + 1) = some (.cells 5 [[.rs 1 (ints m[k].params), .rs 1 (ints m[k].regs), .rs 1 (ints m[k].msgs), .rs 2 (pairs m[k].code), .rs 2 (tblsC m[k].tabs)]]) := by rw [hI.fr _ (by omega)]; exact hH1
    have hn3 : η' (n + 1 + 1 + 1) = some (.cells 2 [[.rs 2 (pairs t.cls), .int .i64 t.tmo]]) := by rw [hI.fr _ (by omega)]; exact hH3
    have hle := hI.le
    have hfree := hI.free
    have hwl' := hI.wl
    have hrl := hI.wr.len
    have heq := hI.eq
    have hcl8 := htt.1
    simp [aload, afield, apart, hn3]
    refine CondP.dec (fun h1 => ?_) (fun h1 => ?_)
    · have h1' : kk < t.cls.length := by omega
      have hcl := htt.2.1 t.cls[kk] (List.getElem_mem ..)
      rcases hcc : t.cls[kk] with ⟨ta, tb⟩
      rw [hcc] at hcl
      obtain ⟨⟨x, rfl⟩, ⟨b, rfl⟩⟩ : (∃ x : Nat, ta = x) ∧ ∃ b : Nat, tb = b := ⟨⟨ta.toNat, by simp only at hcl; omega⟩, ⟨tb.toNat, by simp only at hcl; omega⟩⟩
      rw [List.drop_eq_getElem_cons h1', hcc, recvW] at heq
      have n1' : n + 1 ≠ n' := by omega
      have n3' : n + 1 + 1 + 1 ≠ n' := by omega
      have f1 : ∀ o o' y, n' + 1 + 1 ≤ y → Go.Proofs.Ytkhoelmbcmkhjaa.upd (Go.Proofs.Ytkhoelmbcmkhjaa.upd η' n' o) (n' + 1) o' y = none := fun o o' y hy => by rw [upd_ne (by omega), upd_ne (by omega)]; exact hfree y (by omega)
      have acc1 : ∀ o o', RAcc 3 (Go.Proofs.Ytkhoelmbcmkhjaa.upd (Go.Proofs.Ytkhoelmbcmkhjaa.upd η' n' o) (n' + 1) o') (n + 4) v rs := fun o o' => (hI.acc.upd (Or.inl (hfree _ (Nat.le_refl _))) o).upd (Or.inl (by rw [upd_ne (by omega)]; exact hfree _ (by omega))) o'
      simp [h1, aindex, hcc, aload, afield, apart, astore, upd_eq, upd_upd, hn1, upd_ne n1', hn3]
      refine CondP.dec (fun h2 => ?_) (fun h2 => ?_)
      · rw [if_pos (by simp only; omega)] at heq
        simp [h2, abuild, aplace, abuildS, afillP, tek, chunk]
        refine appK.acc (k := 3) (n0 := n + 4) (e := 83) (e2 := 83) (b := 40) (zs := [.int .i64 0, .nils, .int .i64 0]) (rows := rs) (news := [[.int .i64 0, .nils, .int .i64 6]]) (by simp) (by simp) (by simp) (by simp) rfl rfl (by omega) (by simp [arows, upd_eq]) (by simp) (acc1 _ _) (by simp; omega) (by simp [lenMax]; omega) (by omega) (f1 _ _) fun η4 g1 g2 g3 => ?_
        simp
        refine resK.same ⟨⟨_, n + 4, by omega, g1, by rw [hw, ← heq]; exact hI.wr.app ⟨.nils, rfl, Or.inr ⟨rfl, rfl⟩⟩⟩, fun y hy => by rw [g2 y (by omega), upd_ne (by omega), upd_ne (by omega), hI.fr y (by omega)]; exact hH0 y hy⟩ (Nat.le_refl _)
      · have h2' : x < m[k].msgs.length := by omega
        rw [if_neg (by simp only; omega)] at heq
        have em : m[k].msgs.getD (x : Int).toNat 0 = m[k].msgs[x] := by simp [List.getD_eq_getElem?_getD, h2']
        simp only [em] at heq
        have ewx : IntKind.i64.wrap ((x : Int) + 1) = (x : Int) + 1 := wrap_id (by have := ho.ml; omega) (by have := ho.ml; omega)
        have hcut := fun η => rs_cut1 (l := m[k].msgs) (x := (x : Int)) (k := .i64) (k' := .i64) (η := η) (by omega) (by omega)
        rw [em] at hcut
        simp [h2, aload, afield, apart, upd_eq, hn1, upd_ne n1', ewx, hcut]
        refine ACK.rt (with06_ac s [m[k].msgs[x]] _ _ (by omega) (by simp)) ?_
        simp [ints_length]
        refine CondP.dec (fun h3 => ?_) (fun h3 => ?_)
        · rw [if_pos (by omega)] at heq
          simp [h3, abuild, aplace, abuildS, afillP, tek, chunk]
          refine appK.acc (k := 3) (n0 := n + 4) (e := 83) (e2 := 83) (b := 40) (zs := [.int .i64 0, .nils, .int .i64 0]) (rows := rs) (news := [[.int .i64 0, .nils, .int .i64 12]]) (by simp) (by simp) (by simp) (by simp) rfl rfl (by omega) (by simp [arows, upd_eq]) (by simp) (acc1 _ _) (by simp; omega) (by simp [lenMax]; omega) (by omega) (f1 _ _) fun η4 g1 g2 g3 => ?_
          simp
          refine resK.same ⟨⟨_, n + 4, by omega, g1, by rw [hw, ← heq]; exact hI.wr.app ⟨.nils, rfl, Or.inr ⟨rfl, rfl⟩⟩⟩, fun y hy => by rw [g2 y (by omega), upd_ne (by omega), upd_ne (by omega), hI.fr y (by omega)]; exact hH0 y hy⟩ (Nat.le_refl _)
        · rw [if_neg (by omega)] at heq
          simp [h3, aload, afield, apart, upd_eq, abuild, aplace, abuildS, afillP, tek, chunk]
          refine appK.acc (k := 3) (n0 := n + 4) (e := 83) (e2 := 83) (b := 40) (zs := [.int .i64 0, .nils, .int .i64 0]) (rows := rs) (news := [[.int .i64 b, .rs 1 (ints (s ++ [m[k].msgs[x]])), .int .i64 0]]) (by simp) (by simp) (by simp) (by simp) rfl rfl (by omega) (by simp [arows, upd_eq]) (by simp) (acc1 _ _) (by simp; omega) (by simp [lenMax]; omega) (by omega) (f1 _ _) fun η4 g1 g2 g3 => ?_
          have ewk : IntKind.i64.wrap ((kk : Int) + 1) = (kk : Int) + 1 := wrap_id (by omega) (by omega)
          simp [ewk]
          refine endK.intro (kk + 1, .sl (n' + 1 + 1) 0 (rs.length + 1), rs ++ [[.int .i64 b, .rs 1 (ints (s ++ [m[k].msgs[x]])), .int .i64 0]], ws' ++ [((b : Int), s ++ [m[k].msgs[x]], 0)], η4, n' + 1 + 1 + 1) (⟨h1', g1, hI.wr.app ⟨_, rfl, Or.inl rfl⟩, by simp; omega, by rw [← heq]; simp, fun y hy => by rw [g2 y hy, upd_ne (by omega), upd_ne (by omega), hI.fr y hy], by omega, g3⟩ : WyI ⟨m, k, m[k]⟩ t s n H (kk + 1) (.sl (n' + 1 + 1) 0 (rs.length + 1)) (rs ++ [[.int .i64 b, .rs 1 (ints (s ++ [m[k].msgs[x]])), .int .i64 0]]) (ws' ++ [((b : Int), s ++ [m[k].msgs[x]], 0)]) η4 (n' + 1 + 1 + 1)) (by simp) (by repeat (first | exact Agree.mask _ _ | refine Agree.setf rfl ?_ | refine Agree.inner rfl ?_)) (AHeap.le_rfl _) (Nat.le_refl _) (show t.cls.length - (kk + 1) < t.cls.length - kk by omega)
    · have hkk : kk = t.cls.length := by have := hI.hk; omega
      rw [hkk, List.drop_length, recvW] at heq
      simp [h1, aload, afield, apart, hn3]
      refine CondP.dec (fun h2 => ?_) (fun h2 => ?_)
      · rw [if_pos h2] at heq
        have f1 : ∀ o y, n' + 1 ≤ y → Go.Proofs.Ytkhoelmbcmkhjaa.upd η' n' o y = none := fun o y hy => by rw [upd_ne (by omega)]; exact hfree y (by omega)
        simp [h2, aload, afield, apart, hn3, abuild, aplace, abuildS, afillP, tek, chunk]
        refine appK.acc (k := 3) (n0 := n + 4) (e := 83) (e2 := 83) (b := 40) (zs := [.int .i64 0, .nils, .int .i64 0]) (rows := rs) (news := [[.int .i64 t.tmo, .rs 1 (ints s), .int .i64 0]]) (by simp) (by simp) (by simp) (by simp) rfl rfl (by omega) (by simp [arows, upd_eq]) (by simp) (hI.acc.upd (Or.inl (hfree _ (Nat.le_refl _))) _) (by simp; omega) (by simp [lenMax]; omega) (by omega) (f1 _) fun η4 g1 g2 g3 => ?_
        simp
        refine resK.same ⟨⟨_, n + 4, by omega, g1, by rw [hw, ← heq]; exact hI.wr.app ⟨_, rfl, Or.inl rfl⟩⟩, fun y hy => by rw [g2 y (by omega), upd_ne (by omega), hI.fr y (by omega)]; exact hH0 y hy⟩ (Nat.le_refl _)
      · rw [if_neg h2] at heq
        simp [h2]
        exact resK.same ⟨⟨rs, n + 4, by omega, hI.acc, by rw [hw, ← heq, List.append_nil]; exact hI.wr⟩, fun y hy => by rw [hI.fr y (by omega)]; exact hH0 y hy⟩ (Nat.le_refl _)
  · rw [if_neg w21] at hw
    simp [w0, w23, w16, w17, w21, abuild, aplace, abuildS, afillP, tek, chunk, ew]
    exact resK.same ⟨⟨[wayC ((p : Int) + 1, s, 0)], n, Nat.le_refl _, Or.inr ⟨n + 1 + 1 + 1, rfl, by rw [upd_eq]; rfl, by omega⟩, by rw [hw]; exact ⟨⟨_, rfl, Or.inl rfl⟩, trivial⟩⟩, o4 _ _ _ _⟩ (Nat.le_refl _)
end Go.Proofs.Ytkhoelmbcmkhjaa
