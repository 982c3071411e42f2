/- Layer 6, the reference: Actor. -/
import Derived.Test.YtkhoelmbcmkhjaaCy
namespace Go.Proofs.Ytkhoelmbcmkhjaa
set_option maxRecDepth 100000

def rows1 (vs : List AVal) : List (List AVal) := vs.map fun v => [v]
theorem rows1_get {vs : List AVal} {i : Nat} (h : i < vs.length) : (rows1 vs)[i]? = some [vs[i]] := by simp [rows1, h]
theorem rows1_bool {l : List Bool} {i : Nat} (h : i < l.length) : (rows1 (bools l))[i]? = some [.bool (l.getD i false)] := by
  simp [rows1, bools, List.getD_eq_getElem?_getD, h]
theorem astore_rows1 {P : Program} {t : TypeId} {r i : Nat} {x : AVal} {η : AHeap} {vs : List AVal} (h1 : η r = some (.cells 1 (rows1 vs))) (h2 : tsize P t = some 1) (h3 : acells x = [x]) (h4 : x.sc = true) (h5 : i < vs.length) :
    astore P t (.ptr r i 0) x η = some (upd η r (some (.cells 1 (rows1 (vs.set i x))))) := astore_row h1 h2 h3 h4 h5
theorem astore_bool {P : Program} {t : TypeId} {r i : Nat} {b : Bool} {η : AHeap} {l : List Bool} (h1 : η r = some (.cells 1 (rows1 (bools l)))) (h2 : tsize P t = some 1) (h5 : i < l.length) :
    astore P t (.ptr r i 0) (.bool b) η = some (upd η r (some (.cells 1 (rows1 (bools (l.set i b)))))) := by
  rw [astore_rows1 h1 h2 rfl rfl (by simp [bools]; exact h5)]
  simp [bools, List.map_set]
/-- where the reference keeps what -/
structure AcH (m : List Actr) (n : Nat) (η : AHeap) (vs : List AVal) (hs lk : List Bool) (η' : AHeap) (n' : Nat) : Prop where
  b0 : η' n = some (.cells 1 [[.rs 5 (actsC m)]])
  b1 : η' (n + 1) = some (.cells 3 [[.int .i64 0, .int .i64 0, .int .i64 0]])
  bq : η' (n + 2) = some (.cells 1 (rows1 vs))
  bh : η' (n + 3) = some (.cells 1 (rows1 (bools hs)))
  bl : η' (n + 4) = some (.cells 1 (rows1 (bools lk)))
  fr : ∀ y, y < n → η' y = η y
  le : n + 5 ≤ n'
  free : ∀ y, n' ≤ y → η' y = none
structure AcI (c : Lc) (R : Lx × Int × Int × Int) (n : Nat) (η : AHeap) (f : Nat) (x : Lx) (at' : Nat) (vs : List AVal) (hs lk : List Bool) (η' : AHeap) (n' : Nat) : Prop where
  eq : allL c f x = R
  mu : mu x < f
  li : LI c x
  rs : RSt c x vs hs lk
  ha : at' ≤ c.own.code.length
  lo : ∀ p, p < at' → x.todo.getD p false = false
  hp : AcH c.m n η vs hs lk η' n'
structure AcX where
  f : Nat
  x : Lx
  p : Nat
  vs : List AVal
  hs : List Bool
  lk : List Bool
  η : AHeap
  n : Nat
structure AcY where
  j : Nat
  x : Lx
  vs : List AVal
  hs : List Bool
  η : AHeap
  n : Nat
structure AcJ (c : Lc) (x0 : Lx) (ws : List Wy) (n : Nat) (η : AHeap) (lk : List Bool) (a : AcY) : Prop where
  hj : a.j ≤ ws.length
  eq : waysGo c a.x (ws.drop a.j) = waysGo c x0 ws
  go : Goes c x0 a.x
  rs : RSt c a.x a.vs a.hs lk
  hp : AcH c.m n η a.vs a.hs lk a.η a.n
theorem AcH.top {m : List Actr} {n : Nat} {η : AHeap} {vs : List AVal} {hs lk : List Bool} {η' : AHeap} {n' : Nat} (h : AcH m n η vs hs lk η' n') {r : Nat} (hr : n' ≤ r) (o : Option AObj) : AcH m n η vs hs lk (upd η' r o) (r + 1) := by
  have := h.le
  exact ⟨by rw [upd_ne (by omega)]; exact h.b0, by rw [upd_ne (by omega)]; exact h.b1, by rw [upd_ne (by omega)]; exact h.bq, by rw [upd_ne (by omega)]; exact h.bh, by rw [upd_ne (by omega)]; exact h.bl, fun y hy => by rw [upd_ne (by omega)]; exact h.fr y hy, by omega, fun y hy => by rw [upd_ne (by omega)]; exact h.free y (by omega)⟩
theorem AcH.setQ {m : List Actr} {n : Nat} {η : AHeap} {vs : List AVal} {hs lk : List Bool} {η' : AHeap} {n' : Nat} (h : AcH m n η vs hs lk η' n') (vs' : List AVal) : AcH m n η vs' hs lk (upd η' (n + 2) (some (.cells 1 (rows1 vs')))) n' := by
  have := h.le
  exact ⟨by rw [upd_ne (by omega)]; exact h.b0, by rw [upd_ne (by omega)]; exact h.b1, upd_eq .., by rw [upd_ne (by omega)]; exact h.bh, by rw [upd_ne (by omega)]; exact h.bl, fun y hy => by rw [upd_ne (by omega)]; exact h.fr y hy, h.le, fun y hy => by rw [upd_ne (by omega)]; exact h.free y hy⟩
theorem AcH.setH {m : List Actr} {n : Nat} {η : AHeap} {vs : List AVal} {hs lk : List Bool} {η' : AHeap} {n' : Nat} (h : AcH m n η vs hs lk η' n') (hs' : List Bool) : AcH m n η vs hs' lk (upd η' (n + 3) (some (.cells 1 (rows1 (bools hs'))))) n' := by
  have := h.le
  exact ⟨by rw [upd_ne (by omega)]; exact h.b0, by rw [upd_ne (by omega)]; exact h.b1, by rw [upd_ne (by omega)]; exact h.bq, upd_eq .., by rw [upd_ne (by omega)]; exact h.bl, fun y hy => by rw [upd_ne (by omega)]; exact h.fr y hy, h.le, fun y hy => by rw [upd_ne (by omega)]; exact h.free y hy⟩
theorem AcH.setL {m : List Actr} {n : Nat} {η : AHeap} {vs : List AVal} {hs lk : List Bool} {η' : AHeap} {n' : Nat} (h : AcH m n η vs hs lk η' n') (lk' : List Bool) : AcH m n η vs hs lk' (upd η' (n + 4) (some (.cells 1 (rows1 (bools lk'))))) n' := by
  have := h.le
  exact ⟨by rw [upd_ne (by omega)]; exact h.b0, by rw [upd_ne (by omega)]; exact h.b1, by rw [upd_ne (by omega)]; exact h.bq, by rw [upd_ne (by omega)]; exact h.bh, upd_eq .., fun y hy => by rw [upd_ne (by omega)]; exact h.fr y hy, h.le, fun y hy => by rw [upd_ne (by omega)]; exact h.free y hy⟩
def shpC (l : List (List Int)) : List (List AVal) := l.map fun s => [.rs 1 (ints s)]
def boolC (l : List Bool) : List (List AVal) := l.map fun b => [.bool b]
theorem waysL_short {c : Lc} (hc : LcOK c) {p : Nat} (hp : p < c.own.code.length) (hn : namesL c (c.own.code.getD p (0, 0)) = true) (s : List Int) : (waysL c p s).length ≤ 1000 := by
  have hi : rightI (c.own.code.getD p (0, 0)) = true := by
    have : c.own.code.getD p (0, 0) = c.own.code[p] := by simp [List.getD_eq_getElem?_getD, hp]
    rw [this]; exact hc.ownA.code _ (List.getElem_mem ..)
  unfold waysL
  simp only
  generalize c.own.code.getD p (0, 0) = i at *
  have hb := rightI_bd hi
  split
  · simp
  split
  · simp
  split
  · simp
  split
  · rename_i h3
    have hA : i.2 < c.own.tabs.length := by simpa [namesL, h3] using hn
    have e : tbl c.own i.2 ∈ c.own.tabs := by
      unfold tbl
      have : i.2.toNat < c.own.tabs.length := by omega
      rw [List.getD_eq_getElem?_getD, List.getElem?_eq_getElem this]; exact List.getElem_mem ..
    have h1 := (hc.ownA.tabs _ e).1
    exact Nat.le_trans (recvW_len _ _ _ _) (by omega)
  · simp
/-- what Actor hands back: shapes and which are reached (when there is no fault), the fault -/
def actRes (m : List Actr) (k : Nat) : AVal := .tup [if (lookL m k).2.1 = 0 then .rs 1 (shpC (lookL m k).1.shapes) else .undef, if (lookL m k).2.1 = 0 then .rs 1 (boolC ((lookL m k).1.has.take (actr m k).code.length)) else .undef, fltV (lookL m k).2]
theorem shpC_nq (η : AHeap) (l : List (List Int)) : NQ η (.rs 1 (shpC l)) := by
  refine .rs _ _ fun row hr c hc => ?_
  simp [shpC] at hr
  obtain ⟨s, _, rfl⟩ := hr
  simp at hc; subst hc; exact ints_nq η s
theorem boolC_nq (η : AHeap) (l : List Bool) : NQ η (.rs 1 (boolC l)) := by
  refine .rs _ _ fun row hr c hc => ?_
  simp [boolC] at hr
  rcases hr with ⟨_, rfl⟩ | ⟨_, rfl⟩ <;> (simp at hc; subst hc; exact .bool _)
theorem fltV_nq (η : AHeap) (f : Int × Int × Int) : NQ η (fltV f) := .agg _ (by simp; exact ⟨.int _ _, .int _ _, .int _ _⟩)
theorem actRes_nq (m : List Actr) (k : Nat) (η : AHeap) : NQ η (actRes m k) := by
  unfold actRes
  by_cases h : (lookL m k).2.1 = 0
  · rw [if_pos h, if_pos h]
    exact .tup _ (by simp; exact ⟨shpC_nq η _, boolC_nq η _, fltV_nq η _⟩)
  · rw [if_neg h, if_neg h]
    exact .tup _ (by simp; exact ⟨.undef, fltV_nq η _⟩)
theorem ent_shapes (n : Nat) (η : AHeap) (fu : Nat) : ∀ (vs : List AVal) (ls : List (List Int)), vs.length = ls.length → (∀ i (h : i < vs.length), RoL vs[i] (ls.getD i [])) → EntR ((rows1 vs).map fun row => row.map (gnd n η fu)) (shpC ls)
  | [], [], _, _ => trivial
  | v :: vs, l :: ls, hl, h => by
    refine ⟨⟨?_, trivial⟩, ent_shapes n η fu vs ls (by simpa using hl) fun i hi => h (i + 1) (by simpa using hi)⟩
    have := h 0 (by simp)
    simp at this
    rcases this with e | ⟨e, e2⟩
    · rw [e, gnd_rs]; exact Ent.refl _
    · rw [e, e2, gnd_nils]; exact Ent.nils 1
theorem ent_bools (n : Nat) (η : AHeap) (fu : Nat) (hs : List Bool) : (rows1 (bools hs)).map (fun row => row.map (gnd n η fu)) = boolC hs := by
  simp [rows1, bools, boolC]
theorem take_has {c : Lc} {x : Lx} {vs : List AVal} {hs lk : List Bool} (h : RSt c x vs hs lk) (hh : x.has.length = 200) (h200 : c.own.code.length ≤ 200) : hs = x.has.take c.own.code.length := by
  have := h.lh
  refine List.ext_getElem (by simp; omega) fun i h1 h2 => ?_
  have := h.has i (by omega)
  have hi : i < x.has.length := by omega
  simp [List.getD_eq_getElem?_getD, h1, hi] at this
  simp [this]
theorem actor06_ac (m : List Actr) (k : Nat) (hk : k < m.length) (hc : LcOK ⟨m, k, actr m k⟩) (η : AHeap) (n : Nat) : AC Try.prog 34 [modV m, .int .i64 k] η n (Rt (actRes m k) η n) := by
  have nqv := actRes_nq m k η
  refine AC.gnd1 nqv 4 ?_
  have ho := hc.ownA
  have ea : actr m (k : Int) = m[k] := by simp [actr, List.getD_eq_getElem?_getD, hk]
  have hR : lookL m k = allL ⟨m, k, actr m k⟩ 700 (lx0 (actr m k).code.length) := rfl
  have h200 := ho.c200
  have h0 := ho.c0
  simp only at h200 h0
  refine AC.fresh fun hf => ?_; refine AC.enter Try.func34 rfl Try.ntmps34 (by simp) ?_
  simp [modV, actsC, actC, aload, afield, apart, upd_eq, upd_ne, aindex, hk, makeK, ← ea]
  refine ⟨by omega, by omega, by omega, by omega, by omega, by omega, ?_⟩
  have er1 : ∀ len, List.replicate len [AVal.nils] = rows1 (List.replicate len AVal.nils) := fun len => by simp [rows1]
  have er2 : ∀ len, List.replicate len [AVal.bool false] = rows1 (bools (List.replicate len false)) := fun len => by simp [rows1, bools]
  obtain ⟨H, hH⟩ : ∃ H, H = (upd (upd (upd (upd (upd η n (some (.cells 1 [[.rs 5 (List.map actC m)]]))) (n + 1) (some (.cells 3 [[.int .i64 0, .int .i64 0, .int .i64 0]]))) (n + 1 + 1) (some (.cells 1 (List.replicate (actr m k).code.length [.nils])))) (n + 1 + 1 + 1) (some (.cells 1 (List.replicate (actr m k).code.length [.bool false])))) (n + 1 + 1 + 1 + 1) (some (.cells 1 (List.replicate (actr m k).code.length [.bool false])))) := ⟨_, rfl⟩
  have c0 : H n = some (.cells 1 [[.rs 5 (List.map actC m)]]) := by rw [hH, upd_ne (by omega), upd_ne (by omega), upd_ne (by omega), upd_ne (by omega), upd_eq]
  have c1 : H (n + 1) = some (.cells 3 [[.int .i64 0, .int .i64 0, .int .i64 0]]) := by rw [hH, upd_ne (by omega), upd_ne (by omega), upd_ne (by omega), upd_eq]
  have c2 : H (n + 2) = some (.cells 1 (rows1 (List.replicate (actr m k).code.length .nils))) := by rw [hH, upd_ne (by omega), upd_ne (by omega), upd_eq, er1]
  have c3 : H (n + 3) = some (.cells 1 (rows1 (bools (List.replicate (actr m k).code.length false)))) := by rw [hH, upd_ne (by omega), upd_eq, er2]
  have c4 : H (n + 4) = some (.cells 1 (rows1 (bools (List.replicate (actr m k).code.length false)))) := by rw [hH, upd_eq, er2]
  have c5 : ∀ y, y < n → H y = η y := fun y hy => by rw [hH, upd_ne (by omega), upd_ne (by omega), upd_ne (by omega), upd_ne (by omega), upd_ne (by omega)]
  have c6 : ∀ y, n + 5 ≤ y → H y = none := fun y hy => by rw [hH, upd_ne (by omega), upd_ne (by omega), upd_ne (by omega), upd_ne (by omega), upd_ne (by omega)]; exact hf y (by omega)
  have s1 : astore Try.prog 4 (.ptr (n + 3) 0 0) (.bool true) H = some (upd H (n + 3) (some (.cells 1 (rows1 (bools ((List.replicate (actr m k).code.length false).set 0 true)))))) := astore_bool c3 (by simp) (by simpa using h0)
  rw [hH] at s1
  simp [h0, s1]
  rw [← hH]
  have hbh := fun i s hi hT hl η n => behind06_ac m k i s hk hc hi hT hl η n
  have hwy := fun p s hp hn hl η n => ways06_ac m k p s hk hc hp hn hl η n
  generalize hcc : (⟨m, k, actr m k⟩ : Lc) = c at *
  have ecm : c.m = m := by rw [← hcc]
  have eck : c.k = k := by rw [← hcc]
  have eco : actr m k = c.own := by rw [← hcc]
  rw [eco] at h200 h0 hR c2 c3 c4 hwy
  simp only [eco]
  have start : AcH c.m n η (List.replicate c.own.code.length .nils) ((List.replicate c.own.code.length false).set 0 true) (List.replicate c.own.code.length false) (upd H (n + 3) (some (.cells 1 (rows1 (bools ((List.replicate c.own.code.length false).set 0 true)))))) (n + 5) :=
    AcH.setH (hs := List.replicate c.own.code.length false) ⟨by rw [c0, ecm]; rfl, c1, c2, c3, c4, c5, Nat.le_refl _, c6⟩ _
  have hrs0 : RSt c (lx0 c.own.code.length) (List.replicate c.own.code.length .nils) ((List.replicate c.own.code.length false).set 0 true) (List.replicate c.own.code.length false) := by
    refine ⟨by simp, by simp, by simp, fun q hq => ?_, fun q hq => ?_, fun q hq => ?_, fun q hq => ?_, by simp [lx0]⟩
    · have hq' : q < c.own.code.length := by simpa using hq
      refine Or.inr ⟨by simp, by simp [lx0, List.getD_eq_getElem?_getD, hq']⟩
    · show _ = (off.set 0 true).getD q false
      rw [getD_set, getD_set, off_len, List.length_replicate]
      by_cases e : 0 = q
      · subst e; rw [if_pos ⟨rfl, by omega⟩, if_pos ⟨rfl, by omega⟩]
      · rw [if_neg (by omega), if_neg (by omega)]
        simp only [off, List.getD_eq_getElem?_getD, List.getElem?_replicate, hq, show q < 200 by omega, if_true]
    · show (off.set 0 true).getD q false = _
      have e0 : (List.replicate c.own.code.length false).getD q false = false := by simp only [List.getD_eq_getElem?_getD, List.getElem?_replicate]; split <;> rfl
      rw [getD_set, getD_set, off_len, List.length_replicate, e0]
      by_cases e : 0 = q
      · subst e; rw [if_pos ⟨rfl, by omega⟩, if_pos ⟨rfl, by omega⟩]; rfl
      · rw [if_neg (by omega), if_neg (by omega)]
        simp only [off, List.getD_eq_getElem?_getD, List.getElem?_replicate, show q < 200 by omega, if_true]; rfl
    · have e0 : (List.replicate c.own.code.length false).getD q false = false := by simp only [List.getD_eq_getElem?_getD, List.getElem?_replicate]; split <;> rfl
      rw [e0] at hq; cases hq
  refine loopK.inv [4, 5, 11, 12, 13, 14, 15, 16, 17, 35, 36, 37, 38, 39, 40, 41, 42, 43, 44, 45, 46, 47, 48, 49, 50, 51, 52, 53, 54, 55, 56, 57, 58, 59, 60, 61, 62, 63, 64, 65, 66, 67, 68, 69, 70, 71, 72, 73, 74, 75, 76, 77, 78, 79, 80, 81, 82, 83, 84, 85, 86, 87, 88, 89, 90, 91, 92, 93, 94, 95, 96, 97, 98, 99, 100, 101, 102, 103, 104, 105, 106, 107, 108, 109, 110, 111, 112, 113, 114, 115, 116, 117, 118, 119, 120, 121, 122, 123, 124, 125, 126, 127, 128, 129, 130, 131, 132, 133, 134, 135, 136, 137, 138, 139, 140, 141] (fun a : AcX => AcI c (lookL m k) n η a.f a.x a.p a.vs a.hs a.lk a.η a.n) (fun a => [(11, .int .i64 a.p)]) (fun a => a.η) (fun a => a.n) (fun a => mu a.x * 300 + (200 - a.p)) ⟨700, lx0 c.own.code.length, 0, _, _, _, _, n + 5⟩ ⟨hR.symm, by have := mu_le (LI0 (c := c) h0); show mu (lx0 c.own.code.length) < 700; omega, LI0 h0, hrs0, by simp, by simp, start⟩ (by simp) (AHeap.le_rfl _) (Nat.le_refl _) ?_
  intro ⟨f, x, p, vs, hs, lk, η', n'⟩ hI
  replace hI : AcI c (lookL m k) n η f x p vs hs lk η' n' := hI
  obtain ⟨f', rfl⟩ : ∃ f', f = f' + 1 := ⟨f - 1, by have := hI.mu; omega⟩
  have heq := hI.eq
  have hle := hI.hp.le
  have hrs := hI.rs
  simp
  refine CondP.dec (fun h1 => ?_) (fun h1 => ?_)
  · have hp : p < c.own.code.length := by omega
    have b1 := rows1_bool (l := hs) (i := p) (by rw [hrs.lh]; exact hp)
    have b2 := rows1_bool (l := lk) (i := p) (by rw [hrs.ll]; exact hp)
    have ew : IntKind.i64.wrap ((p : Int) + 1) = (p : Int) + 1 := wrap_id (by omega) (by omega)
    have htd := hrs.todo p hp
    have next : x.todo.getD p false = false → AcI c (lookL m k) n η (f' + 1) x (p + 1) vs hs lk η' n' := fun h => ⟨heq, hI.mu, hI.li, hrs, hp, fun q hq => by
      by_cases e : q = p
      · subst e; exact h
      · exact hI.lo q (by omega), hI.hp⟩
    cases g1 : hs.getD p false
    · rw [g1] at b1 htd
      simp [h1, aindex, aload, apart, hI.hp.bh, b1, ew]
      exact endK.intro ⟨f' + 1, x, p + 1, vs, hs, lk, η', n'⟩ (next (by rw [htd]; rfl)) (by simp) (by repeat (first | exact Agree.mask _ _ | refine Agree.setf rfl ?_ | refine Agree.inner rfl ?_)) (AHeap.le_rfl _) (Nat.le_refl _) (show mu x * 300 + (200 - (p + 1)) < mu x * 300 + (200 - p) by omega)
    cases g2 : lk.getD p false
    rotate_left
    · rw [g1] at b1 htd
      rw [g2] at b2 htd
      simp [h1, aindex, aload, apart, hI.hp.bh, hI.hp.bl, b1, b2, ew]
      exact endK.intro ⟨f' + 1, x, p + 1, vs, hs, lk, η', n'⟩ (next (by rw [htd]; rfl)) (by simp) (by repeat (first | exact Agree.mask _ _ | refine Agree.setf rfl ?_ | refine Agree.inner rfl ?_)) (AHeap.le_rfl _) (Nat.le_refl _) (show mu x * 300 + (200 - (p + 1)) < mu x * 300 + (200 - p) by omega)
    · rw [g1] at b1 htd
      rw [g2] at b2 htd
      simp [h1, aindex, aload, apart, hI.hp.bh, hI.hp.bl, b1, b2]
      have hs2 : lk.length = c.own.code.length := hrs.ll
      have hlow : x.todo.findIdx? id = some p := by
        have hpt : p < x.todo.length := by rw [hI.li.lt]; omega
        exact low_some hpt (by simpa [List.getD_eq_getElem?_getD, hpt] using htd) hI.lo
      obtain ⟨o1, o2, o3⟩ := off_goes hI.li hlow
      have hrs1 := hrs.look h200 hI.li.lt hp g1
      have s2 : astore Try.prog 4 (.ptr (n + 1 + 1 + 1 + 1) p 0) (.bool true) η' = some (upd η' (n + 4) (some (.cells 1 (rows1 (bools (lk.set p true)))))) := astore_bool hI.hp.bl (by simp) (by omega)
      have hpA := hI.hp.setL (lk.set p true)
      generalize upd η' (n + 4) (some (.cells 1 (rows1 (bools (lk.set p true))))) = η1 at *
      rcases hcp : c.own.code[p] with ⟨op, a⟩
      have ei : c.own.code.getD p (0, 0) = (op, a) := by rw [← hcp]; simp [List.getD_eq_getElem?_getD, hp]
      have hi : rightI (op, a) = true := by rw [← hcp]; exact ho.code _ (List.getElem_mem ..)
      have hvp : p < vs.length := by rw [hrs.lv]; exact hp
      have hsh := hrs.sh p hvp
      have hxp := hI.li.ok p
      rw [ecm] at hxp
      have q0 := hpA.b0
      have q2 := hpA.bq
      have q3 := rows1_get hvp
      rw [ecm] at q0
      simp only [actsC] at q0
      have hbe : ∀ η n, AC Try.prog 30 [.agg [.rs 5 (List.map actC m)], .int .i64 k, .agg [.int .i64 op, .int .i64 a], vs[p]] η n (Rt (.tup [roE (behL c (op, a) (x.shapes.getD p [])).2 (behL c (op, a) (x.shapes.getD p [])).1, .int .i64 (behL c (op, a) (x.shapes.getD p [])).2]) η n) := fun η n =>
        AC.args (hbh (op, a) (x.shapes.getD p []) hi hxp.1 hxp.2 η n) ⟨Ent.refl _, Ent.refl _, Ent.refl _, by
          rcases hsh with e | ⟨e, e2⟩
          · rw [e]; exact Ent.refl _
          · rw [e, e2]; exact Ent.nils 1, trivial⟩
      have hat := atL_ways c (x.off p) p
      rw [ei] at hat
      rw [allL] at heq
      simp only [hlow] at heq
      have hoff : (x.off p).shapes = x.shapes := rfl
      rw [hoff] at hat
      have hbok := fun h => behL_ok (c := c) hc (i := (op, a)) (s := x.shapes.getD p []) hi (hI.li.ok p).1 (hI.li.ok p).2 h
      simp [s2]
      refine drawK.intro mixed [(0, []), (1, []), (2, []), (3, []), (4, []), (5, []), (6, []), (7, []), (8, []), (9, []), (10, []), (11, []), (12, []), (13, []), (14, []), (15, [])] (by kernel_rfl) ?_
      simp [aload, apart, q0, q2, q3, aindex, hp, hcp]
      refine ACK.rt (hbe _ _) ?_
      simp
      have eN : ∀ e : Int, e ≠ 0 → ∀ (x' : Lx), (x', e, (c.k : Int), (p : Int)) = lookL m k → ∀ (η' : AHeap), Ent (gnd n η' 4 (.tup [.nils, .nils, .agg [.int .i64 e, .int .i64 k, .int .i64 p]])) (actRes m k) := fun e he x' hx η' => by
        unfold actRes
        rw [← hx, eck]
        simp only [if_neg he]
        rw [gnd_tup]
        refine Ent.tup ⟨Ent.undef _, Ent.undef _, ?_, trivial⟩
        rw [gnd_agg]
        simp [fltV]
      clear hbe hbh
      by_cases he : (behL c (op, a) (x.shapes.getD p [])).2 = 0
      rotate_left
      · rw [if_pos he] at hat
        rw [hat] at heq
        simp only [if_pos he] at heq
        have he' := he
        simp only [List.getD_eq_getElem?_getD] at he'
        simp [he', abuild, aplace, afillP, astore, hpA.b1, aload, apart, upd_eq]
        refine resK.same ⟨fun y hy => by rw [upd_ne (by omega)]; exact hpA.fr y hy, ?_⟩ (Nat.le_refl _)
        have := eN _ he _ heq
        simp only [List.getD_eq_getElem?_getD] at this
        exact this _
      obtain ⟨k1, k2, k3⟩ := hbok he
      rw [if_neg (by simpa using he)] at hat
      have he' := he
      simp only [List.getD_eq_getElem?_getD] at he'
      generalize hout : (behL c (op, a) (x.shapes.getD p [])).1 = out at *
      have hout' := hout
      simp only [List.getD_eq_getElem?_getD] at hout'
      have hwe := hwy p out hp (by rw [ei]; exact k3) k2
      have hwok := waysL_ok (c := c) hc hp (by rw [ei]; exact k3) k1 k2
      have hwg := waysGo_goes (c := c) hc (waysL c p out) (x.off p) hwok o2
      simp only [modV, actsC] at hwe
      simp [he', hout', roE_zero, aload, apart, q0]
      refine ACK.rt (hwe _ _) ?_
      simp
      clear hwe hwy hbok hout hout' he he'
      have hwl := waysL_short (c := c) hc hp (by rw [ei]; exact k3) out
      generalize hws : waysL c p out = ws at *
      refine loopK.inv [4, 5, 15, 16, 17, 80, 81, 82, 83, 84, 85, 86, 87, 88, 89, 90, 91, 92, 93, 94, 95, 96, 97, 98, 99, 100, 101, 102, 103, 104, 105, 106, 107, 108, 109, 110, 111, 112, 113, 114, 115, 116, 117, 118, 119, 120, 121, 122, 123, 124, 125, 126, 127, 128, 129, 130, 131, 132, 133, 134, 135, 136, 137, 138, 139, 140, 141] (fun b : AcY => AcJ c (x.off p) ws n η (lk.set p true) b) (fun b => [(15, .int .i64 b.j)]) (fun b => b.η) (fun b => b.n) (fun b => ws.length - b.j) ⟨0, x.off p, vs, hs, η1, n'⟩ ⟨by simp, rfl, Goes.refl o2, hrs1, hpA⟩ (by simp) (AHeap.le_rfl _) (Nat.le_refl _) ?_
      intro ⟨j, x2, vs2, hs2, η2, n2⟩ hJ
      have eqJ : waysGo c x2 (ws.drop j) = waysGo c (x.off p) ws := hJ.eq
      have hpJ : AcH c.m n η vs2 hs2 (lk.set p true) η2 n2 := hJ.hp
      have rsJ : RSt c x2 vs2 hs2 (lk.set p true) := hJ.rs
      have goJ : Goes c (x.off p) x2 := hJ.go
      have jl : j ≤ ws.length := hJ.hj
      have leJ := hpJ.le
      have ewl : (waysC ws).length = ws.length := by simp [waysC]
      simp [ewl]
      refine CondP.dec (fun h2 => ?_) (fun h2 => ?_)
      · have h2' : j < ws.length := by omega
        have wok := hwok ws[j] (List.getElem_mem ..)
        rcases hw : ws[j] with ⟨to, sh, e⟩
        rw [hw] at wok
        obtain ⟨b, rfl⟩ : ∃ b : Nat, to = b := ⟨to.toNat, by have := wok.1; simp only at this; omega⟩
        have hrow : (waysC ws)[j]? = some [.int .i64 b, .rs 1 (ints sh), .int .i64 e] := by simp [waysC, h2', hw, wayC]
        rw [List.drop_eq_getElem_cons h2', hw, waysGo] at eqJ
        have hpB := fun o => hpJ.top (Nat.le_refl _) o
        have ewj : IntKind.i64.wrap ((j : Int) + 1) = (j : Int) + 1 := wrap_id (by omega) (by omega)
        simp [h2, aindex, hrow, aload, afield, apart, astore, upd_eq, upd_upd]
        by_cases e0 : e = 0
        rotate_left
        · rw [if_pos e0] at eqJ
          rw [hat, ← eqJ] at heq
          simp only [if_pos e0] at heq
          simp [e0]
          refine drawK.intro mixed [(0, []), (1, []), (2, []), (3, []), (4, []), (5, []), (6, []), (7, []), (8, []), (9, []), (10, []), (11, []), (12, []), (13, []), (14, []), (15, []), (16, []), (17, []), (18, []), (19, [])] (by kernel_rfl) ?_
          simp [e0, abuild, aplace, afillP, astore, (hpB _).b1, aload, apart, upd_eq]
          exact resK.same ⟨fun y hy => by rw [upd_ne (by omega)]; exact (hpB _).fr y hy, eN _ e0 _ heq _⟩ (Nat.le_refl _)
        subst e0
        rw [if_neg (by simp)] at eqJ
        simp only [show ((b : Int)).toNat = b by omega] at eqJ
        have nb : ¬ (b : Int) < 0 := by omega
        by_cases hbl : c.own.code.length ≤ b
        · have hbl' : (c.own.code.length : Int) ≤ b := by omega
          have hg : goesL c x2 b sh = (x2, 11) := by simp only [goesL]; rw [if_pos hbl]
          rw [hg] at eqJ
          simp only [if_pos (show (11 : Int) ≠ 0 by omega)] at eqJ
          rw [hat, ← eqJ] at heq
          simp only [if_pos (show (11 : Int) ≠ 0 by omega)] at heq
          simp [nb, aload, afield, apart, upd_eq, hbl]
          refine drawK.intro mixed [(0, []), (1, []), (2, []), (3, []), (4, []), (5, []), (6, []), (7, []), (8, []), (9, []), (10, []), (11, []), (12, []), (13, []), (14, []), (15, []), (16, []), (17, []), (18, []), (19, [])] (by kernel_rfl) ?_
          simp [abuild, aplace, afillP, astore, (hpB _).b1, aload, apart, upd_eq]
          exact resK.same ⟨fun y hy => by rw [upd_ne (by omega)]; exact (hpB _).fr y hy, eN _ (by omega) _ heq _⟩ (Nat.le_refl _)
        · have hbl2 : b < c.own.code.length := by omega
          have hB := hpB (some (.cells 3 [[.int .i64 b, .rs 1 (ints sh), .int .i64 0]]))
          have lB := rsJ.lh
          have lV := rsJ.lv
          have bb := rows1_bool (l := hs2) (i := b) (by omega)
          have bv := rows1_get (vs := vs2) (i := b) (by omega)
          have hbV : b < vs2.length := by omega
          have hseJ := rsJ.has b hbl2
          have s3 : astore Try.prog 4 (.ptr (n + 1 + 1 + 1) b 0) (.bool true) (upd η2 n2 (some (.cells 3 [[.int .i64 b, .rs 1 (ints sh), .int .i64 0]]))) = some (upd (upd η2 n2 (some (.cells 3 [[.int .i64 b, .rs 1 (ints sh), .int .i64 0]]))) (n + 3) (some (.cells 1 (rows1 (bools (hs2.set b true)))))) := astore_bool hB.bh (by simp) (by omega)
          have hC := hB.setH (hs2.set b true)
          have s4 : astore Try.prog 52 (.ptr (n + 1 + 1) b 0) (.rs 1 (ints sh)) (upd (upd η2 n2 (some (.cells 3 [[.int .i64 b, .rs 1 (ints sh), .int .i64 0]]))) (n + 3) (some (.cells 1 (rows1 (bools (hs2.set b true)))))) = some (upd (upd (upd η2 n2 (some (.cells 3 [[.int .i64 b, .rs 1 (ints sh), .int .i64 0]]))) (n + 3) (some (.cells 1 (rows1 (bools (hs2.set b true)))))) (n + 2) (some (.cells 1 (rows1 (vs2.set b (.rs 1 (ints sh))))))) := astore_rows1 hC.bq (by simp) rfl rfl hbV
          have hD := hC.setQ (vs2.set b (.rs 1 (ints sh)))
          have n23 : n2 ≠ n + 3 := by omega
          have hgw : (goesL c x2 b sh).2 = 0 → AcJ c (x.off p) ws n η (lk.set p true) ⟨j + 1, (goesL c x2 b sh).1, vs2.set b (.rs 1 (ints sh)), hs2.set b true, upd (upd (upd η2 n2 (some (.cells 3 [[.int .i64 b, .rs 1 (ints sh), .int .i64 0]]))) (n + 3) (some (.cells 1 (rows1 (bools (hs2.set b true)))))) (n + 2) (some (.cells 1 (rows1 (vs2.set b (.rs 1 (ints sh)))))), n2 + 1⟩ := fun hz => by
            rw [if_neg (by simpa using hz)] at eqJ
            exact ⟨h2', eqJ, goJ.trans (goesL_goes hc goJ.2 (wok.2 rfl).1 (wok.2 rfl).2), rsJ.goes h200 goJ.2.lh goJ.2.lt hbl2 hz, hD⟩
          cases gb : hs2.getD b false
          · have hg : (goesL c x2 b sh).2 = 0 := by
              simp only [goesL]; rw [if_neg hbl, if_pos (by rw [← hseJ]; exact gb)]
            rw [gb] at bb
            simp [nb, aload, afield, apart, upd_eq, hbl]
            refine drawK.intro mixed [(0, []), (1, []), (2, []), (3, []), (4, []), (5, []), (6, []), (7, []), (8, []), (9, []), (10, []), (11, []), (12, []), (13, []), (14, []), (15, []), (16, []), (17, []), (18, []), (19, [])] (by kernel_rfl) ?_
            simp [aload, afield, apart, upd_eq, aindex, hB.bh, bb, hbl2, s3, upd_ne n23, hC.bq, s4, ewj]
            exact endK.intro (⟨j + 1, _, _, _, _, n2 + 1⟩ : AcY) (hgw hg) (by simp) (by repeat (first | exact Agree.mask _ _ | refine Agree.setf rfl ?_ | refine Agree.inner rfl ?_)) (AHeap.le_rfl _) (Nat.le_refl _) (show ws.length - (j + 1) < ws.length - j by omega)
          · rw [gb] at bb
            have hvJ := rsJ.sh b hbV
            simp [nb, aload, afield, apart, upd_eq, hbl]
            refine drawK.intro mixed [(0, []), (1, []), (2, []), (3, []), (4, []), (5, []), (6, []), (7, []), (8, []), (9, []), (10, []), (11, []), (12, []), (13, []), (14, []), (15, []), (16, []), (17, []), (18, []), (19, [])] (by kernel_rfl) ?_
            simp [aload, afield, apart, upd_eq, aindex, hB.bh, hB.bq, bb, bv, hbl2]
            refine ACK.rt (same02_ac hvJ.isL (Or.inl rfl) (by have := (goJ.2.ok b).2; omega)) ?_
            by_cases hsame : x2.shapes.getD b [] = sh
            · have hg : (goesL c x2 b sh).2 = 0 := by
                simp only [goesL]; rw [if_neg hbl, if_neg (by rw [← hseJ, gb]; simp), if_pos hsame]
              have hsame' := hsame
              simp only [List.getD_eq_getElem?_getD] at hsame'
              simp [hsame', aload, afield, apart, upd_eq, aindex, hB.bh, hbl2, s3, upd_ne n23, hC.bq, s4, ewj]
              exact endK.intro (⟨j + 1, _, _, _, _, n2 + 1⟩ : AcY) (hgw hg) (by simp) (by repeat (first | exact Agree.mask _ _ | refine Agree.setf rfl ?_ | refine Agree.inner rfl ?_)) (AHeap.le_rfl _) (Nat.le_refl _) (show ws.length - (j + 1) < ws.length - j by omega)
            · have hg : goesL c x2 b sh = (x2, 10) := by
                simp only [goesL]; rw [if_neg hbl, if_neg (by rw [← hseJ, gb]; simp), if_neg hsame]
              have hsame' := hsame
              simp only [List.getD_eq_getElem?_getD] at hsame'
              rw [hg] at eqJ
              simp only [if_pos (show (10 : Int) ≠ 0 by omega)] at eqJ
              rw [hat, ← eqJ] at heq
              simp only [if_pos (show (10 : Int) ≠ 0 by omega)] at heq
              simp [hsame', abuild, aplace, afillP, astore, hB.b1, aload, apart, upd_eq]
              exact resK.same ⟨fun y hy => by rw [upd_ne (by omega)]; exact hB.fr y hy, eN _ (by omega) _ heq _⟩ (Nat.le_refl _)
      · have hjl : j = ws.length := by omega
        rw [hjl, List.drop_length, waysGo] at eqJ
        rw [hat, ← eqJ] at heq
        simp only [if_neg (show ¬ (0 : Int) ≠ 0 by omega)] at heq
        simp [h2]
        have := goJ.1
        have := hI.mu
        exact endK.intro (⟨f', x2, 0, vs2, hs2, lk.set p true, η2, n2⟩ : AcX) (⟨heq, by show mu x2 < f'; omega, goJ.2, rsJ, by simp, by simp, hpJ⟩ : AcI c (lookL m k) n η f' x2 0 vs2 hs2 (lk.set p true) η2 n2) (by simp) (by repeat (first | exact Agree.mask _ _ | refine Agree.setf rfl ?_ | refine Agree.inner rfl ?_)) (AHeap.le_rfl _) (Nat.le_refl _) (show mu x2 * 300 + (200 - 0) < mu x * 300 + (200 - p) by omega)
  · have hpl : p = c.own.code.length := by have := hI.ha; omega
    have hnone : x.todo.findIdx? id = none := low_none fun q hq => by
      by_cases e : q < p
      · exact hI.lo q e
      · cases g : x.todo.getD q false
        · rfl
        · have := hI.li.td q g; omega
    rw [allL] at heq
    simp only [hnone] at heq
    simp [h1, abuild, aplace, afillP, astore, hI.hp.b1, aload, apart, upd_eq]
    refine resK.same ⟨fun y hy => by rw [upd_ne (by omega)]; exact hI.hp.fr y hy, ?_⟩ (Nat.le_refl _)
    have hls : vs.length = x.shapes.length := by rw [hrs.lv, hrs.lx]
    have g2 : ∀ o, upd η' (n + 1) o (n + 2) = some (.cells 1 (rows1 vs)) := fun o => by rw [upd_ne (by omega)]; exact hI.hp.bq
    have g3 : ∀ o, upd η' (n + 1) o (n + 3) = some (.cells 1 (rows1 (bools hs))) := fun o => by rw [upd_ne (by omega)]; exact hI.hp.bh
    have hh := take_has hrs hI.li.lh h200
    have hsl := hrs.lh
    have hvl := hrs.lv
    unfold actRes
    rw [← heq, eco]
    simp only [if_true]
    rw [gnd_tup]
    refine Ent.tup ⟨?_, ?_, ?_, trivial⟩
    · rw [gnd_new (by omega) (g2 _) (by simp [rows1]; omega) (by simp only [lenMax]; omega)]
      have et : List.take c.own.code.length (List.drop 0 (rows1 vs)) = rows1 vs := by rw [List.drop_zero]; exact List.take_of_length_le (by simp [rows1]; omega)
      rw [et]
      exact Ent.rs (ent_shapes _ _ _ vs x.shapes hls fun i hi => hrs.sh i hi)
    · rw [gnd_new (by omega) (g3 _) (by simp [rows1, bools]; omega) (by simp only [lenMax]; omega)]
      have et : List.take c.own.code.length (List.drop 0 (rows1 (bools hs))) = rows1 (bools hs) := by rw [List.drop_zero]; exact List.take_of_length_le (by simp [rows1, bools]; omega)
      rw [et, ent_bools, ← hh]
      exact Ent.refl _
    · rw [gnd_agg]; simp [fltV]
end Go.Proofs.Ytkhoelmbcmkhjaa
