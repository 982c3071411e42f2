/- Layer 6 (check): at. Layer 6 (check): at, by the program. -/
import Derived.Test.YtkhoelmbcmkhjaaCn
namespace Go.Proofs.Ytkhoelmbcmkhjaa
set_option maxRecDepth 100000

/-- the look is at an actor of a module that is right -/
structure LcOK (c : Lc) : Prop where
  own : c.own = actr c.m c.k
  kl : c.k < c.m.length
  ml : c.m.length ≤ 8
  few : ∀ a ∈ c.m, littleF a = true
  ok : ∀ a ∈ c.m, rightA a c.m.length = true
theorem lcOK_of {m : List Actr} {k : Nat} (h : rightM m = 0) (hk : k < m.length) : LcOK ⟨m, k, actr m k⟩ := by
  unfold rightM at h
  split at h
  · cases h
  · rename_i h1
    split at h
    · cases h
    · rename_i h2
      refine ⟨rfl, hk, by show m.length ≤ 8; omega, fun a ha => ?_, fun a ha => ?_⟩
      · have : m.all littleF = true := by
          cases hh : m.all littleF
          · exact absurd (Or.inr hh) h1
          · rfl
        exact List.all_eq_true.1 this a ha
      · have : (m.all fun a => rightA a m.length) = true := by
          cases hh : m.all fun a => rightA a m.length
          · exact absurd (Or.inr (Or.inr hh)) h2
          · rfl
        exact List.all_eq_true.1 this a ha
theorem actr_mem {m : List Actr} {k : Nat} (h : k < m.length) : actr m k ∈ m := by
  unfold actr
  have e : m.getD (Int.toNat (k : Int)) ⟨[], [], [], [], []⟩ = m[k] := by simp [List.getD_eq_getElem?_getD, h]
  rw [e]; exact List.getElem_mem ..
structure ActOK (n : Nat) (a : Actr) : Prop where
  ty : TyOK n (a.params ++ a.regs ++ a.msgs)
  c0 : 0 < a.code.length
  c200 : a.code.length ≤ 200
  pl : a.params.length ≤ 4
  rl : a.regs.length ≤ 16
  ml : a.msgs.length ≤ 8
  tl : a.tabs.length ≤ 8
  code : ∀ i ∈ a.code, rightI i = true
  tabs : ∀ t ∈ a.tabs, t.cls.length ≤ 8 ∧ (∀ cl ∈ t.cls, 0 ≤ cl.1 ∧ 0 ≤ cl.2) ∧ (t.tmo = -1 ∨ (0 ≤ t.tmo ∧ t.tmo < 200))
theorem actOK_of {n : Nat} {a : Actr} (h1 : littleF a = true) (h2 : rightA a n = true) : ActOK n a := by
  unfold littleF at h1
  unfold rightA at h2
  simp only [Bool.and_eq_true, decide_eq_true_eq] at h1 h2
  obtain ⟨h1, l1, l2, l3, l4, l5⟩ := h1
  obtain ⟨t1, ⟨t2, t3⟩, t4, t5, t6⟩ := h2
  refine ⟨fun x hx => List.all_eq_true.1 t1 x hx, List.length_pos_iff.2 t2, l4, l1, l2, l3, l5, fun i hi => List.all_eq_true.1 t4 i hi, fun t ht => ?_⟩
  have k1 := List.all_eq_true.1 t5 t ht
  have k2 := List.all_eq_true.1 h1 t ht
  unfold tableOK at k1
  simp only [Bool.and_eq_true, decide_eq_true_eq] at k1 k2
  refine ⟨k2, fun cl hcl => ?_, k1.2⟩
  have := List.all_eq_true.1 k1.1 cl hcl
  simp only [clauseOK, decide_eq_true_eq] at this
  exact ⟨this.1, this.2.2.1⟩
theorem LcOK.act {c : Lc} (h : LcOK c) {k : Nat} (hk : k < c.m.length) : ActOK c.m.length (actr c.m k) := actOK_of (h.few _ (actr_mem hk)) (h.ok _ (actr_mem hk))
theorem LcOK.ownA {c : Lc} (h : LcOK c) : ActOK c.m.length c.own := by rw [h.own]; exact h.act h.kl
theorem LcOK.par {c : Lc} (h : LcOK c) (k : Int) : (actr c.m k).params.length ≤ 4 := by
  by_cases hk : k.toNat < c.m.length
  · have e : actr c.m k = actr c.m (k.toNat : Nat) := rfl
    rw [e]; exact (h.act hk).pl
  · have : actr c.m k = ⟨[], [], [], [], []⟩ := by unfold actr; rw [List.getD_eq_getElem?_getD, List.getElem?_eq_none (by omega)]; rfl
    rw [this]; simp
theorem rightI_bd {i : Int × Int} (h : rightI i = true) : (0 ≤ i.2 ∨ i.1 = 1) ∧ (i.2 < 9223372036854775807 ∨ i.1 = 1) := by
  simp only [rightI, decide_eq_true_eq] at h
  have : countI i.1 ≤ 200 := by unfold countI; repeat' split
                                all_goals omega
  omega
def XOK (c : Lc) (x : Lx) : Prop := ∀ k, TyOK c.m.length (x.shapes.getD k []) ∧ (x.shapes.getD k []).length ≤ 16
theorem TyOK.app {n : Nat} {a b : List Int} (h1 : TyOK n a) (h2 : TyOK n b) : TyOK n (a ++ b) := fun x hx => (List.mem_append.1 hx).elim (h1 x) (h2 x)
theorem TyOK.sub {n : Nat} {a b : List Int} (h1 : TyOK n a) (h2 : ∀ x ∈ b, x ∈ a) : TyOK n b := fun x hx => h1 x (h2 x hx)
theorem TyOK.one {n : Nat} {x : Int} (h : rightT x n = true) : TyOK n [x] := fun y hy => by simp at hy; subst hy; exact h
theorem TyOK.nil (n : Nat) : TyOK n [] := fun y hy => by simp at hy
theorem TyOK.getD {n : Nat} {l : List Int} (h : TyOK n l) {k : Nat} (hk : k < l.length) : rightT (l.getD k 0) n = true := by
  have : l.getD k 0 = l[k] := by simp [List.getD_eq_getElem?_getD, hk]
  rw [this]; exact h _ (List.getElem_mem ..)
theorem rightT_pid {j n : Nat} (h : j < n) (h8 : n ≤ 8) : rightT (16 + (j : Int)) n = true := by simp only [rightT, decide_eq_true_eq]; omega
theorem effL_ok {c : Lc} (h : LcOK c) {i : Int × Int} (hi : rightI i = true) (hn : namesL c i = true) : TyOK c.m.length (effL c i).2 := by
  have hb := rightI_bd hi
  have t1 : rightT 1 c.m.length = true := by simp [rightT]
  have t2 : rightT 2 c.m.length = true := by simp [rightT]
  have ho := h.ownA
  have hreg : i.1 = 4 ∨ i.1 = 5 → TyOK c.m.length [c.own.regs.getD i.2.toNat 0] := fun hh => by
    have : i.2 < c.own.regs.length := by simpa [namesL, hh] using hn
    have hr : TyOK c.m.length c.own.regs := ho.ty.sub fun x hx => by simp [hx]
    exact TyOK.one (hr.getD (by omega))
  unfold effL
  by_cases a1 : i.1 = 1
  · rw [if_pos a1]; exact TyOK.one t1
  rw [if_neg a1]
  by_cases a2 : i.1 = 2 ∨ i.1 = 3
  · rw [if_pos a2]; exact TyOK.one t2
  rw [if_neg a2]
  by_cases a3 : i.1 = 4
  · rw [if_pos a3]; exact hreg (Or.inl a3)
  rw [if_neg a3]
  by_cases a4 : i.1 = 5
  · rw [if_pos a4]; exact TyOK.nil _
  rw [if_neg a4]
  by_cases a5 : 6 ≤ i.1 ∧ i.1 ≤ 10
  · rw [if_pos a5]; exact TyOK.one t1
  rw [if_neg a5]
  by_cases a6 : i.1 = 11 ∨ i.1 = 12
  · rw [if_pos a6]; exact TyOK.one t2
  rw [if_neg a6]
  by_cases a7 : i.1 = 13
  · rw [if_pos a7]; exact TyOK.one t2
  rw [if_neg a7]
  by_cases a8 : i.1 = 14 ∨ i.1 = 15
  · rw [if_pos a8]; exact TyOK.one t2
  rw [if_neg a8]
  by_cases a9 : i.1 = 17
  · rw [if_pos a9]; exact TyOK.nil _
  rw [if_neg a9]
  by_cases b1 : i.1 = 18
  · rw [if_pos b1]; exact TyOK.one (rightT_pid h.kl h.ml)
  rw [if_neg b1]
  by_cases b2 : i.1 = 19
  · rw [if_pos b2]
    have : i.2 < c.m.length := by simpa [namesL, b2] using hn
    have e : i.2 = ((i.2.toNat : Nat) : Int) := by omega
    rw [e]; exact TyOK.one (rightT_pid (by omega) h.ml)
  rw [if_neg b2]
  split <;> exact TyOK.nil _
theorem popL_ok {n : Nat} {s w : List Int} (h : TyOK n s) : TyOK n (popL s w).1 := by
  unfold popL
  split
  · exact TyOK.nil _
  · split
    · exact h.sub fun x hx => List.mem_of_mem_take hx
    · exact TyOK.nil _
theorem sendL_ok {c : Lc} {a : Int} {s : List Int} (h : TyOK c.m.length s) : TyOK c.m.length (sendL c a s).1 := by
  unfold sendL
  split
  · exact TyOK.nil _
  · split
    · exact TyOK.nil _
    · split
      · exact h.sub fun x hx => List.mem_of_mem_take hx
      · exact TyOK.nil _
theorem high_ok {o : List Int} {e : Int} (h : (high o e).2 = 0) : o.length ≤ 16 := by
  unfold high at h
  simp only at h
  by_cases g : e = 0 ∧ 16 < o.length
  · rw [if_pos g] at h; cases h
  · rw [if_neg g] at h; omega
theorem behL_ok {c : Lc} (hc : LcOK c) {i : Int × Int} {s : List Int} (hi : rightI i = true) (hs : TyOK c.m.length s) (hl : s.length ≤ 16) (h0 : (behL c i s).2 = 0) : TyOK c.m.length (behL c i s).1 ∧ (behL c i s).1.length ≤ 16 ∧ namesL c i = true := by
  unfold behL at *
  by_cases a1 : namesL c i = false
  · rw [if_pos a1] at h0; cases h0
  rw [if_neg a1] at h0 ⊢
  have hn : namesL c i = true := by simpa using a1
  by_cases a2 : i.1 = 20
  · rw [if_pos a2] at h0 ⊢
    exact ⟨sendL_ok hs, Nat.le_trans (sendL_len ..) hl, hn⟩
  rw [if_neg a2] at h0 ⊢
  by_cases a3 : i.1 = 22 ∨ i.1 = 25 ∨ i.1 = 26
  · rw [if_pos a3] at h0 ⊢
    by_cases a4 : s = []
    · rw [if_pos a4] at h0; cases h0
    rw [if_neg a4] at h0 ⊢
    by_cases a5 : i.1 = 22 ∧ (actT (s.getLastD 0)).2 = false
    · rw [if_pos a5] at h0; cases h0
    rw [if_neg a5] at h0 ⊢
    have hp : 0 < s.length := List.length_pos_iff.2 a4
    have hk : s.length - 1 < s.length := by omega
    have eg : s.getLastD 0 = s[s.length - 1] := by rw [List.getLastD_eq_getLast?, List.getLast?_eq_getElem?, List.getElem?_eq_getElem hk, Option.getD_some]
    refine ⟨?_, high_ok h0, hn⟩
    unfold high
    simp only
    split
    · rw [eg]; exact hs.app (TyOK.one (hs _ (List.getElem_mem ..)))
    · exact hs.sub fun x hx => List.dropLast_subset _ hx
  · rw [if_neg a3] at h0 ⊢
    exact ⟨(popL_ok hs).app (effL_ok hc hi hn), high_ok h0, hn⟩
theorem goesL_ok {c : Lc} {x : Lx} {to : Nat} {s : List Int} (h : XOK c x) (hs : TyOK c.m.length s) (hl : s.length ≤ 16) : XOK c (goesL c x to s).1 := goesL_all (P := fun l => TyOK c.m.length l ∧ l.length ≤ 16) h ⟨hs, hl⟩
theorem recvL_ok {c : Lc} (hc : LcOK c) {tmo : Int} {s : List Int} (hs : TyOK c.m.length s) (hl : s.length ≤ 16) : ∀ (cls : List (Int × Int)) (x : Lx), (∀ cl ∈ cls, 0 ≤ cl.1 ∧ 0 ≤ cl.2) → XOK c x → XOK c (recvL c tmo s cls x).1
  | [], x, _, h => by
    unfold recvL
    split
    · exact h
    · exact goesL_ok h hs hl
  | cl :: r, x, hcl, h => by
    unfold recvL
    split
    · exact h
    · split
      · exact h
      · rename_i h1 h2
        have hm : TyOK c.m.length c.own.msgs := hc.ownA.ty.sub fun x hx => by simp [hx]
        have h0 := (hcl cl (by simp)).1
        have hg := goesL_ok (to := cl.2.toNat) h (hs.app (TyOK.one (hm.getD (k := cl.1.toNat) (by omega)))) (by simp; omega)
        split
        · exact recvL_ok hc hs hl r _ (fun q hq => hcl q (by simp [hq])) hg
        · exact hg
theorem atL_ok {c : Lc} (hc : LcOK c) {x : Lx} {p : Nat} (hp : p < c.own.code.length) (h : XOK c x) : XOK c (atL c x p).1 := by
  have hi : rightI (c.own.code.getD p (0, 0)) = true := by
    have : c.own.code.getD p (0, 0) = c.own.code[p] := by simp [List.getD_eq_getElem?_getD, hp]
    rw [this]; exact hc.ownA.code _ (List.getElem_mem ..)
  have hs := h p
  unfold atL
  simp only
  generalize c.own.code.getD p (0, 0) = i at *
  by_cases h0 : (behL c i (x.shapes.getD p [])).2 ≠ 0
  · rw [if_pos h0]; exact h
  rw [if_neg h0]
  obtain ⟨b1, b2, b3⟩ := behL_ok hc hi hs.1 hs.2 (by simpa using h0)
  generalize (behL c i (x.shapes.getD p [])).1 = out at *
  split
  · exact h
  split
  · exact goesL_ok h b1 b2
  split
  · rename_i h21
    have hA : i.2 < c.own.tabs.length := by simpa [namesL, h21] using b3
    have hb := rightI_bd hi
    have e : tbl c.own i.2 ∈ c.own.tabs := by
      unfold tbl
      have : i.2.toNat < c.own.tabs.length := by omega
      rw [List.getD_eq_getElem?_getD, List.getElem?_eq_getElem this]; exact List.getElem_mem ..
    exact recvL_ok hc b1 b2 _ _ (hc.ownA.tabs _ e).2.1 h
  split
  · split
    · exact goesL_ok (goesL_ok h b1 b2) b1 b2
    · exact goesL_ok h b1 b2
  · exact goesL_ok h b1 b2

theorem FrG.upd {n g q r : Nat} {η η' : AHeap} (h : FrG n g q η η') (hr : n ≤ r) (o : Option AObj) : FrG n g q η (Go.Proofs.Ytkhoelmbcmkhjaa.upd η' r o) := fun y h1 h2 h3 => by rw [upd_ne (by omega)]; exact h y h1 h2 h3
theorem XOK.len {c : Lc} {x : Lx} (h : XOK c x) (k : Nat) : (x.shapes.getD k []).length ≤ 1000 := by have := (h k).2; omega
theorem lat_ac {c : Lc} {x : Lx} {B g q : Nat} {vs : List AVal} {η : AHeap} {n : Nat} (p : Nat) (hc : LcOK c) (hL : LkAt c x B g q vs η) (hp : p < c.own.code.length) (hx : XOK c x) :
    AC Try.prog 79 [.ptr g 0 0, .int .i64 p] η n (LkPost c (atL c x p).1 (atL c x p).2 B g q n η) := by
  have ho := hc.ownA
  have h0 := ho.c0
  have h200 := ho.c200
  have hi0 : rightI c.own.code[p] = true := ho.code _ (List.getElem_mem ..)
  have ei : c.own.code.getD p (0, 0) = c.own.code[p] := by simp [List.getD_eq_getElem?_getD, hp]
  rcases hcp : c.own.code[p] with ⟨op, a⟩
  rw [hcp] at hi0 ei
  have hb := rightI_bd hi0
  have hpv : p < vs.length := by rw [hL.lv]; exact hp
  have hml := hc.ml
  have hkl := hc.kl
  have hsp := (hL.rows p hpv).isL
  have hok := fun h => behL_ok (s := x.shapes.getD p []) hc hi0 (hx p).1 (hx p).2 h
  have hg := hL.hg
  have hq := hL.hq
  refine AC.fresh fun hf => ?_; refine AC.enter Try.func79 rfl Try.ntmps79 (by simp) ?_
  have hlt := hL.lt' hf
  have hL1 : ∀ o, LkAt c x B g q vs (upd η n o) := fun o => hL.upd hf (Nat.le_refl _) o
  have fr1 : ∀ o, FrG n g q η (upd η n o) := fun o => (FrG.refl n g q η).upd (Nat.le_refl _) o
  have hsp1 : ∀ o, IsL (upd η n o) vs[p] (x.shapes.getD p []) := fun o => ((hL1 o).rows p hpv).isL
  simp [aload, afield, apart, hg, aindex, hp, hcp, astore, upd_eq, upd_upd]
  refine drawK.intro mixed [(0, []), (1, []), (2, []), (3, []), (4, []), (5, []), (6, []), (7, []), (8, []), (9, []), (10, []), (11, []), (12, []), (13, []), (14, [])] (by kernel_rfl) ?_
  simp [aload, afield, apart, upd_eq, (hL1 _).hg, (hL1 _).hq, aindex, hpv]
  have hbeh := fun m => lbehind_ac (n := m) (op, a) hb.1 hb.2 (by omega) (by omega) (fun k => by have := hc.par k; omega) (hL1 (some (.cells 2 [[.int .i64 op, .int .i64 a]]))).hg (hsp1 _) (hx p).1 (by have := (hx p).2; omega)
  refine ACK.pe (hbeh _) fun v hv => ?_
  simp
  have e0 : atL c x p = (if (behL c (op, a) (x.shapes.getD p [])).2 ≠ 0 then (x, (behL c (op, a) (x.shapes.getD p [])).2) else if op = 0 ∨ op = 23 then (x, 0) else if op = 16 then goesL c x a.toNat (behL c (op, a) (x.shapes.getD p [])).1
    else if op = 21 then recvL c (tbl c.own a).tmo (behL c (op, a) (x.shapes.getD p [])).1 (tbl c.own a).cls x
    else if op = 17 then (if (goesL c x a.toNat (behL c (op, a) (x.shapes.getD p [])).1).2 = 0 then goesL c (goesL c x a.toNat (behL c (op, a) (x.shapes.getD p [])).1).1 (p + 1) (behL c (op, a) (x.shapes.getD p [])).1 else goesL c x a.toNat (behL c (op, a) (x.shapes.getD p [])).1)
    else goesL c x (p + 1) (behL c (op, a) (x.shapes.getD p [])).1) := by unfold atL; rw [ei]
  by_cases he : (behL c (op, a) (x.shapes.getD p [])).2 = 0
  rotate_left
  · rw [if_pos he] at e0
    simp only [List.getD_eq_getElem?_getD] at he
    simp [he]
    rw [e0]
    simp only
    exact resK.same ⟨vs, rfl, hL1 _, fr1 _, by omega⟩ (Nat.le_refl _)
  obtain ⟨k1, k2, k3⟩ := hok he
  rw [if_neg (by simpa using he)] at e0
  generalize hout : (behL c (op, a) (x.shapes.getD p [])).1 = out at *
  simp only [List.getD_eq_getElem?_getD] at he
  simp [he, aload, afield, apart, upd_eq]
  have hA : 0 ≤ a ∨ op = 1 := hb.1
  by_cases w0 : op = 0
  · rw [if_pos (Or.inl w0)] at e0
    simp [eq_true w0]
    rw [e0]
    exact resK.same ⟨vs, rfl, hL1 _, fr1 _, by omega⟩ (Nat.le_refl _)
  by_cases w23 : op = 23
  · rw [if_pos (Or.inr w23)] at e0
    simp [w0, eq_true w23]
    rw [e0]
    exact resK.same ⟨vs, rfl, hL1 _, fr1 _, by omega⟩ (Nat.le_refl _)
  rw [if_neg (by omega)] at e0
  by_cases w16 : op = 16
  · rw [if_pos w16] at e0
    obtain ⟨b, rfl⟩ : ∃ b : Nat, a = b := ⟨a.toNat, by omega⟩
    rw [show (b : Int).toNat = b by omega] at e0
    simp [w0, w23, eq_true w16, aload, afield, apart, upd_eq]
    refine ACK.use (lgoes_ac b (hL1 _) h0 h200 hv (by omega) hx.len) ?_
    intro r4 η4 n4 ⟨vs4, e4, hL4, hfr4, hn4⟩
    subst e4
    simp
    rw [e0]
    exact resK.same ⟨vs4, rfl, hL4, (fr1 _).trans hfr4 (by omega), by omega⟩ (Nat.le_refl _)
  rw [if_neg w16] at e0
  by_cases w21 : op = 21
  · rw [if_pos w21] at e0
    have hn : a < c.own.tabs.length := by simpa [namesL, w21] using k3
    obtain ⟨b, rfl⟩ : ∃ b : Nat, a = b := ⟨a.toNat, by omega⟩
    have hb' : b < c.own.tabs.length := by omega
    have et : tbl c.own (b : Int) = c.own.tabs[b] := by simp [tbl, List.getD_eq_getElem?_getD, hb']
    have htt := ho.tabs c.own.tabs[b] (List.getElem_mem ..)
    rw [et] at e0
    simp [w0, w23, w16, eq_true w21]
    refine drawK.intro mixed [(0, []), (1, []), (2, []), (3, []), (4, []), (5, []), (6, []), (7, []), (8, []), (9, []), (10, []), (11, []), (12, [])] (by kernel_rfl) ?_
    have hrv := fun m => lreceives_ac (n := m) c.own.tabs[b] (hL1 _) h0 h200 hv (by omega) (fun k => (hx k).2) htt.2.1 (by omega)
    simp only [tblC] at hrv
    simp [aload, afield, apart, upd_eq, (hL1 _).hg, aindex, hb', tblsC, tblC]
    refine ACK.use (hrv _) ?_
    intro r4 η4 n4 ⟨vs4, e4, hL4, hfr4, hn4⟩
    subst e4
    have hlt4 : n < n4 := by omega
    have hnn : η4 n = some (.cells 2 [[.int .i64 op, .int .i64 b]]) := by rw [hfr4 n (by omega) (by omega) (by omega), upd_eq]
    simp
    rw [e0]
    exact resK.same ⟨vs4, rfl, hL4, (fr1 _).trans hfr4 (by omega), by omega⟩ (Nat.le_refl _)
  rw [if_neg w21] at e0
  by_cases w17 : op = 17
  · rw [if_pos w17] at e0
    obtain ⟨b, rfl⟩ : ∃ b : Nat, a = b := ⟨a.toNat, by omega⟩
    rw [show (b : Int).toNat = b by omega] at e0
    simp [w0, w23, w16, w21, eq_true w17, aload, afield, apart, upd_eq]
    refine ACK.use (lgoes_ac b (hL1 _) h0 h200 hv (by omega) hx.len).freshP ?_
    intro r4 η4 n4 ⟨⟨vs4, e4, hL4, hfr4, hn4⟩, hf4⟩
    subst e4
    by_cases h5 : (goesL c x b out).2 = 0
    · rw [if_pos h5] at e0
      have hv4 : IsL η4 v out := (hL1 _).keepL h0 hv (fun y hy => by rw [upd_ne (by omega)]; exact hf y (by omega)) hfr4
      have ew : IntKind.i64.wrap ((p : Int) + 1) = ((p + 1 : Nat) : Int) := by rw [wrap_id (by omega) (by omega)]; omega
      simp [h5, ew]
      refine ACK.use (lgoes_ac (p + 1) hL4 h0 h200 hv4 (by omega) (goesL_ok hx k1 k2).len) ?_
      intro r5 η5 n5 ⟨vs5, e5, hL5, hfr5, hn5⟩
      subst e5
      simp
      rw [e0]
      exact resK.same ⟨vs5, rfl, hL5, ((fr1 _).trans hfr4 (by omega)).trans hfr5 (by omega), by omega⟩ (Nat.le_refl _)
    · rw [if_neg h5] at e0
      simp [h5]
      rw [e0]
      exact resK.same ⟨vs4, rfl, hL4, (fr1 _).trans hfr4 (by omega), by omega⟩ (Nat.le_refl _)
  · rw [if_neg w17] at e0
    have ew : IntKind.i64.wrap ((p : Int) + 1) = ((p + 1 : Nat) : Int) := by rw [wrap_id (by omega) (by omega)]; omega
    simp [w0, w23, w16, w21, w17, ew]
    refine ACK.use (lgoes_ac (p + 1) (hL1 _) h0 h200 hv (by omega) hx.len) ?_
    intro r4 η4 n4 ⟨vs4, e4, hL4, hfr4, hn4⟩
    subst e4
    simp
    rw [e0]
    exact resK.same ⟨vs4, rfl, hL4, (fr1 _).trans hfr4 (by omega), by omega⟩ (Nat.le_refl _)
end Go.Proofs.Ytkhoelmbcmkhjaa
