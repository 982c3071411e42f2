/- Layer 6 (check): Index, begin. Layer 6 (check): all places, lowest first. Layer 6 (check): Check. -/
import Derived.Test.YtkhoelmbcmkhjaaCp
namespace Go.Proofs.Ytkhoelmbcmkhjaa
set_option maxRecDepth 100000

/-- the lowest place of the ones to look at -/
def lowI (td : List Bool) : Int := match td.findIdx? id with
  | some k => k
  | none => -1
theorem low_some {td : List Bool} {k : Nat} (hk : k < td.length) (h1 : td[k] = true) (h2 : ∀ j, j < k → td.getD j false = false) : td.findIdx? id = some k := by
  rw [List.findIdx?_eq_some_iff_getElem]
  refine ⟨hk, h1, fun j hj => ?_⟩
  have := h2 j hj
  have hj' : j < td.length := by omega
  simp [List.getD_eq_getElem?_getD, hj'] at this
  simp [this]
theorem low_none {td : List Bool} (h : ∀ j, j < td.length → td.getD j false = false) : td.findIdx? id = none := by
  rw [List.findIdx?_eq_none_iff]
  intro x hx
  obtain ⟨j, hj, rfl⟩ := List.getElem_of_mem hx
  have := h j hj
  simp [List.getD_eq_getElem?_getD, hj] at this
  simp [this]
theorem eqBB (a b : Bool) : aeqB Try.prog 4 (.bool a) (.bool b) = some (a == b) := by cases a <;> cases b <;> kernel_rfl
theorem index_ac {c : Lc} {v : AVal} {hs td : List Bool} {g : Nat} {η : AHeap} {n : Nat} (hg : η g = some (.cells 408 [lookC c v hs td])) (h1 : hs.length = 200) (h2 : td.length = 200) :
    AC Try.prog 78 [.arr g 0 208 200 1, .bool true] η n (Rt (.int .i64 (lowI td)) η n) := by
  refine AC.enter Try.func78 rfl Try.ntmps78 (by simp) ?_
  simp
  refine loopK.inv [4, 5, 8, 9, 10, 11, 12, 13, 14, 15, 16, 17, 18] (fun k : Nat => k ≤ 200 ∧ ∀ j, j < k → td.getD j false = false) (fun k => [(8, .int .i64 k)]) (fun _ => η) (fun _ => n) (fun k => 200 - k) 0 (by simp) (by simp) (by simp) (Nat.le_refl _) ?_
  intro k ⟨k1, k2⟩
  simp
  refine CondP.dec (fun h => ?_) (fun h => ?_)
  · have h' : k < 200 := by omega
    have ht := lookC_todo c v hs td h1 h2 k h'
    have ew : IntKind.i64.wrap ((k : Int) + 1) = (k : Int) + 1 := wrap_id (by omega) (by omega)
    simp [h, aload, apart, hg, aindex, ht]
    cases hb : td.getD k false
    · simp only [List.getD_eq_getElem?_getD] at hb
      simp [hb, ew, eqBB]
      exact endK.intro (k + 1) ⟨by omega, fun j hj => by
        by_cases e : j = k
        · subst e; simpa [List.getD_eq_getElem?_getD] using hb
        · exact k2 j (by omega)⟩ (by simp) (by repeat (first | exact Agree.mask _ _ | refine Agree.setf rfl ?_ | refine Agree.inner rfl ?_)) (AHeap.le_rfl _) (Nat.le_refl _) (show 200 - (k + 1) < 200 - k by omega)
    · simp only [List.getD_eq_getElem?_getD] at hb
      simp [hb, eqBB]
      refine resK.rt ⟨?_, rfl, rfl⟩
      have hk : k < td.length := by omega
      have : td.findIdx? id = some k := low_some hk (by simpa [hk] using hb) k2
      simp [lowI, this]
  · have hk : k = 200 := by omega
    subst hk
    simp
    refine resK.rt ⟨?_, rfl, rfl⟩
    have : td.findIdx? id = none := low_none fun j hj => k2 j (by omega)
    simp [lowI, this]

/-- nothing yet -/
def off : List Bool := List.replicate 200 false
theorem off_len : off.length = 200 := by simp [off]
theorem boxK.intro {o : Option Nat} {cs : List AVal} {z : Nat} {K : List AVal → Nat → Prop} {g : Tag K} (ho : o = some z) (h1 : cs.length = z) (h2 : ∀ x ∈ cs, x.sc = true) (h3 : 0 < z) (hK : K cs z) : boxK o cs K g := by
  subst ho
  refine ⟨?_, hK⟩
  simp [h1, h3]
  exact h2
def lookZ : List AVal := .nils :: .int .i64 0 :: .nils :: .nils :: .nils :: .nils :: .nils :: .nils :: List.replicate 400 (.bool false)
theorem zero110 : tzero Try.prog 110 = some lookZ := by kernel_rfl
theorem build110 (c : Lc) : abuild Try.prog 110 [(0, [.rs 5 (actsC c.m)]), (1, [.int .i64 c.k]), (2, [.rs 1 (ints c.own.params), .rs 1 (ints c.own.regs), .rs 1 (ints c.own.msgs), .rs 2 (pairs c.own.code), .rs 2 (tblsC c.own.tabs)])] = some (.agg (lookC c .nils off off)) := by
  simp [abuild, zero110, aplace, afillP, lookZ, lookC, bools, off]
def lx0 (len : Nat) : Lx := ⟨List.replicate len [], off.set 0 true, off.set 0 true⟩
def BeginPost (c : Lc) (η : AHeap) (n : Nat) : AVal → AHeap → Nat → Prop := fun r η' n' => ∃ g q vs, r = .ptr g 0 0 ∧ LkAt c (lx0 c.own.code.length) n g q vs η' ∧ (∀ y, y < n → η' y = η y) ∧ n ≤ n'
theorem begin_ac (m : List Actr) (k : Nat) (hk : k < m.length) (hl : (actr m k).code.length ≤ 200) (η : AHeap) (n : Nat) : AC Try.prog 52 [modV m, .int .i64 k] η n (BeginPost ⟨m, k, actr m k⟩ η n) := by
  have ea : actr m (k : Int) = m[k] := by simp [actr, List.getD_eq_getElem?_getD, hk]
  rw [ea] at hl ⊢
  have hb := build110 ⟨m, k, m[k]⟩
  simp only [actsC] at hb
  have hz := off_len
  have hlen : (lookC ⟨m, k, m[k]⟩ .nils off off).length = 408 := lookC_len _ _ _ _ hz hz
  have hsc : ∀ x ∈ lookC ⟨m, k, m[k]⟩ .nils off off, x.sc = true := by
    intro x hx
    simp [lookC, bools, off] at hx
    rcases hx with rfl | rfl | rfl | rfl | rfl | rfl | rfl | rfl | h <;> first | rfl | (rw [h]; rfl)
  refine AC.fresh fun hf => ?_; refine AC.enter Try.func52 rfl Try.ntmps52 (by simp) ?_
  simp [modV]
  refine drawK.intro mixed [(0, []), (1, []), (2, []), (3, []), (4, []), (5, []), (6, []), (7, []), (8, []), (9, [])] (by kernel_rfl) ?_
  simp [aload, afield, apart, upd_eq, aindex, actsC, actC, hk, hb]
  refine boxK.intro rfl hlen hsc (by omega) ?_
  simp [aload, afield, apart, upd_eq, makeK]
  refine ⟨by omega, by omega, ?_⟩
  have hrep : List.replicate m[k].code.length [AVal.nils] = (List.replicate m[k].code.length AVal.nils).map fun v => [v] := by simp
  generalize hH : upd (upd (upd η n (some (.cells 1 [[.rs 5 (List.map actC m)]]))) (n + 1) (some (.cells 408 [lookC ⟨m, k, m[k]⟩ .nils off off]))) (n + 1 + 1) (some (.cells 1 (List.replicate m[k].code.length [.nils]))) = H
  have h1 : H (n + 1) = some (.cells 408 [lookC ⟨m, k, m[k]⟩ .nils off off]) := by rw [← hH, upd_ne (by omega), upd_eq]
  have h2 : H (n + 1 + 1) = some (.cells 1 ((List.replicate m[k].code.length AVal.nils).map fun v => [v])) := by rw [← hH, upd_eq, hrep]
  have h3 : ∀ y, y < n → H y = η y := fun y hy => by rw [← hH, upd_ne (by omega), upd_ne (by omega), upd_ne (by omega)]
  have s1 : astore Try.prog 71 (.ptr (n + 1) 0 7) (.sl (n + 1 + 1) 0 m[k].code.length) H = some (upd H (n + 1) (some (.cells 408 [lookC ⟨m, k, m[k]⟩ (.sl (n + 1 + 1) 0 m[k].code.length) off off]))) := by
    rw [astore_cell h1 (by simp) rfl rfl (by omega) hlen, lookC_setShapes]
  have s2 : astore Try.prog 4 (.ptr (n + 1) 0 8) (.bool true) (upd H (n + 1) (some (.cells 408 [lookC ⟨m, k, m[k]⟩ (.sl (n + 1 + 1) 0 m[k].code.length) off off]))) = some (upd H (n + 1) (some (.cells 408 [lookC ⟨m, k, m[k]⟩ (.sl (n + 1 + 1) 0 m[k].code.length) (off.set 0 true) off]))) := by
    rw [astore_cell (upd_eq ..) (by simp) rfl rfl (by omega) (lookC_len _ _ _ _ hz hz), upd_upd, show (8 : Nat) = 8 + 0 from rfl, lookC_setHas _ _ _ _ hz 0 (by omega)]
  have s3 : astore Try.prog 4 (.ptr (n + 1) 0 208) (.bool true) (upd H (n + 1) (some (.cells 408 [lookC ⟨m, k, m[k]⟩ (.sl (n + 1 + 1) 0 m[k].code.length) (off.set 0 true) off]))) = some (upd H (n + 1) (some (.cells 408 [lookC ⟨m, k, m[k]⟩ (.sl (n + 1 + 1) 0 m[k].code.length) (off.set 0 true) (off.set 0 true)]))) := by
    rw [astore_cell (upd_eq ..) (by simp) rfl rfl (by omega) (lookC_len _ _ _ _ (by simp [hz]) hz), upd_upd, show (208 : Nat) = 208 + 0 from rfl, lookC_setTodo _ _ _ _ (by simp [hz]) 0 (by omega)]
  simp [s1]
  refine drawK.intro mixed [(0, []), (1, []), (2, []), (3, []), (4, []), (6, []), (7, []), (5, []), (8, []), (9, [])] (by kernel_rfl) ?_
  simp [afield, aindex, s2, s3]
  refine resK.same ⟨n + 1, n + 1 + 1, List.replicate m[k].code.length .nils, rfl, ?_, fun y hy => by rw [upd_ne (by omega)]; exact h3 y hy, by omega⟩ (Nat.le_refl _)
  refine ⟨?_, ?_, by omega, by omega, by omega, by simp [lx0, hz], by simp [lx0, hz], by simp, by simp [lx0], ?_, ?_, ?_⟩
  · rw [upd_eq, List.length_replicate]; rfl
  · rw [upd_ne (by omega)]; exact h2
  · intro j hj
    have hj' : j < m[k].code.length := by simpa using hj
    refine Or.inl ⟨by simp, ?_⟩
    simp [lx0, List.getD_eq_getElem?_getD, hj']
  · intro i r w hi
    rw [List.getElem?_replicate] at hi
    split at hi <;> cases hi
  · intro i j r a b hi
    rw [List.getElem?_replicate] at hi
    split at hi <;> cases hi

def Lx.off (x : Lx) (p : Nat) : Lx := ⟨x.shapes, x.has, x.todo.set p false⟩
def mu (x : Lx) : Nat := 2 * x.has.count false + x.todo.count true
def allL (c : Lc) : Nat → Lx → Lx × Int × Int × Int
  | 0, x => (x, 0, 0, 0)
  | f + 1, x => match x.todo.findIdx? id with
    | none => (x, 0, 0, 0)
    | some p => if (atL c (x.off p) p).2 ≠ 0 then ((atL c (x.off p) p).1, (atL c (x.off p) p).2, c.k, p) else allL c f (atL c (x.off p) p).1
/-- what is always so of a look -/
structure LI (c : Lc) (x : Lx) : Prop where
  ok : XOK c x
  lh : x.has.length = 200
  lt : x.todo.length = 200
  td : ∀ p, x.todo.getD p false = true → p < c.own.code.length
theorem goesL_mu {c : Lc} (h200 : c.own.code.length ≤ 200) {x : Lx} {to : Nat} {s : List Int} (h1 : x.has.length = 200) (h2 : x.todo.length = 200) : mu (goesL c x to s).1 ≤ mu x ∧ (goesL c x to s).1.has.length = 200 ∧ (goesL c x to s).1.todo.length = 200 := by
  unfold goesL
  split
  · exact ⟨Nat.le_refl _, h1, h2⟩
  · rename_i hto
    split
    · rename_i hb
      have hl : to < x.has.length := by omega
      have hl2 : to < x.todo.length := by omega
      refine ⟨?_, by simp [h1], by simp [h2]⟩
      have hb' : x.has[to] = false := by simpa [List.getD_eq_getElem?_getD, hl] using hb
      have c1 : 0 < x.has.count false := List.count_pos_iff.2 (by rw [← hb']; exact List.getElem_mem ..)
      unfold mu
      simp only [List.count_set hl, List.count_set hl2, hb']
      simp
      split <;> omega
    · split <;> exact ⟨Nat.le_refl _, h1, h2⟩
theorem goesL_td {c : Lc} {x : Lx} {to : Nat} {s : List Int} (h : ∀ p, x.todo.getD p false = true → p < c.own.code.length) : ∀ p, (goesL c x to s).1.todo.getD p false = true → p < c.own.code.length := by
  intro p
  unfold goesL
  split
  · exact h p
  · rename_i hto
    split
    · intro hp
      by_cases e : to = p
      · omega
      · simp [List.getD_eq_getElem?_getD, List.getElem?_set_ne e] at hp
        exact h p (by simpa [List.getD_eq_getElem?_getD] using hp)
    · split <;> exact h p
/-- a way on that keeps what is always so, and does not grow -/
def Goes (c : Lc) (x y : Lx) : Prop := mu y ≤ mu x ∧ LI c y
theorem goesL_goes {c : Lc} (hc : LcOK c) {x : Lx} {to : Nat} {s : List Int} (h : LI c x) (hs : TyOK c.m.length s) (hl : s.length ≤ 16) : Goes c x (goesL c x to s).1 := by
  obtain ⟨a1, a2, a3⟩ := goesL_mu (c := c) (to := to) (s := s) hc.ownA.c200 h.lh h.lt
  exact ⟨a1, goesL_ok h.ok hs hl, a2, a3, goesL_td h.td⟩
theorem Goes.refl {c : Lc} {x : Lx} (h : LI c x) : Goes c x x := ⟨Nat.le_refl _, h⟩
theorem Goes.trans {c : Lc} {x y z : Lx} (h : Goes c x y) (h' : Goes c y z) : Goes c x z := ⟨Nat.le_trans h'.1 h.1, h'.2⟩
theorem recvL_goes {c : Lc} (hc : LcOK c) {tmo : Int} {s : List Int} (hs : TyOK c.m.length s) (hl : s.length ≤ 16) : ∀ (cls : List (Int × Int)) (x : Lx), (∀ cl ∈ cls, 0 ≤ cl.1 ∧ 0 ≤ cl.2) → LI c x → Goes c x (recvL c tmo s cls x).1
  | [], x, _, h => by
    unfold recvL
    split
    · exact Goes.refl h
    · exact goesL_goes hc h hs hl
  | cl :: r, x, hcl, h => by
    unfold recvL
    split
    · exact Goes.refl h
    · split
      · exact Goes.refl h
      · rename_i h1 h2
        have hm : TyOK c.m.length c.own.msgs := hc.ownA.ty.sub fun x hx => by simp [hx]
        have h0 := (hcl cl (by simp)).1
        have hg := goesL_goes hc (to := cl.2.toNat) h (hs.app (TyOK.one (hm.getD (k := cl.1.toNat) (by omega)))) (by simp; omega)
        split
        · exact hg.trans (recvL_goes hc hs hl r _ (fun q hq => hcl q (by simp [hq])) hg.2)
        · exact hg
theorem atL_goes {c : Lc} (hc : LcOK c) {x : Lx} {p : Nat} (hp : p < c.own.code.length) (h : LI c x) : Goes c x (atL c x p).1 := by
  have hi : rightI (c.own.code.getD p (0, 0)) = true := by
    have : c.own.code.getD p (0, 0) = c.own.code[p] := by simp [List.getD_eq_getElem?_getD, hp]
    rw [this]; exact hc.ownA.code _ (List.getElem_mem ..)
  have hs := h.ok p
  unfold atL
  simp only
  generalize c.own.code.getD p (0, 0) = i at *
  by_cases h0 : (behL c i (x.shapes.getD p [])).2 ≠ 0
  · rw [if_pos h0]; exact Goes.refl h
  rw [if_neg h0]
  obtain ⟨b1, b2, b3⟩ := behL_ok hc hi hs.1 hs.2 (by simpa using h0)
  generalize (behL c i (x.shapes.getD p [])).1 = out at *
  split
  · exact Goes.refl h
  split
  · exact goesL_goes hc h b1 b2
  split
  · rename_i h21
    have hA : i.2 < c.own.tabs.length := by simpa [namesL, h21] using b3
    have hb := rightI_bd hi
    have e : tbl c.own i.2 ∈ c.own.tabs := by
      unfold tbl
      have : i.2.toNat < c.own.tabs.length := by omega
      rw [List.getD_eq_getElem?_getD, List.getElem?_eq_getElem this]; exact List.getElem_mem ..
    exact recvL_goes hc b1 b2 _ _ (hc.ownA.tabs _ e).2.1 h
  split
  · split
    · exact (goesL_goes hc h b1 b2).trans (goesL_goes hc (goesL_goes hc h b1 b2).2 b1 b2)
    · exact goesL_goes hc h b1 b2
  · exact goesL_goes hc h b1 b2
theorem off_goes {c : Lc} {x : Lx} {p : Nat} (h : LI c x) (hp : x.todo.findIdx? id = some p) : mu (x.off p) < mu x ∧ LI c (x.off p) ∧ p < c.own.code.length := by
  rw [List.findIdx?_eq_some_iff_getElem] at hp
  obtain ⟨hl, h1, _⟩ := hp
  have h1' : x.todo[p] = true := by simpa using h1
  have hd : x.todo.getD p false = true := by simpa [List.getD_eq_getElem?_getD, hl] using h1'
  refine ⟨?_, ⟨h.ok, h.lh, by simp [Lx.off, h.lt], fun q hq => ?_⟩, h.td p hd⟩
  · have c1 : 0 < x.todo.count true := List.count_pos_iff.2 (by rw [← h1']; exact List.getElem_mem ..)
    unfold mu Lx.off
    simp only [List.count_set hl, h1']
    simp; omega
  · by_cases e : p = q
    · subst e; simp [Lx.off, List.getD_eq_getElem?_getD, hl] at hq
    · simp [Lx.off, List.getD_eq_getElem?_getD, List.getElem?_set_ne e] at hq
      exact h.td q (by simpa [List.getD_eq_getElem?_getD] using hq)
theorem LI0 {c : Lc} (h : 0 < c.own.code.length) : LI c (lx0 c.own.code.length) := by
  refine ⟨fun k => ?_, by simp [lx0, off_len], by simp [lx0, off_len], fun p hp => ?_⟩
  · have : (lx0 c.own.code.length).shapes.getD k [] = [] := by
      simp [lx0, List.getD_eq_getElem?_getD, List.getElem?_replicate]; split <;> rfl
    rw [this]; exact ⟨TyOK.nil _, by simp⟩
  · by_cases e : 0 = p
    · omega
    · simp only [lx0, List.getD_eq_getElem?_getD, List.getElem?_set_ne e, off, List.getElem?_replicate] at hp
      split at hp <;> simp at hp
theorem mu_le {c : Lc} {x : Lx} (h : LI c x) : mu x ≤ 600 := by
  have h1 := List.count_le_length (a := false) (l := x.has)
  have h2 := List.count_le_length (a := true) (l := x.todo)
  have := h.lh; have := h.lt
  unfold mu; omega
theorem LkAt.upd3 {c : Lc} {x : Lx} {B g q r : Nat} {vs : List AVal} {η : AHeap} (h : LkAt c x B g q vs η) (hr : ∀ rows, η r ≠ some (.cells 1 rows)) (hg : r ≠ g) (o : Option AObj) : LkAt c x B g q vs (Go.Proofs.Ytkhoelmbcmkhjaa.upd η r o) := by
  have hq : r ≠ q := fun e => hr _ (by rw [e]; exact h.hq)
  exact ⟨by rw [upd_ne hg.symm]; exact h.hg, by rw [upd_ne hq.symm]; exact h.hq, h.gq, h.bg, h.bq, h.lh, h.lt, h.lv, h.ls, fun k hk => by
    rcases h.rows k hk with g1 | ⟨r', g1, g2, g3, g4⟩
    · exact Or.inl g1
    · exact Or.inr ⟨r', g1, by rw [upd_ne (fun e => hr _ (by rw [← e]; exact g2))]; exact g2, g3, g4⟩, h.big, h.apt⟩
theorem LkAt.offAt {c : Lc} {x : Lx} {B g q : Nat} {vs : List AVal} {η : AHeap} (h : LkAt c x B g q vs η) (p : Nat) : LkAt c (x.off p) B g q vs (Go.Proofs.Ytkhoelmbcmkhjaa.upd η g (some (.cells 408 [lookC c (.sl q 0 vs.length) x.has (x.todo.set p false)]))) :=
  ⟨upd_eq .., by rw [upd_ne h.gq.symm]; exact h.hq, h.gq, h.bg, h.bq, h.lh, by simp [Lx.off, h.lt], h.lv, h.ls, fun k hk => by
    rcases h.rows k hk with g1 | ⟨r', g1, g2, g3, g4⟩
    · exact Or.inl g1
    · exact Or.inr ⟨r', g1, by rw [upd_ne g3]; exact g2, g3, g4⟩, h.big, h.apt⟩
def AllPost (c : Lc) (R : Lx × Int × Int × Int) (B g q n : Nat) (η : AHeap) : AVal → AHeap → Nat → Prop := fun r η' n' => ∃ vs, r = .agg [.int .i64 R.2.1, .int .i64 R.2.2.1, .int .i64 R.2.2.2] ∧ LkAt c R.1 B g q vs η' ∧ FrG n g q η η' ∧ n ≤ n'
structure AlI (c : Lc) (R : Lx × Int × Int × Int) (B g q n0 : Nat) (η0 : AHeap) (f : Nat) (x : Lx) (vs : List AVal) (η' : AHeap) (n' : Nat) : Prop where
  eq : allL c f x = R
  mu : mu x < f
  li : LI c x
  lk : LkAt c x B g q vs η'
  fr : FrG n0 g q η0 η'
  le : n0 ≤ n'
  free : ∀ y, n' ≤ y → η' y = none
theorem all_ac {c : Lc} {x : Lx} {B g q : Nat} {vs : List AVal} {η : AHeap} {n : Nat} (hc : LcOK c) (hL : LkAt c x B g q vs η) (hx : LI c x) : AC Try.prog 53 [.ptr g 0 0] η n (AllPost c (allL c 700 x) B g q n η) := by
  refine AC.fresh fun hf => ?_; refine AC.enter Try.func53 rfl Try.ntmps53 (by simp) ?_
  have hlt := hL.lt' hf
  have hL1 : ∀ o, LkAt c x B g q vs (upd η n o) := fun o => hL.upd hf (Nat.le_refl _) o
  have k0 : ∀ o, FrG n g q η (upd η n o) := fun o => (FrG.refl n g q η).upd (Nat.le_refl _) o
  have hf0 : ∀ o y, n + 1 ≤ y → upd η n o y = none := fun o y hy => by rw [upd_ne (by omega)]; exact hf y (by omega)
  simp
  refine loopK.inv [3, 4, 5, 6, 7, 8, 9, 10, 11, 12, 13, 14, 15, 16, 17, 18, 19, 20, 21, 22, 23, 24, 25, 26, 27, 28, 29] (fun a : Nat × Lx × List AVal × AHeap × Nat => AlI c (allL c 700 x) B g q (n + 1) (upd η n (some (.cells 3 [[.int .i64 0, .int .i64 0, .int .i64 0]]))) a.1 a.2.1 a.2.2.1 a.2.2.2.1 a.2.2.2.2) (fun a => []) (fun a => a.2.2.2.1) (fun a => a.2.2.2.2) (fun a => a.1) (700, x, vs, upd η n (some (.cells 3 [[.int .i64 0, .int .i64 0, .int .i64 0]])), n + 1) ⟨rfl, by have := mu_le hx; show Go.Proofs.Ytkhoelmbcmkhjaa.mu x < 700; omega, hx, hL1 _, FrG.refl _ _ _ _, Nat.le_refl _, hf0 _⟩ (by simp) (AHeap.le_rfl _) (Nat.le_refl _) ?_
  intro ⟨f, x', vs', η', n'⟩ hI
  replace hI : AlI c (allL c 700 x) B g q (n + 1) (upd η n (some (.cells 3 [[.int .i64 0, .int .i64 0, .int .i64 0]]))) f x' vs' η' n' := hI
  have hg := hI.lk.hg
  have hn' := hI.le
  have hfr : FrG n g q η η' := (k0 _).trans hI.fr (by omega)
  have hn : η' n = some (.cells 3 [[.int .i64 0, .int .i64 0, .int .i64 0]]) := by rw [hI.fr n (by omega) (by omega) (by omega), upd_eq]
  obtain ⟨f', rfl⟩ : ∃ f', f = f' + 1 := ⟨f - 1, by have := hI.mu; omega⟩
  have heq := hI.eq
  rw [allL] at heq
  simp [afield, asliceV, abnd, hg]
  refine ACK.rt (index_ac hg hI.li.lh hI.li.lt) ?_
  cases ht : x'.todo.findIdx? id with
  | none =>
    simp only [ht] at heq
    have el : lowI x'.todo = -1 := by simp only [lowI, ht]
    simp [el, abuild, aplace, afillP, astore, hn, aload, apart, upd_eq]
    rw [← heq]
    exact resK.same ⟨vs', rfl, hI.lk.upd3 (fun rows e => by rw [hn] at e; cases e) (by omega) _, hfr.upd (Nat.le_refl _) _, by omega⟩ (Nat.le_refl _)
  | some p =>
    simp only [ht] at heq
    have el : lowI x'.todo = (p : Int) := by simp only [lowI, ht]
    obtain ⟨o1, o2, o3⟩ := off_goes hI.li ht
    have h200 := hc.ownA.c200
    have p0 : ¬ ((p : Int) < 0) := by omega
    have p2 : (p : Int) < 200 := by omega
    have s1 : astore Try.prog 4 (.ptr g 0 (208 + p)) (.bool false) η' = some (Go.Proofs.Ytkhoelmbcmkhjaa.upd η' g (some (.cells 408 [lookC c (.sl q 0 vs'.length) x'.has (x'.todo.set p false)]))) := by
      rw [astore_cell hg (by simp) rfl rfl (by omega) (lookC_len _ _ _ _ hI.li.lh hI.li.lt), lookC_setTodo _ _ _ _ hI.li.lh _ (by omega)]
    have hlt' := hI.lk.lt' hI.free
    have hf1 : ∀ o y, n' ≤ y → Go.Proofs.Ytkhoelmbcmkhjaa.upd η' g o y = none := fun o y hy => by rw [upd_ne (by omega)]; exact hI.free y hy
    simp [el, afield, aindex, p0, p2, s1]
    refine ACK.use (lat_ac p hc (hI.lk.offAt p) o3 o2.ok).freshP ?_
    intro r4 η4 n4 ⟨⟨vs4, e4, hL4, hfr4, hn4⟩, hf4⟩
    subst e4
    have hg2 := atL_goes hc o3 o2
    have fr4 : FrG (n + 1) g q (Go.Proofs.Ytkhoelmbcmkhjaa.upd η n (some (.cells 3 [[.int .i64 0, .int .i64 0, .int .i64 0]]))) η4 := fun y h1 h2 h3 => by rw [hfr4 y (by omega) h2 h3, upd_ne h2]; exact hI.fr y h1 h2 h3
    have hfr5 : FrG n g q η η4 := fun y h1 h2 h3 => by rw [hfr4 y (by omega) h2 h3, upd_ne h2]; exact hfr y h1 h2 h3
    have hn5 : η4 n = some (.cells 3 [[.int .i64 0, .int .i64 0, .int .i64 0]]) := by rw [fr4 n (by omega) (by omega) (by omega), upd_eq]
    by_cases h5 : (atL c (x'.off p) p).2 = 0
    · rw [if_neg (by simpa using h5)] at heq
      simp [h5]
      exact endK.intro (f', (atL c (x'.off p) p).1, vs4, η4, n4) (⟨heq, by have := hI.mu; have := hg2.1; show Go.Proofs.Ytkhoelmbcmkhjaa.mu (atL c (x'.off p) p).1 < f'; omega, hg2.2, hL4, fr4, by show n + 1 ≤ n4; omega, hf4⟩ : AlI c (allL c 700 x) B g q (n + 1) (Go.Proofs.Ytkhoelmbcmkhjaa.upd η n (some (.cells 3 [[.int .i64 0, .int .i64 0, .int .i64 0]]))) f' (atL c (x'.off p) p).1 vs4 η4 n4) (by simp) (by repeat (first | exact Agree.mask _ _ | refine Agree.setf rfl ?_ | refine Agree.inner rfl ?_)) (AHeap.le_rfl _) (Nat.le_refl _) (show f' < f' + 1 by omega)
    · rw [if_pos h5] at heq
      simp [h5, afield, aload, apart, hL4.hg, abuild, aplace, afillP, astore, hn5, upd_eq]
      rw [← heq]
      exact resK.same ⟨vs4, rfl, hL4.upd3 (fun rows e => by rw [hn5] at e; cases e) (by omega) _, hfr5.upd (Nat.le_refl _) _, by omega⟩ (Nat.le_refl _)

def lookL (m : List Actr) (k : Nat) : Lx × Int × Int × Int := allL ⟨m, k, actr m k⟩ 700 (lx0 (actr m k).code.length)
def checkN (m : List Actr) : Nat → Nat → Int × Int × Int
  | 0, _ => (0, 0, 0)
  | j + 1, k => if (lookL m k).2.1 ≠ 0 then (lookL m k).2 else checkN m j (k + 1)
def checkF (m : List Actr) : Int × Int × Int := if rightM m ≠ 0 then (rightM m, 0, 0) else checkN m m.length 0
def fltV (f : Int × Int × Int) : AVal := .agg [.int .i64 f.1, .int .i64 f.2.1, .int .i64 f.2.2]
theorem fltV_nr (f : Int × Int × Int) : NR (fltV f) := .agg _ (by simp; exact ⟨.int _ _, .int _ _, .int _ _⟩)
structure ChI (m : List Actr) (n : Nat) (η : AHeap) (k : Nat) (η' : AHeap) (n' : Nat) : Prop where
  hk : k ≤ m.length
  eq : checkN m (m.length - k) k = checkN m m.length 0
  fr : ∀ y, y < n → η' y = η y
  b1 : η' n = some (.cells 1 [[.rs 5 (actsC m)]])
  b2 : η' (n + 1) = some (.cells 3 [[.int .i64 0, .int .i64 0, .int .i64 0]])
  le : n + 2 ≤ n'
  free : ∀ y, n' ≤ y → η' y = none
theorem check_ac (m : List Actr) (η : AHeap) (n : Nat) (hm : Mod64 m) : AC Try.prog 25 [modV m] η n (Rt (fltV (checkF m)) η n) := by
  refine AC.pure (fltV_nr _) ?_
  refine AC.fresh fun hf => ?_; refine AC.enter Try.func25 rfl Try.ntmps25 (by simp) ?_
  have le2 : ∀ o o', η.le (upd (upd η n o) (n + 1) o') := fun o o' => le_upd (le_upd (AHeap.le_rfl _) (hf n (Nat.le_refl _))) (hf _ (by omega))
  have hmr := fun η n => mright_ac m η n hm
  simp only [modV, actsC] at hmr
  simp [modV, actsC, aload, apart, upd_eq, upd_ne]
  refine ACK.rt (hmr _ _) ?_
  simp
  by_cases h1 : rightM m = 0
  rotate_left
  · have e : checkF m = (rightM m, 0, 0) := by unfold checkF; rw [if_pos h1]
    simp [h1, abuild, aplace, afillP, astore, aload, apart, upd_eq]
    rw [e]
    exact resK.of (η' := η) (by rw [upd_upd]; exact le2 _ _) _ (Nat.le_refl _) ⟨rfl, rfl⟩
  have e : checkF m = checkN m m.length 0 := by unfold checkF; rw [if_neg (by simpa using h1)]
  simp [h1, afield, aload, apart, upd_eq, upd_ne]
  refine loopK.inv [4, 5, 15, 16, 17, 18, 19, 20, 21, 22, 23, 24, 25, 26] (fun a : Nat × AHeap × Nat => ChI m n η a.1 a.2.1 a.2.2) (fun a => [(15, .int .i64 a.1)]) (fun a => a.2.1) (fun a => a.2.2) (fun a => m.length - a.1) (0, upd (upd η n (some (.cells 1 [[.rs 5 (actsC m)]]))) (n + 1) (some (.cells 3 [[.int .i64 0, .int .i64 0, .int .i64 0]])), n + 2) ⟨by simp, rfl, fun y hy => by show upd _ _ _ y = _; rw [upd_ne (by omega), upd_ne (by omega)], by show upd _ _ _ n = _; rw [upd_ne (by omega), upd_eq], upd_eq .., Nat.le_refl _, fun y hy => by
    have hy' : n + 2 ≤ y := hy
    show upd _ _ _ y = _
    rw [upd_ne (by omega), upd_ne (by omega)]; exact hf y (by omega)⟩ (by simp) (by simp [actsC, AHeap.le]) (by simp) ?_
  intro ⟨k, η', n'⟩ hI
  replace hI : ChI m n η k η' n' := hI
  have b1 := hI.b1
  have b2 := hI.b2
  have hn' := hI.le
  have heq := hI.eq
  have hm64 := hm.1
  simp
  refine CondP.dec (fun h2 => ?_) (fun h2 => ?_)
  · have h2' : k < m.length := by omega
    have hc := lcOK_of h1 h2'
    have hbg := fun n => begin_ac m k h2' hc.ownA.c200 η' n
    simp only [modV, actsC] at hbg b1
    simp [h2, aload, apart, b1]
    refine ACK.use (hbg _).freshP ?_
    intro r1 η1 n1 ⟨⟨g, q, vs, e1, hL1, hk1, hn1⟩, hf1⟩
    subst e1
    simp
    refine ACK.use (all_ac hc hL1 (LI0 hc.ownA.c0)).freshP ?_
    intro r2 η2 n2 ⟨⟨vs2, e2, hL2, hfr2, hn2⟩, hf2⟩
    subst e2
    have bg := hL1.bg
    have bq := hL1.bq
    have hk2 : ∀ y, y < n' → η2 y = η' y := fun y hy => by rw [hfr2 y (by omega) (by omega) (by omega), hk1 y hy]
    have hle : η'.le (upd η2 n2 (some (.cells 3 [[.int .i64 (lookL m k).2.1, .int .i64 (lookL m k).2.2.1, .int .i64 (lookL m k).2.2.2]]))) := fun y o hy => by
      have hyn : y < n' := by
        rcases Nat.lt_or_ge y n' with h | h
        · exact h
        · rw [hI.free y h] at hy; cases hy
      rw [upd_ne (by omega), hk2 y hyn]; exact hy
    have hle0 : ∀ o, η.le (upd (upd η2 n2 o) (n + 1) (some (.cells 3 [[.int .i64 (lookL m k).2.1, .int .i64 (lookL m k).2.2.1, .int .i64 (lookL m k).2.2.2]]))) := fun o y ob hy => by
      have hyn : y < n := by
        rcases Nat.lt_or_ge y n with h | h
        · exact h
        · rw [hf y h] at hy; cases hy
      rw [upd_ne (by omega), upd_ne (by omega), hk2 y (by omega), hI.fr y hyn]; exact hy
    have b3 : η2 (n + 1) = some (.cells 3 [[.int .i64 0, .int .i64 0, .int .i64 0]]) := by rw [hk2 _ (by omega)]; exact b2
    have hne : n + 1 ≠ n2 := by omega
    have ej : m.length - k = (m.length - (k + 1)) + 1 := by omega
    rw [ej, checkN] at heq
    have hlk : allL ⟨m, k, actr m k⟩ 700 (lx0 (actr m k).code.length) = lookL m k := rfl
    simp only [hlk]
    simp [astore, upd_eq, upd_upd, afield, aload, apart]
    by_cases h3 : (lookL m k).2.1 = 0
    · rw [if_neg (by simpa using h3)] at heq
      have ew : IntKind.i64.wrap ((k : Int) + 1) = (k : Int) + 1 := wrap_id (by omega) (by omega)
      simp [h3, ew]
      rw [h3] at hle
      exact endK.intro (k + 1, η', n2 + 1) (⟨h2', heq, hI.fr, hI.b1, b2, by omega, fun y hy => hI.free y (by omega)⟩ : ChI m n η (k + 1) η' (n2 + 1)) (by simp) (by repeat (first | exact Agree.mask _ _ | refine Agree.setf rfl ?_ | refine Agree.inner rfl ?_)) hle (Nat.le_refl _) (show m.length - (k + 1) < m.length - k by omega)
    · rw [if_pos h3] at heq
      simp [h3, astore, aload, apart, upd_eq, upd_ne hne, b3]
      rw [e, ← heq]
      exact resK.of (η' := η) (hle0 _) _ (Nat.le_refl _) ⟨rfl, rfl⟩
  · have hkm : k = m.length := by have := hI.hk; omega
    rw [hkm, Nat.sub_self, checkN] at heq
    simp [h2, abuild, aplace, afillP, astore, b2, aload, apart, upd_eq]
    rw [e, ← heq]
    refine resK.of (η' := η) (fun y ob hy => ?_) _ (Nat.le_refl _) ⟨rfl, rfl⟩
    have hyn : y < n := by
      rcases Nat.lt_or_ge y n with h | h
      · exact h
      · rw [hf y h] at hy; cases hy
    show upd _ _ _ y = _
    rw [upd_ne (by omega), hI.fr y hyn]; exact hy
end Go.Proofs.Ytkhoelmbcmkhjaa
