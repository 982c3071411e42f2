/- Layer 6 (check): Index, begin. Layer 6 (check): all places, lowest first. Layer 6 (check): Check. Layer 6, the reference: lists handed back, named, plain. Layer 6, the reference: odd, Behind. Layer 6, the reference: Behind. The reference's arithmetic: callboyref03. ref15: what its helpers compute; messages compared. ref15: takes, Copied, states and effects compared; ref13: messages compared. ref15: a receive. Layer 13 (mail): the mailbox. maps.Keys, slices.Collect, slices.Sorted. Maps whose keys are ints: what is found, put in, struck out. Layer 14 (links): who is linked with whom. Layer 14 (links): New, Linked, Of, join, Link. Layer 14 (links): join, Link. Layer 14 (links): Cut. Layer 14 (links): Fall. -/
import Derived.Test.YtbomkomipaipmaaGreatVf
namespace Go.Proofs.YtbomkomipaipmaaGreat
set_option maxRecDepth 100000

/-- the lowest place of the ones to look at -/
def lowI (td : List Bool) : Int := match td.findIdx? id with
  | some k => k
  | none => -1
theorem low_some {td : List Bool} {k : Nat} (hk : k < td.length) (h1 : td[k] = true) (h2 : ∀ j, j < k → td.getD j false = false) : td.findIdx? id = some k := by
  rw [List.findIdx?_eq_some_iff_getElem]
  refine ⟨hk, h1, fun j hj => ?_⟩
  have := h2 j hj
  have hj' : j < td.length := by omega
  simp [List.getD_eq_getElem?_getD, hj'] at this
  simp [this]
theorem low_none {td : List Bool} (h : ∀ j, j < td.length → td.getD j false = false) : td.findIdx? id = none := by
  rw [List.findIdx?_eq_none_iff]
  intro x hx
  obtain ⟨j, hj, rfl⟩ := List.getElem_of_mem hx
  have := h j hj
  simp [List.getD_eq_getElem?_getD, hj] at this
  simp [this]
theorem eqBB (a b : Bool) : aeqB Tryz.prog 4 (.bool a) (.bool b) = some (a == b) := by cases a <;> cases b <;> kernel_rfl
theorem index_ac {c : Lc} {v : AVal} {hs td : List Bool} {g : Nat} {η : AHeap} {n : Nat} (hg : η g = some (.cells 408 [lookC c v hs td])) (h1 : hs.length = 200) (h2 : td.length = 200) :
    AC Tryz.prog 138 [.arr g 0 208 200 1, .bool true] η n (Rt (.int .i64 (lowI td)) η n) := by
  refine AC.enter Tryz.func138 rfl Tryz.ntmps138 (by simp) ?_
  simp
  refine loopK.inv [4, 5, 8, 9, 10, 11, 12, 13, 14, 15, 16, 17, 18] (fun k : Nat => k ≤ 200 ∧ ∀ j, j < k → td.getD j false = false) (fun k => [(8, .int .i64 k)]) (fun _ => η) (fun _ => n) (fun k => 200 - k) 0 (by simp) (by simp) (by simp) (Nat.le_refl _) ?_
  intro k ⟨k1, k2⟩
  simp
  refine CondP.dec (fun h => ?_) (fun h => ?_)
  · have h' : k < 200 := by omega
    have ht := lookC_todo c v hs td h1 h2 k h'
    have ew : IntKind.i64.wrap ((k : Int) + 1) = (k : Int) + 1 := wrap_id (by omega) (by omega)
    simp [h, aload, apart, hg, aindex, ht]
    cases hb : td.getD k false
    · simp only [List.getD_eq_getElem?_getD] at hb
      simp [hb, ew, eqBB]
      exact endK.intro (k + 1) ⟨by omega, fun j hj => by
        by_cases e : j = k
        · subst e; simpa [List.getD_eq_getElem?_getD] using hb
        · exact k2 j (by omega)⟩ (by simp) (by repeat (first | exact Agree.mask _ _ | refine Agree.setf rfl ?_ | refine Agree.inner rfl ?_)) (AHeap.le_rfl _) (Nat.le_refl _) (show 200 - (k + 1) < 200 - k by omega)
    · simp only [List.getD_eq_getElem?_getD] at hb
      simp [hb, eqBB]
      refine resK.rt ⟨?_, rfl, rfl⟩
      have hk : k < td.length := by omega
      have : td.findIdx? id = some k := low_some hk (by simpa [hk] using hb) k2
      simp [lowI, this]
  · have hk : k = 200 := by omega
    subst hk
    simp
    refine resK.rt ⟨?_, rfl, rfl⟩
    have : td.findIdx? id = none := low_none fun j hj => k2 j (by omega)
    simp [lowI, this]

/-- nothing yet -/
def off : List Bool := List.replicate 200 false
theorem off_len : off.length = 200 := by simp [off]
theorem boxK.intro {o : Option Nat} {cs : List AVal} {z : Nat} {K : List AVal → Nat → Prop} {g : Tag K} (ho : o = some z) (h1 : cs.length = z) (h2 : ∀ x ∈ cs, x.sc = true) (h3 : 0 < z) (hK : K cs z) : boxK o cs K g := by
  subst ho
  refine ⟨?_, hK⟩
  simp [h1, h3]
  exact h2
def lookZ : List AVal := .nils :: .int .i64 0 :: .nils :: .nils :: .nils :: .nils :: .nils :: .nils :: List.replicate 400 (.bool false)
theorem zeroLook : tzero Tryz.prog 231 = some lookZ := by kernel_rfl
theorem buildLook (c : Lc) : abuild Tryz.prog 231 [(0, [.rs 5 (actsC c.m)]), (1, [.int .i64 c.k]), (2, [.rs 1 (ints c.own.params), .rs 1 (ints c.own.regs), .rs 1 (ints c.own.msgs), .rs 2 (pairs c.own.code), .rs 2 (tblsC c.own.tabs)])] = some (.agg (lookC c .nils off off)) := by
  simp [abuild, zeroLook, aplace, afillP, lookZ, lookC, bools, off]
def lx0 (len : Nat) : Lx := ⟨List.replicate len [], off.set 0 true, off.set 0 true⟩
def BeginPost (c : Lc) (η : AHeap) (n : Nat) : AVal → AHeap → Nat → Prop := fun r η' n' => ∃ g q vs, r = .ptr g 0 0 ∧ LkAt c (lx0 c.own.code.length) n g q vs η' ∧ (∀ y, y < n → η' y = η y) ∧ n ≤ n'
theorem begin_ac (m : List Actr) (k : Nat) (hk : k < m.length) (hl : (actr m k).code.length ≤ 200) (η : AHeap) (n : Nat) : AC Tryz.prog 83 [modV m, .int .i64 k] η n (BeginPost ⟨m, k, actr m k⟩ η n) := by
  have ea : actr m (k : Int) = m[k] := by simp [actr, List.getD_eq_getElem?_getD, hk]
  rw [ea] at hl ⊢
  have hb := buildLook ⟨m, k, m[k]⟩
  simp only [actsC] at hb
  have hz := off_len
  have hlen : (lookC ⟨m, k, m[k]⟩ .nils off off).length = 408 := lookC_len _ _ _ _ hz hz
  have hsc : ∀ x ∈ lookC ⟨m, k, m[k]⟩ .nils off off, x.sc = true := by
    intro x hx
    simp [lookC, bools, off] at hx
    rcases hx with rfl | rfl | rfl | rfl | rfl | rfl | rfl | rfl | h <;> first | rfl | (rw [h]; rfl)
  refine AC.fresh fun hf => ?_; refine AC.enter Tryz.func83 rfl Tryz.ntmps83 (by simp) ?_
  simp [modV]
  refine drawK.intro mixed [(0, []), (1, []), (2, []), (3, []), (4, []), (5, []), (6, []), (7, []), (8, []), (9, [])] (by kernel_rfl) ?_
  simp [aload, afield, apart, upd_eq, aindex, actsC, actC, hk, hb]
  refine boxK.intro rfl hlen hsc (by omega) ?_
  simp [aload, afield, apart, upd_eq, makeK]
  refine ⟨by omega, by omega, ?_⟩
  have hrep : List.replicate m[k].code.length [AVal.nils] = (List.replicate m[k].code.length AVal.nils).map fun v => [v] := by simp
  generalize hH : upd (upd (upd η n (some (.cells 1 [[.rs 5 (List.map actC m)]]))) (n + 1) (some (.cells 408 [lookC ⟨m, k, m[k]⟩ .nils off off]))) (n + 1 + 1) (some (.cells 1 (List.replicate m[k].code.length [.nils]))) = H
  have h1 : H (n + 1) = some (.cells 408 [lookC ⟨m, k, m[k]⟩ .nils off off]) := by rw [← hH, upd_ne (by omega), upd_eq]
  have h2 : H (n + 1 + 1) = some (.cells 1 ((List.replicate m[k].code.length AVal.nils).map fun v => [v])) := by rw [← hH, upd_eq, hrep]
  have h3 : ∀ y, y < n → H y = η y := fun y hy => by rw [← hH, upd_ne (by omega), upd_ne (by omega), upd_ne (by omega)]
  have s1 : astore Tryz.prog 199 (.ptr (n + 1) 0 7) (.sl (n + 1 + 1) 0 m[k].code.length) H = some (upd H (n + 1) (some (.cells 408 [lookC ⟨m, k, m[k]⟩ (.sl (n + 1 + 1) 0 m[k].code.length) off off]))) := by
    rw [astore_cell h1 (by simp) rfl rfl (by omega) hlen, lookC_setShapes]
  have s2 : astore Tryz.prog 4 (.ptr (n + 1) 0 8) (.bool true) (upd H (n + 1) (some (.cells 408 [lookC ⟨m, k, m[k]⟩ (.sl (n + 1 + 1) 0 m[k].code.length) off off]))) = some (upd H (n + 1) (some (.cells 408 [lookC ⟨m, k, m[k]⟩ (.sl (n + 1 + 1) 0 m[k].code.length) (off.set 0 true) off]))) := by
    rw [astore_cell (upd_eq ..) (by simp) rfl rfl (by omega) (lookC_len _ _ _ _ hz hz), upd_upd, show (8 : Nat) = 8 + 0 from rfl, lookC_setHas _ _ _ _ hz 0 (by omega)]
  have s3 : astore Tryz.prog 4 (.ptr (n + 1) 0 208) (.bool true) (upd H (n + 1) (some (.cells 408 [lookC ⟨m, k, m[k]⟩ (.sl (n + 1 + 1) 0 m[k].code.length) (off.set 0 true) off]))) = some (upd H (n + 1) (some (.cells 408 [lookC ⟨m, k, m[k]⟩ (.sl (n + 1 + 1) 0 m[k].code.length) (off.set 0 true) (off.set 0 true)]))) := by
    rw [astore_cell (upd_eq ..) (by simp) rfl rfl (by omega) (lookC_len _ _ _ _ (by simp [hz]) hz), upd_upd, show (208 : Nat) = 208 + 0 from rfl, lookC_setTodo _ _ _ _ (by simp [hz]) 0 (by omega)]
  simp [s1]
  refine drawK.intro mixed [(0, []), (1, []), (2, []), (3, []), (4, []), (6, []), (7, []), (5, []), (8, []), (9, [])] (by kernel_rfl) ?_
  simp [afield, aindex, s2, s3]
  refine resK.same ⟨n + 1, n + 1 + 1, List.replicate m[k].code.length .nils, rfl, ?_, fun y hy => by rw [upd_ne (by omega)]; exact h3 y hy, by omega⟩ (Nat.le_refl _)
  refine ⟨?_, ?_, by omega, by omega, by omega, by simp [lx0, hz], by simp [lx0, hz], by simp, by simp [lx0], ?_, ?_, ?_⟩
  · rw [upd_eq, List.length_replicate]; rfl
  · rw [upd_ne (by omega)]; exact h2
  · intro j hj
    have hj' : j < m[k].code.length := by simpa using hj
    refine Or.inl ⟨by simp, ?_⟩
    simp [lx0, List.getD_eq_getElem?_getD, hj']
  · intro i r w hi
    rw [List.getElem?_replicate] at hi
    split at hi <;> cases hi
  · intro i j r a b hi
    rw [List.getElem?_replicate] at hi
    split at hi <;> cases hi

def Lx.off (x : Lx) (p : Nat) : Lx := ⟨x.shapes, x.has, x.todo.set p false⟩
def mu (x : Lx) : Nat := 2 * x.has.count false + x.todo.count true
def allL (c : Lc) : Nat → Lx → Lx × Int × Int × Int
  | 0, x => (x, 0, 0, 0)
  | f + 1, x => match x.todo.findIdx? id with
    | none => (x, 0, 0, 0)
    | some p => if (atL c (x.off p) p).2 ≠ 0 then ((atL c (x.off p) p).1, (atL c (x.off p) p).2, c.k, p) else allL c f (atL c (x.off p) p).1
/-- what is always so of a look -/
structure LI (c : Lc) (x : Lx) : Prop where
  ok : XOK c x
  lh : x.has.length = 200
  lt : x.todo.length = 200
  td : ∀ p, x.todo.getD p false = true → p < c.own.code.length
theorem goesL_mu {c : Lc} (h200 : c.own.code.length ≤ 200) {x : Lx} {to : Nat} {s : List Int} (h1 : x.has.length = 200) (h2 : x.todo.length = 200) : mu (goesL c x to s).1 ≤ mu x ∧ (goesL c x to s).1.has.length = 200 ∧ (goesL c x to s).1.todo.length = 200 := by
  unfold goesL
  split
  · exact ⟨Nat.le_refl _, h1, h2⟩
  · rename_i hto
    split
    · rename_i hb
      have hl : to < x.has.length := by omega
      have hl2 : to < x.todo.length := by omega
      refine ⟨?_, by simp [h1], by simp [h2]⟩
      have hb' : x.has[to] = false := by simpa [List.getD_eq_getElem?_getD, hl] using hb
      have c1 : 0 < x.has.count false := List.count_pos_iff.2 (by rw [← hb']; exact List.getElem_mem ..)
      unfold mu
      simp only [List.count_set hl, List.count_set hl2, hb']
      simp
      split <;> omega
    · split <;> exact ⟨Nat.le_refl _, h1, h2⟩
theorem goesL_td {c : Lc} {x : Lx} {to : Nat} {s : List Int} (h : ∀ p, x.todo.getD p false = true → p < c.own.code.length) : ∀ p, (goesL c x to s).1.todo.getD p false = true → p < c.own.code.length := by
  intro p
  unfold goesL
  split
  · exact h p
  · rename_i hto
    split
    · intro hp
      by_cases e : to = p
      · omega
      · simp [List.getD_eq_getElem?_getD, List.getElem?_set_ne e] at hp
        exact h p (by simpa [List.getD_eq_getElem?_getD] using hp)
    · split <;> exact h p
/-- a way on that keeps what is always so, and does not grow -/
def Goes (c : Lc) (x y : Lx) : Prop := mu y ≤ mu x ∧ LI c y
theorem goesL_goes {c : Lc} (hc : LcOK c) {x : Lx} {to : Nat} {s : List Int} (h : LI c x) (hs : TyOK c.m.length s) (hl : s.length ≤ 16) : Goes c x (goesL c x to s).1 := by
  obtain ⟨a1, a2, a3⟩ := goesL_mu (c := c) (to := to) (s := s) hc.ownA.c200 h.lh h.lt
  exact ⟨a1, goesL_ok h.ok hs hl, a2, a3, goesL_td h.td⟩
theorem Goes.refl {c : Lc} {x : Lx} (h : LI c x) : Goes c x x := ⟨Nat.le_refl _, h⟩
theorem Goes.trans {c : Lc} {x y z : Lx} (h : Goes c x y) (h' : Goes c y z) : Goes c x z := ⟨Nat.le_trans h'.1 h.1, h'.2⟩
theorem recvL_goes {c : Lc} (hc : LcOK c) {tmo : Int} {s : List Int} (hs : TyOK c.m.length s) (hl : s.length ≤ 16) : ∀ (cls : List (Int × Int)) (x : Lx), (∀ cl ∈ cls, 0 ≤ cl.1 ∧ 0 ≤ cl.2) → LI c x → Goes c x (recvL c tmo s cls x).1
  | [], x, _, h => by
    unfold recvL
    split
    · exact Goes.refl h
    · exact goesL_goes hc h hs hl
  | cl :: r, x, hcl, h => by
    unfold recvL
    split
    · exact Goes.refl h
    · split
      · exact Goes.refl h
      · rename_i h1 h2
        have hm : TyOK c.m.length c.own.msgs := hc.ownA.ty.sub fun x hx => by simp [hx]
        have h0 := (hcl cl (by simp)).1
        have hg := goesL_goes hc (to := cl.2.toNat) h (hs.app (TyOK.one (hm.getD (k := cl.1.toNat) (by omega)))) (by simp; omega)
        split
        · exact hg.trans (recvL_goes hc hs hl r _ (fun q hq => hcl q (by simp [hq])) hg.2)
        · exact hg
theorem atL_goes {c : Lc} (hc : LcOK c) {x : Lx} {p : Nat} (hp : p < c.own.code.length) (h : LI c x) : Goes c x (atL c x p).1 := by
  have hi : rightI (c.own.code.getD p (0, 0)) = true := by
    have : c.own.code.getD p (0, 0) = c.own.code[p] := by simp [List.getD_eq_getElem?_getD, hp]
    rw [this]; exact hc.ownA.code _ (List.getElem_mem ..)
  have hs := h.ok p
  unfold atL
  simp only
  generalize c.own.code.getD p (0, 0) = i at *
  by_cases h0 : (behL c i (x.shapes.getD p [])).2 ≠ 0
  · rw [if_pos h0]; exact Goes.refl h
  rw [if_neg h0]
  obtain ⟨b1, b2, b3⟩ := behL_ok hc hi hs.1 hs.2 (by simpa using h0)
  generalize (behL c i (x.shapes.getD p [])).1 = out at *
  split
  · exact Goes.refl h
  split
  · exact goesL_goes hc h b1 b2
  split
  · rename_i h21
    have hA : i.2 < c.own.tabs.length := by simpa [namesL, h21] using b3
    have hb := rightI_bd hi
    have e : tbl c.own i.2 ∈ c.own.tabs := by
      unfold tbl
      have : i.2.toNat < c.own.tabs.length := by omega
      rw [List.getD_eq_getElem?_getD, List.getElem?_eq_getElem this]; exact List.getElem_mem ..
    exact recvL_goes hc b1 b2 _ _ (hc.ownA.tabs _ e).2.1 h
  split
  · split
    · exact (goesL_goes hc h b1 b2).trans (goesL_goes hc (goesL_goes hc h b1 b2).2 b1 b2)
    · exact goesL_goes hc h b1 b2
  · exact goesL_goes hc h b1 b2
theorem off_goes {c : Lc} {x : Lx} {p : Nat} (h : LI c x) (hp : x.todo.findIdx? id = some p) : mu (x.off p) < mu x ∧ LI c (x.off p) ∧ p < c.own.code.length := by
  rw [List.findIdx?_eq_some_iff_getElem] at hp
  obtain ⟨hl, h1, _⟩ := hp
  have h1' : x.todo[p] = true := by simpa using h1
  have hd : x.todo.getD p false = true := by simpa [List.getD_eq_getElem?_getD, hl] using h1'
  refine ⟨?_, ⟨h.ok, h.lh, by simp [Lx.off, h.lt], fun q hq => ?_⟩, h.td p hd⟩
  · have c1 : 0 < x.todo.count true := List.count_pos_iff.2 (by rw [← h1']; exact List.getElem_mem ..)
    unfold mu Lx.off
    simp only [List.count_set hl, h1']
    simp; omega
  · by_cases e : p = q
    · subst e; simp [Lx.off, List.getD_eq_getElem?_getD, hl] at hq
    · simp [Lx.off, List.getD_eq_getElem?_getD, List.getElem?_set_ne e] at hq
      exact h.td q (by simpa [List.getD_eq_getElem?_getD] using hq)
theorem LI0 {c : Lc} (h : 0 < c.own.code.length) : LI c (lx0 c.own.code.length) := by
  refine ⟨fun k => ?_, by simp [lx0, off_len], by simp [lx0, off_len], fun p hp => ?_⟩
  · have : (lx0 c.own.code.length).shapes.getD k [] = [] := by
      simp [lx0, List.getD_eq_getElem?_getD, List.getElem?_replicate]; split <;> rfl
    rw [this]; exact ⟨TyOK.nil _, by simp⟩
  · by_cases e : 0 = p
    · omega
    · simp only [lx0, List.getD_eq_getElem?_getD, List.getElem?_set_ne e, off, List.getElem?_replicate] at hp
      split at hp <;> simp at hp
theorem mu_le {c : Lc} {x : Lx} (h : LI c x) : mu x ≤ 600 := by
  have h1 := List.count_le_length (a := false) (l := x.has)
  have h2 := List.count_le_length (a := true) (l := x.todo)
  have := h.lh; have := h.lt
  unfold mu; omega
theorem LkAt.upd3 {c : Lc} {x : Lx} {B g q r : Nat} {vs : List AVal} {η : AHeap} (h : LkAt c x B g q vs η) (hr : ∀ rows, η r ≠ some (.cells 1 rows)) (hg : r ≠ g) (o : Option AObj) : LkAt c x B g q vs (Go.Proofs.YtbomkomipaipmaaGreat.upd η r o) := by
  have hq : r ≠ q := fun e => hr _ (by rw [e]; exact h.hq)
  exact ⟨by rw [upd_ne hg.symm]; exact h.hg, by rw [upd_ne hq.symm]; exact h.hq, h.gq, h.bg, h.bq, h.lh, h.lt, h.lv, h.ls, fun k hk => by
    rcases h.rows k hk with g1 | ⟨r', g1, g2, g3, g4⟩
    · exact Or.inl g1
    · exact Or.inr ⟨r', g1, by rw [upd_ne (fun e => hr _ (by rw [← e]; exact g2))]; exact g2, g3, g4⟩, h.big, h.apt⟩
theorem LkAt.offAt {c : Lc} {x : Lx} {B g q : Nat} {vs : List AVal} {η : AHeap} (h : LkAt c x B g q vs η) (p : Nat) : LkAt c (x.off p) B g q vs (Go.Proofs.YtbomkomipaipmaaGreat.upd η g (some (.cells 408 [lookC c (.sl q 0 vs.length) x.has (x.todo.set p false)]))) :=
  ⟨upd_eq .., by rw [upd_ne h.gq.symm]; exact h.hq, h.gq, h.bg, h.bq, h.lh, by simp [Lx.off, h.lt], h.lv, h.ls, fun k hk => by
    rcases h.rows k hk with g1 | ⟨r', g1, g2, g3, g4⟩
    · exact Or.inl g1
    · exact Or.inr ⟨r', g1, by rw [upd_ne g3]; exact g2, g3, g4⟩, h.big, h.apt⟩
def AllPost (c : Lc) (R : Lx × Int × Int × Int) (B g q n : Nat) (η : AHeap) : AVal → AHeap → Nat → Prop := fun r η' n' => ∃ vs, r = .agg [.int .i64 R.2.1, .int .i64 R.2.2.1, .int .i64 R.2.2.2] ∧ LkAt c R.1 B g q vs η' ∧ FrG n g q η η' ∧ n ≤ n'
structure AlI (c : Lc) (R : Lx × Int × Int × Int) (B g q n0 : Nat) (η0 : AHeap) (f : Nat) (x : Lx) (vs : List AVal) (η' : AHeap) (n' : Nat) : Prop where
  eq : allL c f x = R
  mu : mu x < f
  li : LI c x
  lk : LkAt c x B g q vs η'
  fr : FrG n0 g q η0 η'
  le : n0 ≤ n'
  free : ∀ y, n' ≤ y → η' y = none
theorem all_ac {c : Lc} {x : Lx} {B g q : Nat} {vs : List AVal} {η : AHeap} {n : Nat} (hc : LcOK c) (hL : LkAt c x B g q vs η) (hx : LI c x) : AC Tryz.prog 84 [.ptr g 0 0] η n (AllPost c (allL c 700 x) B g q n η) := by
  refine AC.fresh fun hf => ?_; refine AC.enter Tryz.func84 rfl Tryz.ntmps84 (by simp) ?_
  have hlt := hL.lt' hf
  have hL1 : ∀ o, LkAt c x B g q vs (upd η n o) := fun o => hL.upd hf (Nat.le_refl _) o
  have k0 : ∀ o, FrG n g q η (upd η n o) := fun o => (FrG.refl n g q η).upd (Nat.le_refl _) o
  have hf0 : ∀ o y, n + 1 ≤ y → upd η n o y = none := fun o y hy => by rw [upd_ne (by omega)]; exact hf y (by omega)
  simp
  refine loopK.inv [3, 4, 5, 6, 7, 8, 9, 10, 11, 12, 13, 14, 15, 16, 17, 18, 19, 20, 21, 22, 23, 24, 25, 26, 27, 28, 29] (fun a : Nat × Lx × List AVal × AHeap × Nat => AlI c (allL c 700 x) B g q (n + 1) (upd η n (some (.cells 3 [[.int .i64 0, .int .i64 0, .int .i64 0]]))) a.1 a.2.1 a.2.2.1 a.2.2.2.1 a.2.2.2.2) (fun a => []) (fun a => a.2.2.2.1) (fun a => a.2.2.2.2) (fun a => a.1) (700, x, vs, upd η n (some (.cells 3 [[.int .i64 0, .int .i64 0, .int .i64 0]])), n + 1) ⟨rfl, by have := mu_le hx; show Go.Proofs.YtbomkomipaipmaaGreat.mu x < 700; omega, hx, hL1 _, FrG.refl _ _ _ _, Nat.le_refl _, hf0 _⟩ (by simp) (AHeap.le_rfl _) (Nat.le_refl _) ?_
  intro ⟨f, x', vs', η', n'⟩ hI
  replace hI : AlI c (allL c 700 x) B g q (n + 1) (upd η n (some (.cells 3 [[.int .i64 0, .int .i64 0, .int .i64 0]]))) f x' vs' η' n' := hI
  have hg := hI.lk.hg
  have hn' := hI.le
  have hfr : FrG n g q η η' := (k0 _).trans hI.fr (by omega)
  have hn : η' n = some (.cells 3 [[.int .i64 0, .int .i64 0, .int .i64 0]]) := by rw [hI.fr n (by omega) (by omega) (by omega), upd_eq]
  obtain ⟨f', rfl⟩ : ∃ f', f = f' + 1 := ⟨f - 1, by have := hI.mu; omega⟩
  have heq := hI.eq
  rw [allL] at heq
  simp [afield, asliceV, abnd, hg]
  refine ACK.rt (index_ac hg hI.li.lh hI.li.lt) ?_
  cases ht : x'.todo.findIdx? id with
  | none =>
    simp only [ht] at heq
    have el : lowI x'.todo = -1 := by simp only [lowI, ht]
    simp [el, abuild, aplace, afillP, astore, hn, aload, apart, upd_eq]
    rw [← heq]
    exact resK.same ⟨vs', rfl, hI.lk.upd3 (fun rows e => by rw [hn] at e; cases e) (by omega) _, hfr.upd (Nat.le_refl _) _, by omega⟩ (Nat.le_refl _)
  | some p =>
    simp only [ht] at heq
    have el : lowI x'.todo = (p : Int) := by simp only [lowI, ht]
    obtain ⟨o1, o2, o3⟩ := off_goes hI.li ht
    have h200 := hc.ownA.c200
    have p0 : ¬ ((p : Int) < 0) := by omega
    have p2 : (p : Int) < 200 := by omega
    have s1 : astore Tryz.prog 4 (.ptr g 0 (208 + p)) (.bool false) η' = some (Go.Proofs.YtbomkomipaipmaaGreat.upd η' g (some (.cells 408 [lookC c (.sl q 0 vs'.length) x'.has (x'.todo.set p false)]))) := by
      rw [astore_cell hg (by simp) rfl rfl (by omega) (lookC_len _ _ _ _ hI.li.lh hI.li.lt), lookC_setTodo _ _ _ _ hI.li.lh _ (by omega)]
    have hlt' := hI.lk.lt' hI.free
    have hf1 : ∀ o y, n' ≤ y → Go.Proofs.YtbomkomipaipmaaGreat.upd η' g o y = none := fun o y hy => by rw [upd_ne (by omega)]; exact hI.free y hy
    simp [el, afield, aindex, p0, p2, s1]
    refine ACK.use (lat_ac p hc (hI.lk.offAt p) o3 o2.ok).freshP ?_
    intro r4 η4 n4 ⟨⟨vs4, e4, hL4, hfr4, hn4⟩, hf4⟩
    subst e4
    have hg2 := atL_goes hc o3 o2
    have fr4 : FrG (n + 1) g q (Go.Proofs.YtbomkomipaipmaaGreat.upd η n (some (.cells 3 [[.int .i64 0, .int .i64 0, .int .i64 0]]))) η4 := fun y h1 h2 h3 => by rw [hfr4 y (by omega) h2 h3, upd_ne h2]; exact hI.fr y h1 h2 h3
    have hfr5 : FrG n g q η η4 := fun y h1 h2 h3 => by rw [hfr4 y (by omega) h2 h3, upd_ne h2]; exact hfr y h1 h2 h3
    have hn5 : η4 n = some (.cells 3 [[.int .i64 0, .int .i64 0, .int .i64 0]]) := by rw [fr4 n (by omega) (by omega) (by omega), upd_eq]
    by_cases h5 : (atL c (x'.off p) p).2 = 0
    · rw [if_neg (by simpa using h5)] at heq
      simp [h5]
      exact endK.intro (f', (atL c (x'.off p) p).1, vs4, η4, n4) (⟨heq, by have := hI.mu; have := hg2.1; show Go.Proofs.YtbomkomipaipmaaGreat.mu (atL c (x'.off p) p).1 < f'; omega, hg2.2, hL4, fr4, by show n + 1 ≤ n4; omega, hf4⟩ : AlI c (allL c 700 x) B g q (n + 1) (Go.Proofs.YtbomkomipaipmaaGreat.upd η n (some (.cells 3 [[.int .i64 0, .int .i64 0, .int .i64 0]]))) f' (atL c (x'.off p) p).1 vs4 η4 n4) (by simp) (by repeat (first | exact Agree.mask _ _ | refine Agree.setf rfl ?_ | refine Agree.inner rfl ?_)) (AHeap.le_rfl _) (Nat.le_refl _) (show f' < f' + 1 by omega)
    · rw [if_pos h5] at heq
      simp [h5, afield, aload, apart, hL4.hg, abuild, aplace, afillP, astore, hn5, upd_eq]
      rw [← heq]
      exact resK.same ⟨vs4, rfl, hL4.upd3 (fun rows e => by rw [hn5] at e; cases e) (by omega) _, hfr5.upd (Nat.le_refl _) _, by omega⟩ (Nat.le_refl _)

def lookL (m : List Actr) (k : Nat) : Lx × Int × Int × Int := allL ⟨m, k, actr m k⟩ 700 (lx0 (actr m k).code.length)
def checkN (m : List Actr) : Nat → Nat → Int × Int × Int
  | 0, _ => (0, 0, 0)
  | j + 1, k => if (lookL m k).2.1 ≠ 0 then (lookL m k).2 else checkN m j (k + 1)
def checkF (m : List Actr) : Int × Int × Int := if rightM m ≠ 0 then (rightM m, 0, 0) else checkN m m.length 0
def fltV (f : Int × Int × Int) : AVal := .agg [.int .i64 f.1, .int .i64 f.2.1, .int .i64 f.2.2]
theorem fltV_nr (f : Int × Int × Int) : NR (fltV f) := .agg _ (by simp; exact ⟨.int _ _, .int _ _, .int _ _⟩)
structure ChI (m : List Actr) (n : Nat) (η : AHeap) (k : Nat) (η' : AHeap) (n' : Nat) : Prop where
  hk : k ≤ m.length
  eq : checkN m (m.length - k) k = checkN m m.length 0
  fr : ∀ y, y < n → η' y = η y
  b1 : η' n = some (.cells 1 [[.rs 5 (actsC m)]])
  b2 : η' (n + 1) = some (.cells 3 [[.int .i64 0, .int .i64 0, .int .i64 0]])
  le : n + 2 ≤ n'
  free : ∀ y, n' ≤ y → η' y = none
theorem check_ac (m : List Actr) (η : AHeap) (n : Nat) (hm : Mod64 m) : AC Tryz.prog 39 [modV m] η n (Rt (fltV (checkF m)) η n) := by
  refine AC.pure (fltV_nr _) ?_
  refine AC.fresh fun hf => ?_; refine AC.enter Tryz.func39 rfl Tryz.ntmps39 (by simp) ?_
  have le2 : ∀ o o', η.le (upd (upd η n o) (n + 1) o') := fun o o' => le_upd (le_upd (AHeap.le_rfl _) (hf n (Nat.le_refl _))) (hf _ (by omega))
  have hmr := fun η n => mright_ac m η n hm
  simp only [modV, actsC] at hmr
  simp [modV, actsC, aload, apart, upd_eq, upd_ne]
  refine ACK.rt (hmr _ _) ?_
  simp
  by_cases h1 : rightM m = 0
  rotate_left
  · have e : checkF m = (rightM m, 0, 0) := by unfold checkF; rw [if_pos h1]
    simp [h1, abuild, aplace, afillP, astore, aload, apart, upd_eq]
    rw [e]
    exact resK.of (η' := η) (by rw [upd_upd]; exact le2 _ _) _ (Nat.le_refl _) ⟨rfl, rfl⟩
  have e : checkF m = checkN m m.length 0 := by unfold checkF; rw [if_neg (by simpa using h1)]
  simp [h1, afield, aload, apart, upd_eq, upd_ne]
  refine loopK.inv [4, 5, 15, 16, 17, 18, 19, 20, 21, 22, 23, 24, 25, 26] (fun a : Nat × AHeap × Nat => ChI m n η a.1 a.2.1 a.2.2) (fun a => [(15, .int .i64 a.1)]) (fun a => a.2.1) (fun a => a.2.2) (fun a => m.length - a.1) (0, upd (upd η n (some (.cells 1 [[.rs 5 (actsC m)]]))) (n + 1) (some (.cells 3 [[.int .i64 0, .int .i64 0, .int .i64 0]])), n + 2) ⟨by simp, rfl, fun y hy => by show upd _ _ _ y = _; rw [upd_ne (by omega), upd_ne (by omega)], by show upd _ _ _ n = _; rw [upd_ne (by omega), upd_eq], upd_eq .., Nat.le_refl _, fun y hy => by
    have hy' : n + 2 ≤ y := hy
    show upd _ _ _ y = _
    rw [upd_ne (by omega), upd_ne (by omega)]; exact hf y (by omega)⟩ (by simp) (by simp [actsC, AHeap.le]) (by simp) ?_
  intro ⟨k, η', n'⟩ hI
  replace hI : ChI m n η k η' n' := hI
  have b1 := hI.b1
  have b2 := hI.b2
  have hn' := hI.le
  have heq := hI.eq
  have hm64 := hm.1
  simp
  refine CondP.dec (fun h2 => ?_) (fun h2 => ?_)
  · have h2' : k < m.length := by omega
    have hc := lcOK_of h1 h2'
    have hbg := fun n => begin_ac m k h2' hc.ownA.c200 η' n
    simp only [modV, actsC] at hbg b1
    simp [h2, aload, apart, b1]
    refine ACK.use (hbg _).freshP ?_
    intro r1 η1 n1 ⟨⟨g, q, vs, e1, hL1, hk1, hn1⟩, hf1⟩
    subst e1
    simp
    refine ACK.use (all_ac hc hL1 (LI0 hc.ownA.c0)).freshP ?_
    intro r2 η2 n2 ⟨⟨vs2, e2, hL2, hfr2, hn2⟩, hf2⟩
    subst e2
    have bg := hL1.bg
    have bq := hL1.bq
    have hk2 : ∀ y, y < n' → η2 y = η' y := fun y hy => by rw [hfr2 y (by omega) (by omega) (by omega), hk1 y hy]
    have hle : η'.le (upd η2 n2 (some (.cells 3 [[.int .i64 (lookL m k).2.1, .int .i64 (lookL m k).2.2.1, .int .i64 (lookL m k).2.2.2]]))) := fun y o hy => by
      have hyn : y < n' := by
        rcases Nat.lt_or_ge y n' with h | h
        · exact h
        · rw [hI.free y h] at hy; cases hy
      rw [upd_ne (by omega), hk2 y hyn]; exact hy
    have hle0 : ∀ o, η.le (upd (upd η2 n2 o) (n + 1) (some (.cells 3 [[.int .i64 (lookL m k).2.1, .int .i64 (lookL m k).2.2.1, .int .i64 (lookL m k).2.2.2]]))) := fun o y ob hy => by
      have hyn : y < n := by
        rcases Nat.lt_or_ge y n with h | h
        · exact h
        · rw [hf y h] at hy; cases hy
      rw [upd_ne (by omega), upd_ne (by omega), hk2 y (by omega), hI.fr y hyn]; exact hy
    have b3 : η2 (n + 1) = some (.cells 3 [[.int .i64 0, .int .i64 0, .int .i64 0]]) := by rw [hk2 _ (by omega)]; exact b2
    have hne : n + 1 ≠ n2 := by omega
    have ej : m.length - k = (m.length - (k + 1)) + 1 := by omega
    rw [ej, checkN] at heq
    have hlk : allL ⟨m, k, actr m k⟩ 700 (lx0 (actr m k).code.length) = lookL m k := rfl
    simp only [hlk]
    simp [astore, upd_eq, upd_upd, afield, aload, apart]
    by_cases h3 : (lookL m k).2.1 = 0
    · rw [if_neg (by simpa using h3)] at heq
      have ew : IntKind.i64.wrap ((k : Int) + 1) = (k : Int) + 1 := wrap_id (by omega) (by omega)
      simp [h3, ew]
      rw [h3] at hle
      exact endK.intro (k + 1, η', n2 + 1) (⟨h2', heq, hI.fr, hI.b1, b2, by omega, fun y hy => hI.free y (by omega)⟩ : ChI m n η (k + 1) η' (n2 + 1)) (by simp) (by repeat (first | exact Agree.mask _ _ | refine Agree.setf rfl ?_ | refine Agree.inner rfl ?_)) hle (Nat.le_refl _) (show m.length - (k + 1) < m.length - k by omega)
    · rw [if_pos h3] at heq
      simp [h3, astore, aload, apart, upd_eq, upd_ne hne, b3]
      rw [e, ← heq]
      exact resK.of (η' := η) (hle0 _) _ (Nat.le_refl _) ⟨rfl, rfl⟩
  · have hkm : k = m.length := by have := hI.hk; omega
    rw [hkm, Nat.sub_self, checkN] at heq
    simp [h2, abuild, aplace, afillP, astore, b2, aload, apart, upd_eq]
    rw [e, ← heq]
    refine resK.of (η' := η) (fun y ob hy => ?_) _ (Nat.le_refl _) ⟨rfl, rfl⟩
    have hyn : y < n := by
      rcases Nat.lt_or_ge y n with h | h
      · exact h
      · rw [hf y h] at hy; cases hy
    show upd _ _ _ y = _
    rw [upd_ne (by omega), hI.fr y hyn]; exact hy
end Go.Proofs.YtbomkomipaipmaaGreat
namespace Go.Proofs.YtbomkomipaipmaaGreat
set_option maxRecDepth 100000

/-- a list that is only read, or that was made -/
def FL (n : Nat) (η : AHeap) (u : AVal) (l : List Int) : Prop := u = .rs 1 (ints l) ∨ (u = .nils ∧ l = []) ∨ ∃ r o I J, n ≤ r ∧ u = .sl r o l.length ∧ o = I.length ∧ η r = some (.cells 1 (ints (I ++ (l ++ J))))
theorem FL.gnd {n : Nat} {η : AHeap} {u : AVal} {l : List Int} (h : FL n η u l) (hl : l.length ≤ lenMax) (fu : Nat) : Ent (gnd n η (fu + 1) u) (.rs 1 (ints l)) := by
  rcases h with rfl | ⟨rfl, rfl⟩ | ⟨r, o, I, J, h0, rfl, ho, hr⟩
  · rw [gnd_rs]; exact Ent.refl _
  · rw [gnd_nils]; exact Ent.nils 1
  · rw [gnd_new h0 hr (by rw [ints_length]; simp; omega) hl, ho, take_ints, ints_gnd]; exact Ent.refl _
theorem FL.own {n r : Nat} {η : AHeap} {l : List Int} {k : Nat} (h0 : n ≤ r) (hk : k = l.length) (h : η r = some (.cells 1 (ints l))) : FL n η (.sl r 0 k) l := Or.inr (Or.inr ⟨r, 0, [], [], h0, by rw [hk], rfl, by simpa using h⟩)
theorem FL.isL {n : Nat} {η : AHeap} {u : AVal} {l : List Int} (h : FL n η u l) : IsL η u l := by
  rcases h with h | h | ⟨r, o, I, J, _, h1, h2, h3⟩
  · exact Or.inl h
  · exact Or.inr (Or.inl h)
  · exact Or.inr (Or.inr ⟨r, o, I, J, h1, h2, h3⟩)
theorem Ent.tup {cs ds : List AVal} (h : EntL cs ds) : Ent (.tup cs) (.tup ds) := fun own M v hv => by
  cases hv with
  | tup _ A hA hc =>
  exact .tup _ A (by rw [hA, h.len]) fun i d hd => by
    obtain ⟨c, h1, h2⟩ := h.get i d hd
    exact h2 _ _ _ (hc i c h1)
theorem ints_nq (η : AHeap) (l : List Int) : NQ η (.rs 1 (ints l)) := (IsL.nq (η := η) (Or.inl rfl) : NQ η (.rs 1 (ints l)))
theorem AC.gnd1 {P : Program} {f : FuncId} {args : List AVal} {η : AHeap} {n : Nat} {v' : AVal} (hv : NQ η v') (fu : Nat) (h : AC P f args η n fun v η' _ => (∀ r, r < n → η' r = η r) ∧ Ent (gnd n η' fu v) v') : AC P f args η n (Rt v' η n) :=
  (AC.ground (R := fun v => v = v') fu (h.mono fun _ _ _ ⟨h1, h2⟩ => ⟨h1, v', h2, rfl⟩) fun _ hv' => hv' ▸ hv).mono fun _ _ _ h => h
/-- a list -/
theorem AC.gl {P : Program} {f : FuncId} {args : List AVal} {η : AHeap} {n : Nat} {l : List Int} (hl : l.length ≤ lenMax) (h : AC P f args η n fun v η' _ => FL n η' v l ∧ ∀ r, r < n → η' r = η r) : AC P f args η n (Rt (.rs 1 (ints l)) η n) :=
  AC.gnd1 (ints_nq η l) 1 (h.mono fun _ _ _ ⟨h1, h2⟩ => ⟨h2, h1.gnd hl 0⟩)
end Go.Proofs.YtbomkomipaipmaaGreat
namespace Go.Proofs.YtbomkomipaipmaaGreat
open Go.RowKit (wrap64)
set_option maxRecDepth 100000

end Go.Proofs.YtbomkomipaipmaaGreat
namespace Go.Proofs.YtbomkomipaipmaaGreat
set_option maxRecDepth 100000

def isOne (op : Int) : Prop := op = 5 ∨ op = 13 ∨ op = 17 ∨ op = 22 ∨ op = 23 ∨ op = 24 ∨ op = 25 ∨ op = 26
instance (op : Int) : Decidable (isOne op) := by unfold isOne; infer_instance
def isBin (op : Int) : Prop := (6 ≤ op ∧ op ≤ 12) ∨ op = 14 ∨ op = 15 ∨ op = 20
instance (op : Int) : Decidable (isBin op) := by unfold isBin; infer_instance
end Go.Proofs.YtbomkomipaipmaaGreat
namespace Go.Proofs.YtbomkomipaipmaaGreat
set_option maxRecDepth 100000

end Go.Proofs.YtbomkomipaipmaaGreat
namespace Go.Proofs.YtbomkomipaipmaaGreat
set_option maxRecDepth 100000

theorem FL.nil' (n : Nat) (η : AHeap) : FL n η .nils [] := Or.inr (Or.inl ⟨rfl, rfl⟩)
end Go.Proofs.YtbomkomipaipmaaGreat
namespace Go.Proofs.YtbomkomipaipmaaGreat
set_option maxRecDepth 100000

theorem AC.entR {P : Program} {f : FuncId} {args : List AVal} {η : AHeap} {n : Nat} {K K' : AVal → AHeap → Nat → Prop} (h : AC P f args η n K') (hk : ∀ v η' n', K' v η' n' → ∃ v', Ent v v' ∧ K v' η' n') : AC P f args η n K := by
  intro own M w vals h1 h2 h3
  refine (h own M w vals h1 h2 h3).mono ?_
  rintro e w' ⟨u, rfl, v, η', n', own', M', hK, a1, a2, a3, a4⟩
  obtain ⟨v', k1, k2⟩ := hk _ _ _ hK
  exact ⟨u, rfl, v', η', n', own', M', k2, a1, a2, k1 _ _ _ a3, a4⟩
theorem Ent.room {r o n : Nat} : Ent (.sl r o n) (.slc r o n n) := fun own M u h => by
  cases h with
  | sl _ _ _ p a cap hr hn hm hc => exact .slc r o n n p a cap hr (Nat.le_refl _) hn hm hc
theorem Ent.unroom {r o n c : Nat} : Ent (.slc r o n c) (.sl r o n) := fun own M u h => by
  cases h with
  | slc _ _ _ _ p a cap hr hn hcc hm hc => exact .sl r o n p a cap hr (by omega) hm hc

/-- a list of messages in a row of one's own (what lies behind does not matter) -/
def MsgsAt (η : AHeap) (v : AVal) (l : List (Int × Int)) (q : Nat) : Prop := (v = .nils ∧ l = []) ∨ ∃ J, v = .sl q 0 l.length ∧ η q = some (.cells 2 (pairs l ++ J))
theorem MsgsAt.len {η : AHeap} {v : AVal} {l : List (Int × Int)} {q : Nat} (h : MsgsAt η v l q) (η' : AHeap) : alenT Tryz.prog 54 v η' = some (l.length : Int) := by
  rcases h with ⟨rfl, rfl⟩ | ⟨J, rfl, _⟩ <;> simp
theorem MsgsAt.sc {η : AHeap} {v : AVal} {l : List (Int × Int)} {q : Nat} (h : MsgsAt η v l q) : v.sc = true ∧ acells v = [v] := by
  rcases h with ⟨rfl, _⟩ | ⟨J, rfl, _⟩ <;> exact ⟨rfl, rfl⟩
/-- a mailbox -/
def BoxAt (η : AHeap) (b : Nat) (l : List (Int × Int)) (q : Nat) : Prop := ∃ v, η b = some (.cells 1 [[v]]) ∧ MsgsAt η v l q

theorem mnew_ac (η : AHeap) (n : Nat) : AC Tryz.prog 92 [] η n (fun v η' n' => v = .ptr n 0 0 ∧ η' = upd η n (some (.cells 1 [[.nils]])) ∧ n' = n + 1) := by
  refine AC.enter Tryz.func92 rfl Tryz.ntmps92 (by simp) ?_
  simp [abuild, aplace, afillP]
  exact resK.rt ⟨rfl, rfl, rfl⟩
theorem mlen_ac {η : AHeap} {n b q : Nat} {l : List (Int × Int)} (h : BoxAt η b l q) : AC Tryz.prog 158 [.ptr b 0 0] η n (Rt (.int .i64 l.length) η n) := by
  obtain ⟨v, h1, h2⟩ := h
  have h3 := h2.len
  refine AC.pure (.int _ _) ?_
  refine AC.enter Tryz.func158 rfl Tryz.ntmps158 (by simp) ?_
  simp [aload, afield, apart, h1, h3]
  exact resK.rt ⟨rfl, rfl⟩
theorem msgsAt_get {η : AHeap} {v : AVal} {l : List (Int × Int)} {q : Nat} (h : MsgsAt η v l q) {i : Nat} (hi : i < l.length) : ∃ row, aindex Tryz.prog 54 v (.int .i64 i) η = some (.ptr q i 0) ∧ row = [AVal.int .i64 l[i].1, .int .i64 l[i].2] ∧ ∃ J, η q = some (.cells 2 (pairs l ++ J)) ∧ (pairs l ++ J)[i]? = some row := by
  rcases h with ⟨rfl, rfl⟩ | ⟨J, rfl, h⟩
  · simp at hi
  · refine ⟨_, ?_, rfl, J, h, ?_⟩
    · simp [aindex, h, hi]
    · rw [List.getElem?_append_left (by simpa using hi), pairs_get, List.getElem?_eq_getElem hi]; rfl
set_option maxHeartbeats 2000000 in
theorem mat_ac {η : AHeap} {n b q : Nat} {l : List (Int × Int)} (h : BoxAt η b l q) (i : Nat) (hi : i < l.length) (h64 : l.length ≤ 17592186044416) : AC Tryz.prog 101 [.ptr b 0 0, .int .i64 i] η n (Rt (.tup [.agg [.int .i64 l[i].1, .int .i64 l[i].2], .bool true]) η n) := by
  have hlen := fun (η' : AHeap) n (hle : η.le η') => mlen_ac (η := η') (n := n) (b := b) (q := q) (l := l) (by
    obtain ⟨v, h1, h2⟩ := h
    refine ⟨v, hle _ _ h1, ?_⟩
    rcases h2 with ⟨e1, e2⟩ | ⟨J, e1, e2⟩
    · exact Or.inl ⟨e1, e2⟩
    · exact Or.inr ⟨J, e1, hle _ _ e2⟩)
  obtain ⟨v, h1, h2⟩ := h
  obtain ⟨row, g1, g2, J, g3, g4⟩ := msgsAt_get h2 hi
  subst g2
  refine AC.pure (.tup _ (by simp; exact ⟨.agg _ (by simp; exact ⟨.int _ _, .int _ _⟩), .bool _⟩)) ?_
  refine AC.fresh fun hf => ?_; refine AC.enter Tryz.func101 rfl Tryz.ntmps101 (by simp) ?_
  have hle : η.le (upd η n (some (.cells 2 [[.int .i64 0, .int .i64 0]]))) := le_upd (AHeap.le_rfl _) (hf n (Nat.le_refl _))
  have hb : ¬ b = n := fun e => by have := hf n (Nat.le_refl _); rw [← e, h1] at this; cases this
  have hq : ¬ q = n := fun e => by have := hf n (Nat.le_refl _); rw [← e, g3] at this; cases this
  have n0 : ¬ ((i : Int) < 0) := by omega
  have n1 : ¬ ((l.length : Int) ≤ i) := by omega
  have g1' : ∀ η' : AHeap, η.le η' → aindex Tryz.prog 54 v (.int .i64 i) η' = some (.ptr q i 0) := fun η' hl => by
    rcases h2 with ⟨rfl, rfl⟩ | ⟨J', rfl, h⟩
    · simp at hi
    · simp [aindex, hl _ _ h, hi]
  have g5 := g1' _ hle
  simp [n0]
  refine ACK.rt (hlen _ _ hle) ?_
  simp [n1, aload, afield, apart, upd_apply, hb, h1, g5, hq, g3, g4, astore, upd_upd]
  exact resK.of (η' := η) (le_upd (AHeap.le_rfl _) (hf n (Nat.le_refl _))) _ (Nat.le_refl _) ⟨rfl, rfl⟩
/-- a message as a value -/
def msgV (m : Int × Int) : AVal := .agg [.int .i64 m.1, .int .i64 m.2]
def msgRow (x : (Int × Int) × Nat) : List AVal := [.int .i64 (x.2 : Int), msgV x.1]
/-- what All yields -/
def msgRows (l : List (Int × Int)) : List (List AVal) := l.zipIdx.map msgRow
theorem msgRows_len (l : List (Int × Int)) : (msgRows l).length = l.length := by simp [msgRows]
theorem msgRows_get {l : List (Int × Int)} {i : Nat} (h : i < l.length) : (msgRows l)[i]'(by rw [msgRows_len]; exact h) = msgRow (l[i], i) := by simp [msgRows]
theorem take_split {α : Type} (l : List α) (i : Nat) (h : i < l.length) : l = l.take i ++ l[i] :: l.drop (i + 1) := by
  rw [List.getElem_cons_drop h, List.take_append_drop]
set_option maxHeartbeats 4000000 in
theorem mall_iter {c b q : Nat} {l : List (Int × Int)} (h64 : l.length ≤ 17592186044416) : IterC Tryz.prog 157 [.ptr c 0 0] (msgRows l) (fun η => η c = some (.cells 1 [[.ptr b 0 0]]) ∧ BoxAt η b l q) := by
  intro y η n J hup hD h0 hY
  obtain ⟨d1, d2⟩ := hD _ _ _ h0
  have hlen := fun η n h => mlen_ac (η := η) (n := n) (b := b) (q := q) (l := l) h
  refine AC.fresh fun hf => ?_; refine AC.enter Tryz.func157 rfl Tryz.ntmps157 (by simp) ?_
  simp [aload, apart, d1]
  refine ACK.rt (hlen _ _ d2) ?_
  simp
  refine loopK.inv [3, 6, 7, 8, 9, 10, 11, 12, 13, 14, 15, 16, 17, 18, 19, 20] (fun x : Nat × AHeap × Nat => x.1 ≤ l.length ∧ J ((msgRows l).take x.1) x.2.1 x.2.2) (fun x => [(6, .int .i64 x.1)]) (fun x => x.2.1) (fun x => x.2.2) (fun x => l.length - x.1) (0, η, n) ⟨by simp, by simpa using h0⟩ (by simp) (AHeap.le_rfl _) (Nat.le_refl _) ?_
  intro ⟨s, η1, n1⟩ ⟨h1, h2⟩
  simp only at h1 h2
  simp
  refine CondP.dec (fun h3 => ?_) (fun h3 => ?_)
  · have hs : s < l.length := by omega
    obtain ⟨g1, v, g2, g3⟩ := hD _ _ _ h2
    obtain ⟨row, k1, k2, J', k3, k4⟩ := msgsAt_get g3 hs
    subst k2
    have ewk : IntKind.i64.wrap ((s : Int) + 1) = (s : Int) + 1 := wrap_id (by omega) (by omega)
    simp [h3, aload, apart, afield, g1, g2, k1, k3, k4]
    have hsl : s < (msgRows l).length := by rw [msgRows_len]; exact hs
    have hy := hY _ _ _ (take_split (msgRows l) s hsl) _ _ h2
    rw [← List.take_succ_eq_append_getElem hsl, show (msgRows l)[s] = [.int .i64 (s : Int), .agg [.int .i64 l[s].1, .int .i64 l[s].2]] from msgRows_get hs] at hy
    refine YACK.useF hy ?_
    intro v' η' n' ⟨e9, hJ⟩ hf'
    subst e9
    simp [ewk]
    exact endK.intro (s + 1, η', n') ⟨by simp only; omega, hJ⟩ (by simp) (by repeat (first | exact Agree.mask _ _ | refine Agree.setf rfl ?_ | refine Agree.inner rfl ?_)) (AHeap.le_rfl _) (Nat.le_refl _) (show l.length - (s + 1) < l.length - s by omega)
  · simp [h3]
    have e : s = l.length := by omega
    rw [e, List.take_of_length_le (by rw [msgRows_len]; exact Nat.le_refl _)] at h2
    exact resK.rt h2
theorem mall_ac {η : AHeap} {n b : Nat} : AC Tryz.prog 100 [.ptr b 0 0] η n (fun v η' n' => v = .func 157 [] [.ptr n 0 0] ∧ η' = upd η n (some (.cells 1 [[.ptr b 0 0]])) ∧ n' = n + 1) := by
  refine AC.enter Tryz.func100 rfl Tryz.ntmps100 (by simp) ?_
  simp
  exact resK.rt ⟨rfl, rfl, rfl⟩

/-- the list while it is copied: its variable's block, the messages so far -/
def CopyI (η : AHeap) (n : Nat) (l : List (Int × Int)) (c b _ : Nat) (pre : List (List AVal)) (η' : AHeap) (n' : Nat) : Prop :=
  η.le η' ∧ n + 2 < n' ∧ η' c = some (.cells 1 [[.ptr b 0 0]]) ∧ ∃ lv, η' n = some (.cells 1 [[lv]]) ∧ ((lv = .nils ∧ pre = []) ∨ ∃ g, lv = .sl g 0 pre.length ∧ n + 2 < g ∧ g < n' ∧ η' g = some (.cells 2 (pairs (l.take pre.length))))
set_option maxHeartbeats 4000000 in
theorem messages_ac {η : AHeap} {n b q : Nat} {l : List (Int × Int)} (h : BoxAt η b l q) (h64 : l.length ≤ 16) : AC Tryz.prog 50 [.ptr b 0 0] η n (Rt (.rs 2 (pairs l)) η n) := by
  refine AC.gnd1 (.rs _ _ fun row hr c hc => by
    obtain ⟨x, _, rfl⟩ := List.mem_map.1 hr
    simp at hc
    rcases hc with rfl | rfl <;> exact .int _ _) 1 ?_
  refine AC.fresh fun hf => ?_; refine AC.enter Tryz.func50 rfl Tryz.ntmps50 (by simp) ?_
  simp
  refine ACK.use mall_ac ?_
  intro v η1 n1 ⟨e1, e2, e3⟩
  subst e1 e2 e3
  simp [-rangeFK_func]
  have hbox : ∀ η' : AHeap, η.le η' → BoxAt η' b l q := fun η' hle => by
    obtain ⟨v, h1, h2⟩ := h
    refine ⟨v, hle _ _ h1, ?_⟩
    rcases h2 with ⟨e1, e2⟩ | ⟨J, e1, e2⟩
    · exact Or.inl ⟨e1, e2⟩
    · exact Or.inr ⟨J, e1, hle _ _ e2⟩
  have f0 : η n = none := hf n (Nat.le_refl _)
  have f1 : η (n + 1) = none := hf _ (by omega)
  have f2 : η (n + 2) = none := hf _ (by omega)
  refine rangeF.run (msgRows l) (fun η' => η' (n + 1) = some (.cells 1 [[.ptr b 0 0]]) ∧ BoxAt η' b l q) (CopyI η n l (n + 1) b q) (by simp) rfl rfl (fun x hx => by
      obtain ⟨y, _, rfl⟩ := List.mem_map.1 hx; rfl) (mall_iter (by omega)) ?_ ?_ ?_ ?_ ?_ ?_
  · intro pre η1 n1 η2 n2 ⟨k1, k2, k3, lv, k4, k5⟩ hle hn
    refine ⟨fun r o hr => hle _ _ (k1 r o hr), by omega, hle _ _ k3, lv, hle _ _ k4, ?_⟩
    rcases k5 with k5 | ⟨g, k5, k6, k7, k8⟩
    · exact Or.inl k5
    · exact Or.inr ⟨g, k5, k6, by omega, hle _ _ k8⟩
  · intro pre η1 n1 ⟨k1, k2, k3, lv, k4, k5⟩
    refine ⟨fun r o hr => ?_, k2, ?_, lv, ?_, ?_⟩
    · have : r ≠ n + 2 := fun e => by rw [e, f2] at hr; cases hr
      rw [upd_ne this]; exact k1 r o hr
    · rw [upd_ne (by omega)]; exact k3
    · rw [upd_ne (by omega)]; exact k4
    · rcases k5 with k5 | ⟨g, k5, k6, k7, k8⟩
      · exact Or.inl k5
      · exact Or.inr ⟨g, k5, k6, k7, by rw [upd_ne (by omega)]; exact k8⟩
  · intro pre η1 n1 ⟨k1, k2, k3, _⟩
    exact ⟨k3, hbox _ k1⟩
  · refine ⟨?_, by omega, upd_eq _ _ _, .nils, by rw [upd_ne (by omega), upd_eq], Or.inl ⟨rfl, rfl⟩⟩
    exact le_upd (le_upd (AHeap.le_rfl _) f0) f1
  · intro pre x rest hx η1 n1 ⟨k1, k2, k3, lv, k4, k5⟩
    have hpl : pre.length < l.length := by
      have := congrArg List.length hx
      rw [msgRows_len] at this
      simp at this; omega
    have hxe : x = msgRow (l[pre.length], pre.length) := by
      have e : (msgRows l)[pre.length]'(by rw [msgRows_len]; exact hpl) = x := by simp [hx]
      rw [← e]; exact msgRows_get hpl
    subst hxe
    have z0 : ¬ n = n1 := by omega
    have z1 : ¬ n1 = n := by omega
    have z2 : ∀ k, ¬ n = n1 + k := fun k => by omega
    have z3 : ¬ n + 1 = n1 := by omega
    have z4 : ∀ k, ¬ n1 + k = n := fun k => by omega
    have hfr : ∀ r, n ≤ r → η r = none := hf
    have hold : ∀ r o, η r = some o → r < n := fun r o hr => by
      rcases Nat.lt_or_ge r n with h | h
      · exact h
      · rw [hf r h] at hr; cases hr
    have hb1 : (pre.length + 1) * 16 ≤ 140737488355328 := by omega
    have hb2 : pre.length + 1 ≤ 17592186044416 := by omega
    have etk : pairs (l.take (pre.length + 1)) = pairs (l.take pre.length) ++ [[.int .i64 l[pre.length].1, .int .i64 l[pre.length].2]] := by
      rw [List.take_succ_eq_append_getElem hpl]; simp only [pairs, List.map_append, List.map_cons, List.map_nil]
    have ell : (pairs (l.take pre.length)).length = pre.length := by simp; omega
    have e12 : (pairs (l.take pre.length)).take pre.length = pairs (l.take pre.length) := List.take_of_length_le (by rw [ell]; exact Nat.le_refl _)
    rcases k5 with ⟨rfl, rfl⟩ | ⟨g, rfl, k6, k7, k8⟩
    · simp [msgRow, msgV, setPs, astore, upd_upd, upd_apply, Nat.add_assoc, aload, apart, z0, z2, k4, abuildS, afillP, tek, chunk, appK, aappend, arows, lenMax]
      refine ⟨fun r o hr => ?_, by omega, ?_, .sl (n1 + 2) 0 1, by simp [upd_apply], Or.inr ⟨n1 + 2, rfl, by omega, by omega, ?_⟩⟩
      · have := hold r o hr
        simp only [upd_apply]
        repeat rw [if_neg (by omega)]
        exact k1 r o hr
      · simp only [upd_apply]
        repeat rw [if_neg (by omega)]
        exact k3
      · simp [upd_apply, z4]
        simpa [show pairs [] = [] from rfl] using etk.symm
    · have z5 : ¬ g = n1 := by omega
      have z6 : ∀ k, ¬ g = n1 + k := fun k => by omega
      have z7 : ¬ n1 = g := by omega
      have z8 : ∀ k, ¬ n1 + k = g := fun k => by omega
      have z9 : ¬ n = g := by omega
      have z10 : ¬ g = n := by omega
      have hlt : pre.length ≤ l.length := by omega
      simp [msgRow, msgV, setPs, astore, upd_upd, upd_apply, Nat.add_assoc, aload, apart, z0, z2, z5, z6, z9, k4, k8, abuildS, afillP, tek, chunk, appK, aappend, arows, lenMax, hb1, hb2, hlt, e12]
      refine ⟨fun r o hr => ?_, by omega, ?_, .sl (n1 + 2) 0 (pre.length + 1), by simp [upd_apply], Or.inr ⟨n1 + 2, by simp, by omega, by omega, ?_⟩⟩
      · have := hold r o hr
        simp only [upd_apply]
        repeat rw [if_neg (by omega)]
        exact k1 r o hr
      · simp only [upd_apply]
        repeat rw [if_neg (by omega)]
        exact k3
      · simp [upd_apply, z4]
        exact etk.symm
  · intro η1 n1 ⟨k1, k2, k3, lv, k4, k5⟩
    simp [aload, apart, k4]
    refine resK.of (η' := fun r => if r < n then η r else η1 r) (fun r o hr => ?_) _ (Nat.le_refl _) ⟨fun r hr => if_pos hr, ?_⟩
    · simp only at hr
      split at hr
      · exact k1 r o hr
      · exact hr
    rcases k5 with ⟨rfl, e⟩ | ⟨g, rfl, k6, k7, k8⟩
    · have : l = [] := by
        have := congrArg List.length e
        rw [msgRows_len] at this
        exact List.length_eq_zero_iff.1 this
      subst this
      rw [gnd_nils]; exact Ent.nils 2
    · rw [msgRows_len] at k8 ⊢
      rw [List.take_of_length_le (Nat.le_refl _)] at k8
      rw [gnd_new (k := 2) (rows := pairs l) (by omega) (by rw [if_neg (by omega)]; exact k8) (by simp) (by unfold lenMax; omega)]
      rw [List.drop_zero, List.take_of_length_le (by simp)]
      have : (pairs l).map (fun row => row.map (gnd n (fun r => if r < n then η r else η1 r) 0)) = pairs l := by
        have e : gnd n (fun r => if r < n then η r else η1 r) 0 = fun c => c := funext fun c => rfl
        rw [e]; simp
      rw [this]; exact Ent.refl _

/-- what is behind a call that writes a mailbox: it holds l, its list in a row q' -/
def BoxPost (η : AHeap) (n b q : Nat) (l : List (Int × Int)) (η' : AHeap) (n' : Nat) : Prop := ∃ q', BoxAt η' b l q' ∧ (q' = q ∨ n ≤ q') ∧ q' < n' ∧ n ≤ n' ∧ ∀ r, r < n → r ≠ b → r ≠ q → η' r = η r
set_option maxHeartbeats 4000000 in
theorem put_ac {η : AHeap} {n b q : Nat} {l : List (Int × Int)} (h : BoxAt η b l q) (hbq : b ≠ q) (h16 : l.length ≤ 16) (m : Int × Int) : AC Tryz.prog 159 [.ptr b 0 0, msgV m] η n
    (fun v η' n' => if l.length = 16 then v = .int .i64 7 ∧ η' = η else v = .int .i64 0 ∧ BoxPost η n b q (l ++ [m]) η' n') := by
  obtain ⟨v, h1, h2⟩ := h
  have h3 := h2.len
  obtain ⟨h4, h5⟩ := h2.sc
  refine AC.fresh fun hf => ?_; refine AC.enter Tryz.func159 rfl Tryz.ntmps159 (by simp) ?_
  have hb : b < n := by
    rcases Nat.lt_or_ge b n with h | h
    · exact h
    · rw [hf b h] at h1; cases h1
  have z0 : ¬ b = n := by omega
  have z1 : ∀ k, ¬ b = n + k := fun k => by omega
  have z2 : ¬ n = b := by omega
  have z3 : ∀ k, ¬ n + k = b := fun k => by omega
  simp [msgV, aload, afield, apart, upd_apply, z0, h1, h3]
  by_cases hl : l.length = 16
  · simp [hl]
    exact resK.of (η' := η) (le_upd (AHeap.le_rfl _) (hf n (Nat.le_refl _))) _ (Nat.le_refl _) (by simp [hl])
  · have hl' : ¬ ((l.length : Int) = 16) := by omega
    have hb1 : (l.length + 1) * 16 ≤ 140737488355328 := by omega
    have hb2 : l.length + 1 ≤ 17592186044416 := by omega
    have hpairs : pairs (l ++ [m]) = pairs l ++ [[.int .i64 m.1, .int .i64 m.2]] := by simp [pairs]
    simp [hl, hl']
    refine drawK.intro mixed [(0, []), (1, []), (2, []), (3, []), (4, []), (5, []), (6, [4]), (7, []), (8, []), (9, []), (10, [])] (by kernel_rfl) ?_
    rcases h2 with ⟨rfl, rfl⟩ | ⟨J, rfl, h2⟩
    · simp [aload, afield, apart, upd_apply, Nat.add_assoc, z0, z1, h1, abuildS, afillP, tek, chunk, appK, aappend, arows, lenMax, astore, lk_some, chkK]
      refine resK.rt ?_
      simp
      refine ⟨n + 2, ⟨.sl (n + 2) 0 1, by simp [upd_apply], Or.inr ⟨[], rfl, ?_⟩⟩, Or.inr (by omega), by omega, by omega, fun r hr h6 h7 => ?_⟩
      · simp [upd_apply, z3, pairs]
      · simp only [upd_apply]
        repeat rw [if_neg (by omega)]
    · have hq : q < n := by
        rcases Nat.lt_or_ge q n with h | h
        · exact h
        · rw [hf q h] at h2; cases h2
      have z5 : ¬ q = n := by omega
      have z6 : ∀ k, ¬ q = n + k := fun k => by omega
      have z7 : ¬ n = q := by omega
      have z8 : ∀ k, ¬ n + k = q := fun k => by omega
      have z9 : ¬ q = b := fun e => hbq e.symm
      have etk : (pairs l ++ J).take l.length = pairs l := List.take_left' (by simp)
      have etk2 : List.take (l.length - (pairs l).length) J = [] := by simp
      simp [aload, afield, apart, upd_apply, Nat.add_assoc, z0, z1, z5, z6, hbq, h1, h2, abuildS, afillP, tek, chunk, appK, aappend, arows, lenMax, astore, lk_some, chkK, hb1, hb2, etk]
      refine resK.rt ?_
      simp [hl]
      refine ⟨n + 2, ⟨.sl (n + 2) 0 (l.length + 1), by simp [upd_apply], Or.inr ⟨[], by simp, ?_⟩⟩, Or.inr (by omega), by omega, by omega, fun r hr h6 h7 => ?_⟩
      · simp [upd_apply, z3, hpairs]
      · simp only [upd_apply]
        repeat rw [if_neg (by omega)]

theorem pairs_sc' (l : List (Int × Int)) : ∀ r ∈ pairs l, ∀ c ∈ r, c.sc = true := by
  intro r hr c hc
  obtain ⟨x, _, rfl⟩ := List.mem_map.1 hr
  simp at hc
  rcases hc with rfl | rfl <;> rfl
set_option maxHeartbeats 4000000 in
theorem delete_ac {η : AHeap} {n q : Nat} {l : List (Int × Int)} {J : List (List AVal)} (h : η q = some (.cells 2 (pairs l ++ J))) (i : Nat) (hi : i < l.length) (h16 : l.length ≤ 16) :
    AC Tryz.prog 102 [.sl q 0 l.length, .int .i64 i, .int .i64 ((i : Int) + 1)] η n (fun v η' n' => v = .sl q 0 (l.length - 1) ∧ (∃ J', η' = upd η q (some (.cells 2 (pairs (l.eraseIdx i) ++ J')))) ∧ n' = n) := by
  refine AC.entR (K' := fun v η' n' => v = .slc q 0 (l.length - 1) l.length ∧ (∃ J', η' = upd η q (some (.cells 2 (pairs (l.eraseIdx i) ++ J')))) ∧ n' = n) ?_ (fun v η' n' ⟨h1, h2, h3⟩ => ⟨_, h1 ▸ Ent.unroom, rfl, h2, h3⟩)
  refine AC.args (args' := [.slc q 0 l.length l.length, .int .i64 i, .int .i64 ((i : Int) + 1)]) ?_ ⟨Ent.room, Ent.refl _, Ent.refl _, trivial⟩
  refine AC.enter Tryz.func102 rfl Tryz.ntmps102 (by simp) ?_
  obtain ⟨d, hd⟩ : ∃ d, l.length = i + 1 + d := ⟨l.length - (i + 1), by omega⟩
  have i0 : (0 : Int) ≤ (i : Int) + 1 := by omega
  have i1 : (i : Int) + 1 ≤ (i : Int) + 1 + d := by omega
  have i2 : (i : Int) ≤ (i : Int) + 1 + d := by omega
  have i3 : (i : Int) ≤ (i : Int) + 1 := by omega
  have i4 : ((i : Int) + 1).toNat = i + 1 := by omega
  have i5 : ¬ ((i : Int) = (i : Int) + 1) := by omega
  have i6 : i ≤ i + 1 + d := by omega
  have i7 : ((i : Int) + 1 + d).toNat = i + 1 + d := by omega
  have i8 : i + 1 + d - (i + 1) = d := by omega
  have i9 : i + 1 + d ≤ i + 1 + d + J.length := by omega
  have i10 : i + d ≤ i + 1 + d := by omega
  have i11 : (0 : Int) ≤ (i : Int) + d := by omega
  have i12 : (i : Int) + d ≤ (i : Int) + 1 + d := by omega
  have i13 : ((i : Int) + d).toNat = i + d := by omega
  have i14 : (0 : Int) ≤ (i : Int) + 1 + d := by omega
  have i15 : i + 1 + d - (i + d) = 1 := by omega
  have hsplit : l = l.take i ++ l[i] :: l.drop (i + 1) := take_split l i hi
  have e0 : pairs l = pairs (l.take i) ++ [[.int .i64 l[i].1, .int .i64 l[i].2]] ++ pairs (l.drop (i + 1)) := by
    conv => lhs; rw [hsplit]
    simp only [pairs, List.map_append, List.map_cons, List.append_assoc, List.cons_append, List.nil_append]
  have la : (pairs (l.take i)).length = i := by simp; omega
  have lb : (pairs (l.drop (i + 1))).length = d := by simp; omega
  have e1 : List.take d (List.drop (i + 1) (pairs l ++ J)) = pairs (l.drop (i + 1)) := by
    rw [e0, List.append_assoc, List.drop_left' (by simp [la]), List.take_left' lb]
  have e2 : List.take i (pairs l ++ J) = pairs (l.take i) := by
    rw [e0, List.append_assoc, List.append_assoc, List.take_left' la]
  have e3 : pairs (l.eraseIdx i) = pairs (l.take i) ++ pairs (l.drop (i + 1)) := by
    rw [List.eraseIdx_eq_take_drop_succ]; simp only [pairs, List.map_append]
  simp [asliceV, aslcV, abndC, h, hd, i0, i1, i3, i4, i5, i7, i14]
  refine drawK.intro mixed [(0, []), (1, []), (2, []), (3, []), (4, []), (5, []), (6, []), (7, [])] (by kernel_rfl) ?_
  simp [asliceV, aslcV, abndC, h, hd, i0, i1, i2, i4, i6, i7, i8, i9, i10, i11, i12, i13, i14, i15, appK, aappend, arows, e1, e2, lb, upd_eq, aclear, upd_upd]
  refine ⟨pairs_sc' _, ?_⟩
  have c1 : i + d + 1 ≤ i + (d + (i + 1 + d + J.length - (i + d))) := by omega
  have e4 : List.take (i + d) (pairs (l.take i) ++ (pairs (l.drop (i + 1)) ++ List.drop (i + d) (pairs l ++ J))) = pairs (l.eraseIdx i) := by
    rw [e3, ← List.append_assoc, List.take_left' (by simp only [List.length_append, la, lb])]
  simp [c1, e4]
  exact resK.rt ⟨by rw [hd, show i + 1 + d - 1 = i + d by omega], ⟨_, rfl⟩, rfl⟩
set_option maxHeartbeats 4000000 in
theorem take_ac {η : AHeap} {n b q : Nat} {l : List (Int × Int)} (h : BoxAt η b l q) (hbq : b ≠ q) (h16 : l.length ≤ 16) (i : Nat) (hi : i < l.length) : AC Tryz.prog 51 [.ptr b 0 0, .int .i64 i] η n
    (fun v η' n' => v = .tup [msgV l[i], .bool true] ∧ BoxAt η' b (l.eraseIdx i) q ∧ n ≤ n' ∧ ∀ r, r < n → r ≠ b → r ≠ q → η' r = η r) := by
  obtain ⟨v, h1, h2⟩ := h
  rcases h2 with ⟨rfl, rfl⟩ | ⟨J, rfl, h2⟩
  · simp at hi
  refine AC.fresh fun hf => ?_; refine AC.enter Tryz.func51 rfl Tryz.ntmps51 (by simp) ?_
  have hb : b < n := by
    rcases Nat.lt_or_ge b n with h | h
    · exact h
    · rw [hf b h] at h1; cases h1
  have hq : q < n := by
    rcases Nat.lt_or_ge q n with h | h
    · exact h
    · rw [hf q h] at h2; cases h2
  have z0 : ¬ b = n := by omega
  have z1 : ∀ k, ¬ b = n + k := fun k => by omega
  have z2 : ¬ n = b := by omega
  have z3 : ∀ k, ¬ n + k = b := fun k => by omega
  have z5 : ¬ q = n := by omega
  have z6 : ∀ k, ¬ q = n + k := fun k => by omega
  have z7 : ¬ n = q := by omega
  have z8 : ∀ k, ¬ n + k = q := fun k => by omega
  have z9 : ¬ q = b := fun e => hbq e.symm
  have ewk : IntKind.i64.wrap ((i : Int) + 1) = (i : Int) + 1 := wrap_id (by omega) (by omega)
  have hat := fun η n h => mat_ac (η := η) (n := n) (b := b) (q := q) (l := l) h i hi (by omega)
  have hdel := fun η n J h => delete_ac (η := η) (n := n) (q := q) (l := l) (J := J) h i hi h16
  simp
  refine ACK.rt (hat _ _ ⟨.sl q 0 l.length, by simp [upd_apply, z0, h1], Or.inr ⟨J, rfl, by simp [upd_apply, z5, h2]⟩⟩) ?_
  simp [astore, upd_upd, upd_apply, aload, afield, apart, z0, z1, h1, ewk]
  refine ACK.use (hdel _ _ J (by simp [upd_apply, z5, z6, h2])) ?_
  intro v' η' n' ⟨e1, ⟨J', e2⟩, e3⟩
  subst e1 e2 e3
  simp [astore, upd_apply, aload, afield, apart, z0, z1, z2, z3, z7, z8, hbq, h1]
  refine resK.rt ⟨rfl, ⟨.sl q 0 (l.length - 1), ?_, Or.inr ⟨J', by rw [List.length_eraseIdx, if_pos hi], ?_⟩⟩, by omega, fun r hr h6 h7 => ?_⟩
  · simp [upd_apply, z0]
  · simp [upd_apply, z5, z9]
  · simp only [upd_apply]
    repeat rw [if_neg (by omega)]
end Go.Proofs.YtbomkomipaipmaaGreat
namespace Go.Proofs.YtbomkomipaipmaaGreat
set_option maxRecDepth 100000

def ent (es : List (Int × AVal)) : List (AVal × AVal) := es.map fun x => (.int .i64 x.1, x.2)
@[simp] theorem ent_length (es : List (Int × AVal)) : (ent es).length = es.length := by simp [ent]
theorem ent_get (es : List (Int × AVal)) (i : Nat) : (ent es)[i]? = (es[i]?).map fun x => (.int .i64 x.1, x.2) := by simp [ent]
def keyAt (es : List (Int × AVal)) (i : Nat) : Int := (es.getD i (0, .undef)).1
theorem perm_seen {es : List (Int × AVal)} {seen : List Nat} (h1 : seen.Nodup) (h2 : ∀ i ∈ seen, i < es.length) (h3 : ∀ i, i < es.length → i ∈ seen) : (seen.map (keyAt es)).Perm (es.map (·.1)) := by
  have hp : seen.Perm (List.range es.length) := by
    rw [List.perm_ext_iff_of_nodup h1 List.nodup_range]
    intro i
    rw [List.mem_range]
    exact ⟨h2 i, h3 i⟩
  have e : (List.range es.length).map (keyAt es) = es.map (·.1) := by
    refine List.ext_getElem (by simp) fun i k1 k2 => ?_
    simp at k1
    simp [keyAt, List.getD_eq_getElem?_getD, k1]
  rw [← e]
  exact hp.map _

def KeysS (es : List (Int × AVal)) (xs : List (List AVal)) : Prop := ∃ l : List Int, l.Perm (es.map (·.1)) ∧ xs = rowI l
def KeysT (es : List (Int × AVal)) (pre : List (List AVal)) (x : List AVal) : Prop := pre.length < es.length ∧ ∃ k : Int, k ∈ es.map (·.1) ∧ x = [.int .i64 k]
def KeysD (c r : Nat) (es : List (Int × AVal)) (η : AHeap) : Prop := c ≠ r ∧ η c = some (.cells 1 [[.mp r]]) ∧ η r = some (.map (ent es))
theorem nextK.map {K : AVal → AHeap → Nat → Prop} {g : Tag K} {η : AHeap} {n q r clk : Nat} {E : Array MapEntry} {es : List (AVal × AVal)} {seen : List Nat} (hq : η q = some (.iter (some (r, E, clk)) seen)) (hr : η r = some (.mapR E clk es))
    (h1 : ∀ i (h : i < es.length), ¬ i ∈ seen → K (.tup [.bool true, es[i].1, es[i].2]) (upd η q (some (.iter (some (r, E, clk)) (seen ++ [i])))) n) (h2 : (∀ i, i < es.length → i ∈ seen) → K (.tup [.bool false]) η n) : nextK (.ptr q 0 0) false η n K g := by
  unfold nextK anext
  refine ⟨rfl, ?_⟩
  simp only [hq, hr]
  refine ⟨trivial, trivial, fun i e hi hn => ?_, h2⟩
  obtain ⟨hl, rfl⟩ := List.getElem?_eq_some_iff.1 hi
  exact h1 i hl hn
theorem entryK.map {K : AVal → AHeap → Nat → Prop} {g : Tag K} {η : AHeap} {n q r clk i : Nat} {E : Array MapEntry} {es : List (AVal × AVal)} {seen : List Nat} (hq : η q = some (.iter (some (r, E, clk)) (seen ++ [i]))) (hr : η r = some (.mapR E clk es)) (hi : i < es.length)
    (h : K (.tup [es[i].1, es[i].2]) η n) : entryK (.ptr q 0 0) η n K g := by
  unfold entryK aentry
  simp only [hq, hr]
  exact ⟨trivial, trivial, i, es[i], by simp, List.getElem?_eq_getElem hi, h⟩
theorem rangeK.map {P : Program} {t a b : TypeId} {K : AVal → AHeap → Nat → Prop} {g : Tag K} {η : AHeap} {n r : Nat} {es : List (AVal × AVal)} (ht : P.underlying t = some (.map a b)) (hr : η r = some (.map es))
    (h : ∀ (E : Array MapEntry) (clk : Nat), E.size = es.length → K (.ptr n 0 0) (upd (upd η r (some (.mapR E clk es))) n (some (.iter (some (r, E, clk)) []))) (n + 1)) : rangeK P t (.mp r) η n K g := by
  unfold rangeK arange
  simp only [ht, hr]
  exact h

set_option maxHeartbeats 4000000 in
theorem keys_iter {c r : Nat} {es : List (Int × AVal)} : IterS Tryz.prog 270 [.ptr c 0 0] (KeysS es) (KeysT es) [r, c] (KeysD c r es) := by
  intro y η n J hup hD h0 hY
  obtain ⟨d0, d1, d2⟩ := hD
  refine AC.unrange (r := r) (es := ent es) ?_
  refine AC.fresh fun hf => ?_; refine AC.enter Tryz.func270 rfl Tryz.ntmps270 (by simp) ?_
  have lt : ∀ {q o}, η q = some o → q < n := fun {q o} hq => by
    rcases Nat.lt_or_ge q n with h | h
    · exact h
    · rw [hf q h] at hq; cases hq
  have hc := lt d1
  have hr := lt d2
  simp [aload, apart, d1]
  refine rangeK.map Tryz.underlying292 d2 fun E clk hE => ?_
  simp
  have hcn : c ≠ n := by omega
  have hrn : r ≠ n := by omega
  refine loopK.inv [3, 6, 7, 8, 9, 10, 11, 12, 13] (fun x : List Nat × AHeap × Nat => x.1.Nodup ∧ (∀ i ∈ x.1, i < es.length) ∧ x.2.1 c = some (.cells 1 [[.mp r]]) ∧ x.2.1 r = some (.mapR E clk (ent es)) ∧ x.2.1 n = some (.iter (some (r, E, clk)) x.1) ∧ J (rowI (x.1.map (keyAt es))) (hideN [r, c, n] x.2.1) x.2.2 ∧ n < x.2.2) (fun _ => []) (fun x => x.2.1) (fun x => x.2.2) (fun x => es.length - x.1.length) ([], upd (upd η r (some (.mapR E clk (ent es)))) n (some (.iter (some (r, E, clk)) [])), n + 1) ⟨by simp, by simp, ?_, ?_, ?_, ?_, by simp⟩ (by simp) (AHeap.le_rfl _) (Nat.le_refl _) ?_
  · show upd _ _ _ c = _
    rw [upd_ne hcn, upd_ne d0]; exact d1
  · show upd _ _ _ r = _
    rw [upd_ne hrn, upd_eq]
  · exact upd_eq _ _ _
  · refine hup _ _ _ _ _ h0 (fun q o hq => ?_) (Nat.le_succ _)
    unfold hideN at hq ⊢
    split at hq
    · cases hq
    · rename_i hn1
      have q1 : q ≠ r ∧ q ≠ c := by simpa using hn1
      have q2 : q ≠ n := by have := lt hq; omega
      rw [if_neg (by simp [q1, q2])]
      show upd _ _ _ q = _
      rw [upd_ne q2, upd_ne q1.1]; exact hq
  intro ⟨seen, η1, n1⟩ ⟨k1, k2, k3, k4, k5, k6, k7⟩
  simp only at k1 k2 k3 k4 k5 k6 k7
  simp
  refine nextK.map k5 k4 (fun i hi hni => ?_) (fun hall => ?_)
  · have hi' : i < es.length := by simpa using hi
    simp
    refine entryK.map (seen := seen) (i := i) (E := E) (clk := clk) (r := r) (es := ent es) (upd_eq _ _ _) (by rw [upd_ne hrn]; exact k4) hi ?_
    have ek : (ent es)[i].1 = .int .i64 (keyAt es i) := by simp [ent, keyAt, List.getD_eq_getElem?_getD, hi']
    simp [ek]
    have hlen : seen.length < es.length := by
      have hsub : (seen ++ [i]).Nodup := by
        rw [List.nodup_append]; exact ⟨k1, by simp, fun a ha b hb e => by simp at hb; subst hb; exact hni (e ▸ ha)⟩
      have := hsub.length_le_of_subset (l₂ := List.range es.length) fun j hj => by
        rw [List.mem_range]
        rcases List.mem_append.1 hj with h | h
        · exact k2 j h
        · simp at h; subst h; exact hi'
      simp at this; omega
    have hstep : KeysT es (rowI (seen.map (keyAt es))) [.int .i64 (keyAt es i)] := ⟨by simpa [rowI] using hlen, _, by simp only [List.mem_map]; exact ⟨es[i], List.getElem_mem hi', by simp [keyAt, List.getD_eq_getElem?_getD, hi']⟩, rfl⟩
    have hhide : hideN [r, c, n] (upd η1 n (some (.iter (some (r, E, clk)) (seen ++ [i])))) = hideN [r, c, n] η1 := by
      funext q
      unfold hideN
      split
      · rfl
      · rename_i hn; rw [upd_ne (by simp at hn; exact hn.2.2)]
    have hy := YAC.frame (η := upd η1 n (some (.iter (some (r, E, clk)) (seen ++ [i])))) (μ := hideN [r, c, n] η1) (by rw [← hhide]; exact hideN_le _ _) (hY _ _ hstep _ _ k6)
    refine YACK.use hy ?_
    intro v η'' n' ⟨η3, ⟨e1, hJ⟩, e2, h4, h5, h6⟩
    subst e1 e2
    simp
    have hmr : hideN [r, c, n] η1 r = none := hideN_in (by simp)
    have hmn : hideN [r, c, n] η1 n = none := hideN_in (by simp)
    have hr3 : η3 r = none := h5 r (.mapR E clk (ent es)) hmr (by rw [upd_ne hrn]; exact k4) trivial
    have hmc : hideN [r, c, n] η1 c = none := hideN_in (by simp)
    have hc3 : η3 c = none := h5 c (.cells 1 [[.mp r]]) hmc (by rw [upd_ne hcn]; exact k3) (by simp [AObj.real])
    have hn3 : η3 n = none := h5 n _ hmn (upd_eq _ _ _) trivial
    refine endK.intro (seen ++ [i], mrg (hideN [r, c, n] η1) (upd η1 n (some (.iter (some (r, E, clk)) (seen ++ [i])))) η3, n') ⟨?_, ?_, ?_, ?_, ?_, ?_, Nat.lt_of_lt_of_le k7 h6⟩ (by simp) (by repeat (first | exact Agree.mask _ _ | refine Agree.setf rfl ?_ | refine Agree.inner rfl ?_)) (AHeap.le_rfl _) (Nat.le_refl _) (show es.length - (seen ++ [i]).length < es.length - seen.length by simp; omega)
    · rw [List.nodup_append]; exact ⟨k1, by simp, fun a ha b hb e => by simp at hb; subst hb; exact hni (e ▸ ha)⟩
    · intro j hj
      rcases List.mem_append.1 hj with h | h
      · exact k2 j h
      · simp at h; subst h; exact hi'
    · show mrg _ _ _ c = _
      rw [mrg_old hc3 hmc, upd_ne hcn]; exact k3
    · show mrg _ _ _ r = _
      rw [mrg_old hr3 hmr, upd_ne hrn]; exact k4
    · show mrg _ _ _ n = _
      rw [mrg_old hn3 hmn, upd_eq]
    · simp only [List.map_append, List.map_cons, List.map_nil]
      have e : rowI (seen.map (keyAt es) ++ [keyAt es i]) = rowI (seen.map (keyAt es)) ++ [[.int .i64 (keyAt es i)]] := by simp [rowI]
      rw [e]
      refine hup _ _ _ _ _ hJ (fun q o hq => ?_) (Nat.le_refl _)
      have q1 : q ≠ r := fun e => by rw [e, hr3] at hq; cases hq
      have q2 : q ≠ n := fun e => by rw [e, hn3] at hq; cases hq
      have q3 : q ≠ c := fun e => by rw [e, hc3] at hq; cases hq
      rw [hideN_out (by simp [q1, q2, q3])]
      exact mrg_some hq
  · simp
    have hall' : ∀ i, i < es.length → i ∈ seen := fun i hi => hall i (by simpa using hi)
    refine resK.of (η' := upd η1 n none) (fun q o hq => ?_) _ (Nat.le_refl _) ⟨⟨E, clk, by rw [upd_ne hrn]; exact k4⟩, rowI (seen.map (keyAt es)), ⟨_, perm_seen k1 k2 hall', rfl⟩, ?_, d0, ?_, upd_eq _ _ _⟩
    · by_cases e : q = n
      · subst e; rw [upd_eq] at hq; cases hq
      · rwa [upd_ne e] at hq
    · refine hup _ _ _ _ _ k6 (fun q o hq => ?_) (Nat.le_refl _)
      unfold hideN at hq ⊢
      split at hq
      · cases hq
      · rename_i hn1
        simp at hn1
        rw [if_neg (by simp [hn1.1, hn1.2.1]), upd_ne hn1.1, upd_ne hn1.2.2]; exact hq
    · rw [upd_ne d0, upd_ne hcn]; exact k3
/-- numbers collected -/
def ColI (η : AHeap) (n : Nat) (R : List Nat) (pre : List (List AVal)) (η' : AHeap) (n' : Nat) : Prop :=
  (hideN R η).le η' ∧ n + 1 < n' ∧ ∃ l : List Int, pre = rowI l ∧ ∃ lv, η' n = some (.cells 1 [[lv]]) ∧ ((lv = .nils ∧ l = []) ∨ ∃ g, lv = .sl g 0 l.length ∧ n + 1 < g ∧ g < n' ∧ η' g = some (.cells 1 (ints l)))
/-- a list in a row made since n -/
def NewI (η : AHeap) (n : Nat) (v : AVal) (l : List Int) : Prop := (v = .nils ∧ l = []) ∨ ∃ g, v = .sl g 0 l.length ∧ n ≤ g ∧ η g = some (.cells 1 (ints l))
set_option maxHeartbeats 4000000 in
theorem appendSeq_ac {η : AHeap} {n gf : Nat} {caps : List AVal} {S : List (List AVal) → Prop} {step : List (List AVal) → List AVal → Prop} {R : List Nat} {D : AHeap → Prop} (hHB : HB Tryz.prog gf = true) (hit : IterS Tryz.prog gf caps S step R D) (hstep : ∀ pre x, step pre x → ∃ k : Int, x = [.int .i64 k]) (hlen : ∀ pre x, step pre x → pre.length < 1000)
    (hR : ∀ r ∈ R, r < n) (hDu : ∀ r o, n ≤ r → ∀ η, D η → D (upd η r o)) (hD : D η) :
    AC Tryz.prog 273 [.nils, .func gf [] caps] η n (fun v η' n' => ∃ l, S (rowI l) ∧ NewI η' n v l ∧ D η' ∧ (hideN R η).le (hideN R η') ∧ n ≤ n') := by
  refine AC.fresh fun hf => ?_; refine AC.enter Tryz.func273 rfl Tryz.ntmps273 (by simp) ?_
  simp [-rangeFK_func]
  have hnR : ∀ k, n ≤ k → ¬ k ∈ R := fun k hk h => by have := hR k h; omega
  refine rangeF.runS S step R D (ColI η n R) hHB rfl rfl hit (fun pre x hx => by obtain ⟨k, rfl⟩ := hstep pre x hx; rfl) (hnR _ (by omega)) ?_ ?_ (fun o => hDu _ _ (by omega) _ (hDu _ _ (Nat.le_refl _) _ hD)) (fun η' h => hDu _ _ (by omega) _ h) ?_ ?_ ?_
  · intro pre η1 n1 η2 n2 ⟨k1, k2, l, k3, lv, k4, k5⟩ hle hn
    refine ⟨fun r o hr => hle _ _ (k1 r o hr), by omega, l, k3, lv, hle _ _ k4, ?_⟩
    rcases k5 with k5 | ⟨g, k5, k6, k7, k8⟩
    · exact Or.inl k5
    · exact Or.inr ⟨g, k5, k6, by omega, hle _ _ k8⟩
  · intro pre η1 n1 ⟨k1, k2, l, k3, lv, k4, k5⟩
    refine ⟨fun r o hr => ?_, k2, l, k3, lv, ?_, ?_⟩
    · have : r ≠ n + 1 := fun e => by have := hideN_le _ _ _ _ hr; rw [e, hf _ (by omega)] at this; cases this
      rw [upd_ne this]; exact k1 r o hr
    · rw [upd_ne (by omega)]; exact k4
    · rcases k5 with k5 | ⟨g, k5, k6, k7, k8⟩
      · exact Or.inl k5
      · exact Or.inr ⟨g, k5, k6, k7, by rw [upd_ne (by omega)]; exact k8⟩
  · refine ⟨?_, by omega, [], rfl, .nils, ?_, Or.inl ⟨rfl, rfl⟩⟩
    · rw [hide_upd (hnR _ (Nat.le_refl _))]
      exact le_upd (AHeap.le_rfl _) (by rw [hideN_out (hnR _ (Nat.le_refl _))]; exact hf n (Nat.le_refl _))
    · rw [hide_upd (hnR _ (Nat.le_refl _)), upd_eq]
  · intro pre x hx η1 n1 ⟨k1, k2, l, k3, lv, k4, k5⟩
    have hl := hlen pre x hx
    obtain ⟨k, rfl⟩ := hstep pre x hx
    subst k3
    simp only [rowI, List.length_map] at hl
    have z0 : ¬ n = n1 := by omega
    have z1 : ¬ n1 = n := by omega
    have z2 : ∀ k, ¬ n = n1 + k := fun k => by omega
    have z4 : ∀ k, ¬ n1 + k = n := fun k => by omega
    have hold : ∀ r o, hideN R η r = some o → r < n := fun r o hr => by
      rcases Nat.lt_or_ge r n with h | h
      · exact h
      · have := hideN_le _ _ _ _ hr; rw [hf r h] at this; cases this
    have hb1 : (l.length + 1) * 8 ≤ 140737488355328 := by omega
    have hb2 : l.length + 1 ≤ 17592186044416 := by omega
    have erow : rowI l ++ [[.int .i64 k]] = rowI (l ++ [k]) := by simp [rowI]
    have eints : ints (l ++ [k]) = ints l ++ [[.int .i64 k]] := by simp [ints]
    have etk : List.take l.length (ints l) = ints l := List.take_of_length_le (by simp)
    rcases k5 with ⟨rfl, rfl⟩ | ⟨g, rfl, k6, k7, k8⟩
    · simp [setPs, astore, upd_apply, Nat.add_assoc, aload, apart, z0, z2, k4, abuildS, afillP, tek, chunk, appK, aappend, arows, lenMax]
      refine ⟨fun r o hr => ?_, by omega, [k], erow, .sl (n1 + 1) 0 1, by simp [upd_apply], Or.inr ⟨n1 + 1, rfl, by omega, by omega, ?_⟩⟩
      · have := hold r o hr
        simp only [upd_apply]
        repeat rw [if_neg (by omega)]
        exact k1 r o hr
      · simp [upd_apply, z4, ints]
    · have z5 : ¬ g = n1 := by omega
      have z6 : ∀ k, ¬ g = n1 + k := fun k => by omega
      have z7 : ¬ n1 = g := by omega
      have z8 : ∀ k, ¬ n1 + k = g := fun k => by omega
      have z9 : ¬ n = g := by omega
      have z10 : ¬ g = n := by omega
      simp [setPs, astore, upd_apply, Nat.add_assoc, aload, apart, z0, z2, z5, z9, k4, k8, abuildS, afillP, tek, chunk, appK, aappend, arows, lenMax, hb1, hb2, etk]
      refine ⟨fun r o hr => ?_, by omega, l ++ [k], erow, .sl (n1 + 1) 0 (l.length + 1), by simp [upd_apply], Or.inr ⟨n1 + 1, by simp, by omega, by omega, ?_⟩⟩
      · have := hold r o hr
        simp only [upd_apply]
        repeat rw [if_neg (by omega)]
        exact k1 r o hr
      · simp [upd_apply, z4]
        exact eints.symm
  · intro xs η1 n1 hS ⟨k1, k2, l, k3, lv, k4, k5⟩ hD1
    subst k3
    rw [hideN_out (hnR _ (Nat.le_refl _))] at k4
    simp [aload, apart, k4]
    refine resK.rt ⟨l, hS, ?_, hD1, k1, by omega⟩
    rcases k5 with k5 | ⟨g, k5, k6, k7, k8⟩
    · exact Or.inl k5
    · rw [hideN_out (hnR _ (by omega))] at k8
      exact Or.inr ⟨g, k5, by omega, k8⟩
theorem collect_ac {η : AHeap} {n gf : Nat} {caps : List AVal} {S : List (List AVal) → Prop} {step : List (List AVal) → List AVal → Prop} {R : List Nat} {D : AHeap → Prop} (hHB : HB Tryz.prog gf = true) (hit : IterS Tryz.prog gf caps S step R D) (hstep : ∀ pre x, step pre x → ∃ k : Int, x = [.int .i64 k]) (hlen : ∀ pre x, step pre x → pre.length < 1000)
    (hR : ∀ r ∈ R, r < n) (hDu : ∀ r o, n ≤ r → ∀ η, D η → D (upd η r o)) (hD : D η) :
    AC Tryz.prog 269 [.func gf [] caps] η n (fun v η' n' => ∃ l, S (rowI l) ∧ NewI η' n v l ∧ D η' ∧ (hideN R η).le (hideN R η') ∧ n ≤ n') := by
  refine AC.enter Tryz.func269 rfl Tryz.ntmps269 (by simp) ?_
  simp
  refine ACK.use (appendSeq_ac hHB hit hstep hlen hR hDu hD) ?_
  intro v η' n' h
  simp
  exact resK.rt h
set_option maxHeartbeats 1000000 in
theorem sortedI_ac {η : AHeap} {n gf : Nat} {caps : List AVal} {S : List (List AVal) → Prop} {step : List (List AVal) → List AVal → Prop} {R : List Nat} {D : AHeap → Prop} (hHB : HB Tryz.prog gf = true) (hit : IterS Tryz.prog gf caps S step R D) (hstep : ∀ pre x, step pre x → ∃ k : Int, x = [.int .i64 k]) (hlen : ∀ pre x, step pre x → pre.length < 1000)
    (hR : ∀ r ∈ R, r < n) (hDu : ∀ r o, n ≤ r → ∀ η, D η → D (upd η r o)) (hD : D η) (hS : ∀ l, S (rowI l) → l.length ≤ 1000) :
    AC Tryz.prog 260 [.func gf [] caps] η n (fun v η' n' => ∃ l, S (rowI l) ∧ NewI η' n v (sorted l) ∧ D η' ∧ (hideN R η).le (hideN R η') ∧ n ≤ n') := by
  refine AC.fresh fun hf => ?_; refine AC.enter Tryz.func260 rfl Tryz.ntmps260 (by simp) ?_
  simp
  refine ACK.use (collect_ac hHB hit hstep hlen hR hDu hD) ?_
  intro v η' n' ⟨l, h1, h2, h3, h4, h5⟩
  simp
  rcases h2 with ⟨rfl, rfl⟩ | ⟨g, rfl, k1, k2⟩
  · refine ACK.use (sort_nil_ac _ _) ?_
    intro v' η2 n2 ⟨e1, e2⟩
    subst e1 e2
    simp
    exact resK.rt ⟨[], h1, Or.inl ⟨rfl, by simp [sorted]⟩, h3, h4, h5⟩
  · refine ACK.use (sort_ac k2 (by simp) (by have := hS l h1; unfold lenMax; omega)) ?_
    intro v' η2 n2 ⟨e1, e2⟩
    subst e1 e2
    simp
    refine resK.rt ⟨l, h1, Or.inr ⟨g, by simp, k1, by simp [upd_eq]⟩, hDu _ _ k1 _ h3, fun r o hr => ?_, h5⟩
    have hgR : ¬ g ∈ R := fun h => by have := hR g h; omega
    have hrg : r ≠ g := fun e => by have := hideN_le _ _ _ _ hr; rw [e, hf g k1] at this; cases this
    rw [hide_upd hgR, upd_ne hrg]; exact h4 r o hr
end Go.Proofs.YtbomkomipaipmaaGreat
namespace Go.Proofs.YtbomkomipaipmaaGreat
set_option maxRecDepth 100000

def hasK (k : Int) (x : Int × AVal) : Bool := x.1 == k
def lookE (es : List (Int × AVal)) (k : Int) : Option AVal := (es.find? (hasK k)).map (·.2)
def insE (es : List (Int × AVal)) (k : Int) (v : AVal) : List (Int × AVal) := match es.findIdx? (hasK k) with
  | some i => es.set i (k, v)
  | none => es ++ [(k, v)]
def delE (es : List (Int × AVal)) (k : Int) : List (Int × AVal) := es.eraseP (hasK k)
theorem afind_ent {kk : IntKind} {k : Int} : ∀ (es : List (Int × AVal)) (i : Nat), afind (.int kk) (.int .i64 k) (ent es) i = some (match es.findIdx? (hasK k) with
    | some j => (es[j]?).map fun x => (i + j, x.2)
    | none => none)
  | [], i => rfl
  | x :: es, i => by
    show afind _ _ ((.int .i64 x.1, x.2) :: ent es) i = _
    unfold afind
    simp only [akeq, if_true]
    rw [List.findIdx?_cons]
    by_cases h : k = x.1
    · have h1 : (k == x.1) = true := by simp [h]
      have h2 : hasK k x = true := by simp [hasK, h]
      rw [h1, h2]; simp
    · have h1 : (k == x.1) = false := by simp [h]
      have h2 : hasK k x = false := by simp [hasK]; exact fun e => h e.symm
      rw [h1, h2]
      simp only [Bool.false_eq_true, if_false]
      rw [afind_ent es (i + 1)]
      cases es.findIdx? (hasK k) with
      | none => rfl
      | some j => simp [Nat.add_assoc, Nat.add_comm 1 j]
theorem lookE_idx (es : List (Int × AVal)) (k : Int) : lookE es k = match es.findIdx? (hasK k) with
    | some j => (es[j]?).map (·.2)
    | none => none := by
  unfold lookE
  induction es with
  | nil => rfl
  | cons x es ih =>
    rw [List.find?_cons, List.findIdx?_cons]
    cases h : hasK k x with
    | true => rfl
    | false =>
      simp only [ih, Bool.false_eq_true, if_false]
      cases es.findIdx? (hasK k) with
      | none => rfl
      | some j => simp
theorem alookup_ent {P : Program} {t kt vt : TypeId} {kk : IntKind} {z : AVal} {η : AHeap} {r : Nat} {es : List (Int × AVal)} (ht : P.underlying t = some (.map kt vt)) (hk : P.underlying kt = some (.int kk)) (hz : azv P vt = some z) (hr : η r = some (.map (ent es))) (k : Int) :
    alookup P t (.mp r) (.int .i64 k) false η = some ((lookE es k).getD z) := by
  unfold alookup
  simp only [ht, hk, akOK, if_true, hr]
  rw [afind_ent, lookE_idx]
  cases h : es.findIdx? (hasK k) with
  | none => simp [hz]
  | some j =>
    have hj := (List.findIdx?_eq_some_iff_getElem.1 h).1
    simp [hj]
theorem alookup_nil {P : Program} {t kt vt : TypeId} {kk : IntKind} {z : AVal} {η : AHeap} (ht : P.underlying t = some (.map kt vt)) (hk : P.underlying kt = some (.int kk)) (hz : azv P vt = some z) (k : Int) :
    alookup P t .nilm (.int .i64 k) false η = some z := by
  unfold alookup
  simp [ht, hk, akOK, hz, afind]
theorem ent_set (es : List (Int × AVal)) (i : Nat) (k : Int) (v : AVal) : ent (es.set i (k, v)) = (ent es).set i (.int .i64 k, v) := by simp [ent, List.map_set]
theorem ent_erase (es : List (Int × AVal)) (i : Nat) : ent (es.eraseIdx i) = (ent es).eraseIdx i := by
  refine List.ext_getElem? fun j => ?_
  rw [ent_get, List.getElem?_eraseIdx, List.getElem?_eraseIdx]
  split <;> rw [ent_get]
theorem ainsert_ent {P : Program} {t kt vt : TypeId} {kk : IntKind} {η : AHeap} {r : Nat} {es : List (Int × AVal)} (ht : P.underlying t = some (.map kt vt)) (hk : P.underlying kt = some (.int kk)) (hr : η r = some (.map (ent es))) (k : Int) (v : AVal) :
    ainsert P t (.mp r) (.int .i64 k) v η = some (upd η r (some (.map (ent (insE es k v))))) := by
  unfold ainsert
  simp only [ht, hk, hr, akOK, if_true]
  rw [afind_ent]
  unfold insE
  cases h : es.findIdx? (hasK k) with
  | none => simp [ent]
  | some j =>
    have hj := (List.findIdx?_eq_some_iff_getElem.1 h).1
    simp [hj, ent_set]
theorem delE_idx (es : List (Int × AVal)) (k : Int) : delE es k = match es.findIdx? (hasK k) with
    | some j => es.eraseIdx j
    | none => es := by
  unfold delE
  induction es with
  | nil => rfl
  | cons x es ih =>
    rw [List.eraseP_cons, List.findIdx?_cons]
    cases h : hasK k x with
    | true => rfl
    | false =>
      simp only [ih, Bool.false_eq_true, if_false]
      cases es.findIdx? (hasK k) with
      | none => rfl
      | some j => simp
theorem adelete_ent {P : Program} {t kt vt : TypeId} {kk : IntKind} {η : AHeap} {r : Nat} {es : List (Int × AVal)} (ht : P.underlying t = some (.map kt vt)) (hk : P.underlying kt = some (.int kk)) (hr : η r = some (.map (ent es))) (k : Int) :
    adelete P t (.mp r) (.int .i64 k) η = some (upd η r (some (.map (ent (delE es k))))) := by
  unfold adelete
  simp only [ht, hk, hr, akOK, if_true]
  rw [afind_ent, delE_idx]
  cases h : es.findIdx? (hasK k) with
  | none => simp [upd_same hr]
  | some j =>
    have hj := (List.findIdx?_eq_some_iff_getElem.1 h).1
    simp [hj, ent_erase]
theorem adelete_nil {P : Program} {t kt vt : TypeId} {kk : IntKind} {η : AHeap} (ht : P.underlying t = some (.map kt vt)) (hk : P.underlying kt = some (.int kk)) (k : Int) : adelete P t .nilm (.int .i64 k) η = some η := by
  unfold adelete
  simp [ht, hk, akOK]

/-- the keys of a map, sorted: of one that is there -/
theorem keys_mp_ac {η : AHeap} {n : Nat} (v : AVal) (hv : v.sc = true) (ha : acells v = [v]) : AC Tryz.prog 261 [v] η n (fun u η' n' => u = .func 270 [] [.ptr n 0 0] ∧ η' = upd η n (some (.cells 1 [[v]])) ∧ n' = n + 1) := by
  refine AC.enter Tryz.func261 rfl Tryz.ntmps261 (by simp) ?_
  simp [ha, hv]
  exact resK.rt ⟨rfl, rfl, rfl⟩
end Go.Proofs.YtbomkomipaipmaaGreat
namespace Go.Proofs.YtbomkomipaipmaaGreat
set_option maxRecDepth 100000

/-- an entry of the web: whose, its map's number, with whom -/
structure LE where
  key : Int
  nm : Nat
  to : List Int
def inner (l : List Int) : List (Int × AVal) := l.map fun b => (b, .int .i64 1)
def outer (W : List LE) : List (Int × AVal) := W.map fun e => (e.key, .mp e.nm)
def lkOf (W : List LE) (a : Int) : Option LE := W.find? fun e => e.key == a
def toW (W : List LE) (a : Int) : List Int := match lkOf W a with
  | some e => e.to
  | none => []
structure WebAt (η : AHeap) (x r : Nat) (W : List LE) : Prop where
  top : η x = some (.cells 1 [[.mp r]])
  map : η r = some (.map (ent (outer W)))
  inn : ∀ e ∈ W, η e.nm = some (.map (ent (inner e.to)))
  dis : (r :: W.map (·.nm)).Nodup
  len : ∀ e ∈ W, e.to.length ≤ 8
theorem lookE_outer (W : List LE) (a : Int) : lookE (outer W) a = (lkOf W a).map fun e => .mp e.nm := by
  unfold lookE outer lkOf
  rw [List.find?_map]
  cases h : W.find? (hasK a ∘ fun e => (e.key, AVal.mp e.nm)) with
  | none =>
    have : W.find? (fun e => e.key == a) = none := by rw [← h]; rfl
    rw [this]; rfl
  | some e =>
    have : W.find? (fun e => e.key == a) = some e := by rw [← h]; rfl
    rw [this]; rfl
theorem lookE_inner (l : List Int) (b : Int) : lookE (inner l) b = if b ∈ l then some (.int .i64 1) else none := by
  unfold lookE inner
  rw [List.find?_map]
  by_cases h : b ∈ l
  · rw [if_pos h]
    cases hf : l.find? (hasK b ∘ fun b => (b, AVal.int .i64 1)) with
    | none =>
      have := List.find?_eq_none.1 hf b h
      simp [hasK] at this
    | some c => rfl
  · rw [if_neg h]
    cases hf : l.find? (hasK b ∘ fun b => (b, AVal.int .i64 1)) with
    | none => rfl
    | some c =>
      have h1 := List.find?_some hf
      have h2 := List.mem_of_find?_eq_some hf
      simp [hasK] at h1
      exact absurd (h1 ▸ h2) h
theorem lkOf_mem {W : List LE} {a : Int} {e : LE} (h : lkOf W a = some e) : e ∈ W ∧ e.key = a := by
  refine ⟨List.mem_of_find?_eq_some h, ?_⟩
  have := List.find?_some h
  simpa using this
theorem inner_keys (l : List Int) : (inner l).map (·.1) = l := by
  unfold inner; rw [List.map_map]; exact List.map_id _
@[simp] theorem inner_len (l : List Int) : (inner l).length = l.length := by simp [inner]
theorem sorted_congr {l l' : List Int} (h : l.Perm l') : sorted l = sorted l' :=
  ((sorted_perm l).trans (h.trans (sorted_perm l').symm)).eq_of_pairwise (fun a b _ _ h1 h2 => by omega) (sorted_pair l) (sorted_pair l')
theorem hideN_nil (η : AHeap) : hideN [] η = η := by funext r; simp [hideN]
theorem rangeK.nil {P : Program} {t a b : TypeId} {K : AVal → AHeap → Nat → Prop} {g : Tag K} {η : AHeap} {n : Nat} (ht : P.underlying t = some (.map a b))
    (h : K (.ptr n 0 0) (upd η n (some (.iter none []))) (n + 1)) : rangeK P t .nilm η n K g := by
  unfold rangeK arange
  simp only [ht]
  exact h
theorem nextK.nil {K : AVal → AHeap → Nat → Prop} {g : Tag K} {η : AHeap} {n q : Nat} {seen : List Nat} (hq : η q = some (.iter none seen)) (h : K (.tup [.bool false]) η n) : nextK (.ptr q 0 0) false η n K g := by
  unfold nextK anext
  refine ⟨rfl, ?_⟩
  simp only [hq]
  exact h
set_option maxHeartbeats 1000000 in
theorem keys_iter0 {c : Nat} : IterS Tryz.prog 270 [.ptr c 0 0] (fun xs => xs = []) (fun _ _ => False) [] (fun η => η c = some (.cells 1 [[.nilm]])) := by
  intro y η n J hup hD h0 hY
  refine AC.fresh fun hf => ?_; refine AC.enter Tryz.func270 rfl Tryz.ntmps270 (by simp) ?_
  have hc : c < n := by
    rcases Nat.lt_or_ge c n with h | h
    · exact h
    · rw [hf c h] at hD; cases hD
  simp [aload, apart, hD]
  refine rangeK.nil Tryz.underlying292 ?_
  simp
  refine loopK.inv [3, 6, 7, 8, 9, 10, 11, 12, 13] (fun _ : Unit => True) (fun _ => []) (fun _ => upd η n (some (.iter none []))) (fun _ => n + 1) (fun _ => 0) () trivial (by simp) (AHeap.le_rfl _) (Nat.le_refl _) ?_
  intro _ _
  simp
  refine nextK.nil (upd_eq _ _ _) ?_
  simp
  refine resK.rt ⟨[], rfl, ?_, by rw [upd_ne (by omega)]; exact hD⟩
  rw [hideN_nil] at h0 ⊢
  refine hup _ _ _ _ _ h0 (fun q o hq => ?_) (Nat.le_succ _)
  have : q ≠ n := fun e => by rw [e, hf n (Nat.le_refl _)] at hq; cases hq
  rw [upd_ne this]; exact hq
/-- a sorted row of numbers, put back as it came -/
theorem NewI.fl {η : AHeap} {n : Nat} {v : AVal} {l : List Int} (h : NewI η n v l) : FL n η v l := by
  rcases h with ⟨rfl, rfl⟩ | ⟨g, rfl, h1, h2⟩
  · exact Or.inr (Or.inl ⟨rfl, rfl⟩)
  · exact FL.own h1 rfl h2
def restr (n : Nat) (η η' : AHeap) : AHeap := fun q => if q < n then η q else η' q
set_option maxHeartbeats 1000000 in
theorem keysOf_ac {η : AHeap} {n r : Nat} {l : List Int} (hr : η r = some (.map (ent (inner l)))) (hl : l.length < 1000) (hf : ∀ k, n ≤ k → η k = none) :
    AC Tryz.prog 260 [.func 270 [] [.ptr n 0 0]] (upd η n (some (.cells 1 [[.mp r]]))) (n + 1) (fun v η' n' => FL n η' v (sorted l) ∧ (restr n η η').le η' ∧ n ≤ n') := by
  have hrn : r < n := by
    rcases Nat.lt_or_ge r n with h | h
    · exact h
    · rw [hf r h] at hr; cases hr
  refine (sortedI_ac (R := [r, n]) (D := KeysD n r (inner l)) (by simp) (keys_iter (c := n) (r := r) (es := inner l)) (fun pre x ⟨_, k, _, e⟩ => ⟨k, e⟩) (fun pre x ⟨h, _⟩ => by simp at h; omega) (fun q hq => by simp at hq; omega)
    (fun q o hq η' ⟨h1, h2, h3⟩ => ⟨h1, by rw [upd_ne (by omega)]; exact h2, by rw [upd_ne (by omega)]; exact h3⟩)
    ⟨by omega, upd_eq _ _ _, by rw [upd_ne (by omega)]; exact hr⟩ (fun xs ⟨ys, h1, h2⟩ => ?_)).mono ?_
  · have e : xs = ys := by
      have := congrArg List.length h2
      unfold rowI at h2
      exact (List.map_inj_right (fun x y h => by simpa using h)).1 h2
    rw [e, h1.length_eq]; simp; omega
  · intro v η' n' ⟨xs, ⟨ys, h1, h2⟩, h3, ⟨d1, d2, d3⟩, h5, h6⟩
    have e : xs = ys := (List.map_inj_right (fun x y h => by simpa using h)).1 h2
    rw [inner_keys] at h1
    subst e
    rw [sorted_congr h1] at h3
    refine ⟨?_, fun q o hq => ?_, by omega⟩
    · rcases h3 with ⟨e1, e2⟩ | ⟨g, e1, e2, e3⟩
      · exact Or.inr (Or.inl ⟨e1, e2⟩)
      · rw [e1]; exact FL.own (by omega) rfl e3
    · unfold restr at hq
      split at hq
      · rename_i hqn
        by_cases e : q = r
        · subst e; rw [hr] at hq; rw [d3]; exact hq
        · have := h5 q o (by rw [hideN_out (by simp; omega), upd_ne (by omega)]; exact hq)
          exact hideN_le _ _ _ _ this
      · exact hq
set_option maxHeartbeats 1000000 in
theorem keysOf0_ac {η : AHeap} {n : Nat} (_ : ∀ k, n ≤ k → η k = none) :
    AC Tryz.prog 260 [.func 270 [] [.ptr n 0 0]] (upd η n (some (.cells 1 [[.nilm]]))) (n + 1) (fun v η' n' => FL n η' v [] ∧ (restr n η η').le η' ∧ n ≤ n') := by
  refine (sortedI_ac (R := []) (D := fun η => η n = some (.cells 1 [[.nilm]])) (by simp) (keys_iter0 (c := n)) (fun _ _ h => h.elim) (fun _ _ h => h.elim) (fun q hq => by simp at hq)
    (fun q o hq η' h => by rw [upd_ne (by omega)]; exact h) (upd_eq _ _ _) (fun xs h => by
      have : xs = [] := by unfold rowI at h; simpa using h
      rw [this]; simp)).mono ?_
  intro v η' n' ⟨xs, h2, h3, h4, h5, h6⟩
  have e : xs = [] := by unfold rowI at h2; simpa using h2
  subst e
  rw [hideN_nil, hideN_nil] at h5
  refine ⟨?_, fun q o hq => ?_, by omega⟩
  · rcases h3 with ⟨e1, e2⟩ | ⟨g, e1, e2, e3⟩
    · exact Or.inr (Or.inl ⟨e1, rfl⟩)
    · rw [e1]
      have e0 : sorted [] = [] := by simp [sorted]
      rw [e0] at e3 ⊢
      exact FL.own (by omega) rfl e3
  · unfold restr at hq
    split at hq
    · exact h5 q o (by rw [upd_ne (by omega)]; exact hq)
    · exact hq
end Go.Proofs.YtbomkomipaipmaaGreat
namespace Go.Proofs.YtbomkomipaipmaaGreat
set_option maxRecDepth 100000

theorem azvWM : azv Tryz.prog 292 = some .nilm := by kernel_rfl
theorem azvWI : azv Tryz.prog 3 = some (.int .i64 0) := by kernel_rfl
def wv (W : List LE) (a : Int) : AVal := match lkOf W a with
  | some e => .mp e.nm
  | none => .nilm
theorem lookO {η : AHeap} {r : Nat} {W : List LE} (hr : η r = some (.map (ent (outer W)))) (a : Int) : alookup Tryz.prog 173 (.mp r) (.int .i64 a) false η = some (wv W a) := by
  rw [alookup_ent Tryz.underlying173 Tryz.underlying2 azvWM hr, lookE_outer]
  unfold wv
  cases lkOf W a <;> rfl
theorem lookI {η : AHeap} {r : Nat} {l : List Int} (hr : η r = some (.map (ent (inner l)))) (b : Int) : alookup Tryz.prog 292 (.mp r) (.int .i64 b) false η = some (.int .i64 (if b ∈ l then 1 else 0)) := by
  rw [alookup_ent Tryz.underlying292 Tryz.underlying2 azvWI hr, lookE_inner]
  split <;> rfl
theorem lookI0 {η : AHeap} (b : Int) : alookup Tryz.prog 292 .nilm (.int .i64 b) false η = some (.int .i64 0) :=
  alookup_nil Tryz.underlying292 Tryz.underlying2 azvWI b
theorem lnew_ac {η : AHeap} {n : Nat} : AC Tryz.prog 42 [] η n (fun v η' n' => v = .ptr (n + 1) 0 0 ∧ η' = upd (upd η n (some (.map []))) (n + 1) (some (.cells 1 [[.mp n]])) ∧ n' = n + 2) := by
  refine AC.enter Tryz.func42 rfl Tryz.ntmps42 (by simp) ?_
  simp [abuild, aplace, afillP]
  exact resK.rt ⟨rfl, rfl, rfl⟩
set_option maxHeartbeats 1000000 in
theorem linked_ac {η : AHeap} {n x r : Nat} {W : List LE} (h : WebAt η x r W) (a b : Int) : AC Tryz.prog 229 [.ptr x 0 0, .int .i64 a, .int .i64 b] η n (Rt (.bool (decide (b ∈ toW W a))) η n) := by
  obtain ⟨h1, h2, h3, h4, h5⟩ := h
  have e1 := lookO h2 a
  unfold toW
  cases hl : lkOf W a with
  | none =>
    simp only [wv, hl] at e1
    have e2 := fun b => lookI0 (η := η) b
    refine AC.enter Tryz.func229 rfl Tryz.ntmps229 (by simp) ?_
    simp [aload, apart, afield, h1, e1, e2]
    exact resK.rt ⟨rfl, rfl, rfl⟩
  | some e =>
    simp only [wv, hl] at e1
    have e2 := lookI (h3 e (lkOf_mem hl).1) b
    refine AC.enter Tryz.func229 rfl Tryz.ntmps229 (by simp) ?_
    simp [aload, apart, afield, h1, e1, e2]
    refine resK.rt ⟨?_, rfl, rfl⟩
    by_cases hb : b ∈ e.to <;> simp [hb]
set_option maxHeartbeats 1000000 in
theorem of_ac {η : AHeap} {n x r : Nat} {W : List LE} (h : WebAt η x r W) (a : Int) : AC Tryz.prog 259 [.ptr x 0 0, .int .i64 a] η n (Rt (.rs 1 (ints (sorted (toW W a)))) η n) := by
  obtain ⟨h1, h2, h3, h4, h5⟩ := h
  have e1 := lookO h2 a
  unfold toW
  cases hl : lkOf W a with
  | none =>
    simp only [wv, hl] at e1
    refine AC.gl (by simp) ?_
    refine AC.fresh fun hf => ?_; refine AC.enter Tryz.func259 rfl Tryz.ntmps259 (by simp) ?_
    simp [aload, apart, afield, h1, e1]
    refine ACK.use (keys_mp_ac .nilm rfl rfl) ?_
    intro v η1 n1 ⟨d1, d2, d3⟩
    subst d1 d2 d3
    simp
    refine ACK.use (keysOf0_ac hf) ?_
    intro v η1 n1 ⟨d1, d2, d3⟩
    simp
    refine resK.of (η' := restr n η η1) d2 _ (Nat.le_refl _) ⟨?_, fun q hq => by simp [restr, hq]⟩
    rcases d1 with e1 | ⟨e1, e2⟩ | ⟨g, o, I, J, c1, c2, c3, c4⟩
    · exact Or.inl (by simpa [sorted] using e1)
    · exact Or.inr (Or.inl ⟨e1, by simp [sorted]⟩)
    · exact Or.inr (Or.inr ⟨g, o, I, J, c1, by simpa [sorted] using c2, c3, by
        have : ¬ g < n := by omega
        simp [restr, this]; simpa [sorted] using c4⟩)
  | some e =>
    simp only [wv, hl] at e1
    have hm := (lkOf_mem hl).1
    have hle := h5 e hm
    refine AC.gl (by simp; unfold lenMax; omega) ?_
    refine AC.fresh fun hf => ?_; refine AC.enter Tryz.func259 rfl Tryz.ntmps259 (by simp) ?_
    simp [aload, apart, afield, h1, e1]
    refine ACK.use (keys_mp_ac (.mp e.nm) rfl rfl) ?_
    intro v η1 n1 ⟨d1, d2, d3⟩
    subst d1 d2 d3
    simp
    refine ACK.use (keysOf_ac (h3 e hm) (by omega) hf) ?_
    intro v η1 n1 ⟨d1, d2, d3⟩
    simp
    refine resK.of (η' := restr n η η1) d2 _ (Nat.le_refl _) ⟨?_, fun q hq => by simp [restr, hq]⟩
    rcases d1 with e1 | ⟨e1, e2⟩ | ⟨g, o, I, J, c1, c2, c3, c4⟩
    · exact Or.inl e1
    · exact Or.inr (Or.inl ⟨e1, e2⟩)
    · exact Or.inr (Or.inr ⟨g, o, I, J, c1, c2, c3, by
        have : ¬ g < n := by omega
        simp [restr, this, c4]⟩)
end Go.Proofs.YtbomkomipaipmaaGreat
namespace Go.Proofs.YtbomkomipaipmaaGreat
set_option maxRecDepth 100000

section
variable {P : Program} {s : AState} {K : AState → Prop} {gK : Tag K} {d : Option Tmp} {ty : TypeId} {ps : String} {af : Array Edge} {gd : Option (Nat × Bool)}
@[simp] theorem st_mapUpdate (t : TypeId) (m k x : Operand) (g : Tag (⟨d, .mapUpdate t m k x, ty, ps, af, gd⟩ : Oper)) : stepK P ⟨d, .mapUpdate t m k x, ty, ps, af, gd⟩ s K g gK = heapK (ainsert P t (aev s.fr m) (aev s.fr k) (aev s.fr x) s.η) (fun η' => putK ⟨s.fr, s.nt, η', s.n⟩ d .undef K .mk) .mk := by
  unfold stepK putK astep aval heapK
  simp only [achg, ayld]
  cases ainsert P t (aev s.fr m) (aev s.fr k) (aev s.fr x) s.η <;> rfl
end

/-- what others own stays -/
def KeepW (n : Nat) (T : List Nat) (η η' : AHeap) : Prop := ∀ q, q < n → ¬ q ∈ T → η' q = η q
theorem KeepW.refl (n : Nat) (T : List Nat) (η : AHeap) : KeepW n T η η := fun _ _ _ => rfl
def joinL (l : List Int) (b : Int) : List Int := if b ∈ l then l else l ++ [b]
def setW (W : List LE) (a : Int) (f : List Int → List Int) : List LE := W.map fun e => if e.key = a then ⟨e.key, e.nm, f e.to⟩ else e
def joinW (m : Nat) (W : List LE) (a b : Int) : List LE := match lkOf W a with
  | some _ => setW W a fun l => joinL l b
  | none => W ++ [⟨a, m, [b]⟩]
theorem insE_inner (l : List Int) (b : Int) : insE (inner l) b (.int .i64 1) = inner (joinL l b) := by
  unfold insE joinL
  cases h : (inner l).findIdx? (hasK b) with
  | none =>
    have : ¬ b ∈ l := fun hb => by
      have := List.findIdx?_eq_none_iff.1 h (b, .int .i64 1) (List.mem_map.2 ⟨b, hb, rfl⟩)
      simp [hasK] at this
    rw [if_neg this]; simp [inner]
  | some i =>
    obtain ⟨h1, h2, _⟩ := List.findIdx?_eq_some_iff_getElem.1 h
    have h1' : i < l.length := by simpa [inner] using h1
    have h2' : l[i] = b := by simpa [inner, hasK] using h2
    rw [if_pos (h2' ▸ List.getElem_mem h1')]
    refine List.ext_getElem (by simp) fun j k1 k2 => ?_
    rw [List.getElem_set]
    split
    · rename_i e; subst e; simp [inner, h2']
    · rfl
theorem setW_keys (W : List LE) (a : Int) (f : List Int → List Int) : (setW W a f).map (·.key) = W.map (·.key) := by
  unfold setW
  rw [List.map_map]
  exact List.map_congr_left fun e _ => by simp only [Function.comp]; split <;> rfl
theorem setW_nms (W : List LE) (a : Int) (f : List Int → List Int) : (setW W a f).map (·.nm) = W.map (·.nm) := by
  unfold setW
  rw [List.map_map]
  exact List.map_congr_left fun e _ => by simp only [Function.comp]; split <;> rfl
theorem setW_outer (W : List LE) (a : Int) (f : List Int → List Int) : outer (setW W a f) = outer W := by
  unfold outer setW
  rw [List.map_map]
  exact List.map_congr_left fun e _ => by simp only [Function.comp]; split <;> rfl
theorem lkOf_setW (W : List LE) (a c : Int) (f : List Int → List Int) : lkOf (setW W a f) c = (lkOf W c).map fun e => if c = a then ⟨e.key, e.nm, f e.to⟩ else e := by
  unfold lkOf setW
  rw [List.find?_map]
  have hp : ((fun e : LE => e.key == c) ∘ fun e : LE => if e.key = a then (⟨e.key, e.nm, f e.to⟩ : LE) else e) = fun e => e.key == c := by
    funext e; simp only [Function.comp]; split <;> rfl
  rw [hp]
  cases h : W.find? (fun e => e.key == c) with
  | none => rfl
  | some e =>
    have hk : e.key = c := by simpa using List.find?_some h
    simp [hk]
theorem toW_setW (W : List LE) (a c : Int) (f : List Int → List Int) (hf : f [] = []) : toW (setW W a f) c = if c = a then f (toW W c) else toW W c := by
  unfold toW
  rw [lkOf_setW]
  cases h : lkOf W c with
  | none => simp [hf]
  | some e => simp only [Option.map_some]; split <;> rfl
theorem WebAt.xr {η : AHeap} {x r : Nat} {W : List LE} (h : WebAt η x r W) : x ≠ r := fun e => by have := h.top; rw [e, h.map] at this; cases this
theorem WebAt.xn {η : AHeap} {x r : Nat} {W : List LE} (h : WebAt η x r W) {e : LE} (he : e ∈ W) : x ≠ e.nm := fun k => by have := h.top; rw [k, h.inn e he] at this; cases this
theorem WebAt.rn {η : AHeap} {x r : Nat} {W : List LE} (h : WebAt η x r W) {e : LE} (he : e ∈ W) : r ≠ e.nm := fun k => by
  have := (List.nodup_cons.1 h.dis).1
  exact this (k ▸ List.mem_map.2 ⟨e, he, rfl⟩)
theorem WebAt.nn {η : AHeap} {x r : Nat} {W : List LE} (h : WebAt η x r W) {e e' : LE} (he : e ∈ W) (he' : e' ∈ W) (k : e.nm = e'.nm) : e = e' := by
  obtain ⟨i, hi, rfl⟩ := List.getElem_of_mem he
  obtain ⟨j, hj, rfl⟩ := List.getElem_of_mem he'
  have := (List.getElem_inj (h₀ := by simpa using hi) (h₁ := by simpa using hj) (List.nodup_cons.1 h.dis).2 (i := i) (j := j)).1 (by simpa using k)
  subst this; rfl
theorem lkOf_eq {W : List LE} (hk : (W.map (·.key)).Nodup) {e : LE} (he : e ∈ W) : lkOf W e.key = some e := by
  cases h : lkOf W e.key with
  | none => have := List.find?_eq_none.1 h e he; simp at this
  | some e' =>
    obtain ⟨h1, h2⟩ := lkOf_mem h
    obtain ⟨i, hi, rfl⟩ := List.getElem_of_mem he
    obtain ⟨j, hj, rfl⟩ := List.getElem_of_mem h1
    have := (List.getElem_inj (h₀ := by simpa using hj) (h₁ := by simpa using hi) hk (i := j) (j := i)).1 (by simpa using h2)
    subst this; rfl
/-- one entry's map is written anew -/
theorem WebAt.set {η : AHeap} {x r : Nat} {W : List LE} (h : WebAt η x r W) (hk : (W.map (·.key)).Nodup) {a : Int} {e : LE} (he : lkOf W a = some e) (f : List Int → List Int) (hf : (f e.to).length ≤ 8) :
    WebAt (upd η e.nm (some (.map (ent (inner (f e.to)))))) x r (setW W a f) := by
  obtain ⟨hm, hka⟩ := lkOf_mem he
  refine ⟨by rw [upd_ne (h.xn hm)]; exact h.top, by rw [upd_ne (h.rn hm), setW_outer]; exact h.map, fun e' he' => ?_, by rw [setW_nms]; exact h.dis, fun e' he' => ?_⟩
  all_goals
    obtain ⟨e0, h0, rfl⟩ := List.mem_map.1 he'
    by_cases hc : e0.key = a
    · have e1 : e0 = e := by
        have := lkOf_eq hk h0
        rw [hc, he] at this; cases this; rfl
      subst e1
      rw [if_pos hc]
      first | exact upd_eq _ _ _ | exact hf
    · rw [if_neg hc]
      have hne : e0.nm ≠ e.nm := fun k => by
        have := h.nn h0 hm k; subst this; exact hc hka
      first | (rw [upd_ne hne]; exact h.inn e0 h0) | exact h.len e0 h0
/-- an entry is put in -/
theorem WebAt.add {η : AHeap} {x r : Nat} {W : List LE} (h : WebAt η x r W) {a : Int} {n : Nat} (hn : η n = none) (l : List Int) (hl : l.length ≤ 8) :
    WebAt (upd (upd η n (some (.map (ent (inner l))))) r (some (.map (ent (outer W ++ [(a, .mp n)]))))) x r (W ++ [⟨a, n, l⟩]) := by
  have hxn : x ≠ n := fun e => by have := h.top; rw [e, hn] at this; cases this
  have hrn : r ≠ n := fun e => by have := h.map; rw [e, hn] at this; cases this
  have hen : ∀ e ∈ W, e.nm ≠ n := fun e he k => by have := h.inn e he; rw [k, hn] at this; cases this
  refine ⟨by rw [upd_ne h.xr, upd_ne hxn]; exact h.top, by rw [upd_eq]; simp [outer], fun e he => ?_, ?_, fun e he => ?_⟩
  · rcases List.mem_append.1 he with he | he
    · rw [upd_ne (h.rn he).symm, upd_ne (hen e he)]; exact h.inn e he
    · simp at he; subst he
      simp only
      rw [upd_ne hrn.symm, upd_eq]
  · have := h.dis
    rw [List.nodup_cons] at this ⊢
    refine ⟨by simp; exact ⟨fun e he k => h.rn he k.symm, hrn⟩, ?_⟩
    rw [List.map_append, List.nodup_append]
    exact ⟨this.2, by simp, fun a ha b hb k => by
      simp at hb; subst hb
      obtain ⟨e, he, rfl⟩ := List.mem_map.1 ha
      exact hen e he k⟩
  · rcases List.mem_append.1 he with he | he
    · exact h.len e he
    · simp at he; subst he; exact hl
theorem insE_outer {W : List LE} {a : Int} (h : lkOf W a = none) (v : AVal) : insE (outer W) a v = outer W ++ [(a, v)] := by
  unfold insE
  have : (outer W).findIdx? (hasK a) = none := by
    rw [List.findIdx?_eq_none_iff]
    intro x hx
    obtain ⟨e, he, rfl⟩ := List.mem_map.1 hx
    have := List.find?_eq_none.1 h e he
    simpa [hasK] using this
  rw [this]
theorem insI {η : AHeap} {r : Nat} {l : List Int} (hr : η r = some (.map (ent (inner l)))) (b : Int) : ainsert Tryz.prog 292 (.mp r) (.int .i64 b) (.int .i64 1) η = some (upd η r (some (.map (ent (inner (joinL l b)))))) := by
  rw [ainsert_ent Tryz.underlying292 Tryz.underlying2 hr, insE_inner]
theorem lkOf_add (W : List LE) (a : Int) (n : Nat) (l : List Int) (h : lkOf W a = none) : lkOf (W ++ [⟨a, n, l⟩]) a = some ⟨a, n, l⟩ := by
  unfold lkOf at h ⊢
  rw [List.find?_append, h]; simp
set_option maxHeartbeats 1000000 in
theorem join_ac {η : AHeap} {n x r : Nat} {W : List LE} (h : WebAt η x r W) (hk : (W.map (·.key)).Nodup) (a b : Int) (h8 : (joinL (toW W a) b).length ≤ 8) :
    AC Tryz.prog 230 [.ptr x 0 0, .int .i64 a, .int .i64 b] η n (fun _ η' n' => WebAt η' x r (joinW n W a b) ∧ KeepW n (r :: W.map (·.nm)) η η' ∧ n ≤ n') := by
  have e1 := lookO h.map a
  unfold joinW
  cases hl : lkOf W a with
  | some e =>
    simp only [wv, hl] at e1
    have hm := (lkOf_mem hl).1
    have e2 := insI (h.inn e hm) b
    have ht := h.top
    refine AC.enter Tryz.func230 rfl Tryz.ntmps230 (by simp) ?_
    simp [aload, apart, afield, ht, e1, e2]
    refine resK.rt ⟨h.set hk hl (fun l => joinL l b) (by unfold toW at h8; rw [hl] at h8; exact h8), fun q hq hn => ?_, Nat.le_refl _⟩
    rw [upd_ne fun k => hn (by rw [k]; simp; exact Or.inr ⟨e, hm, rfl⟩)]
  | none =>
    simp only [wv, hl] at e1
    have ht := h.top
    refine AC.fresh fun hf => ?_; refine AC.enter Tryz.func230 rfl Tryz.ntmps230 (by simp) ?_
    have hn := hf n (Nat.le_refl _)
    have hW := h.add (a := a) hn [b] (by simp)
    have hxn : x ≠ n := fun e => by rw [e, hn] at ht; cases ht
    have hrn : r ≠ n := fun e => by have := h.map; rw [e, hn] at this; cases this
    have e3 : ainsert Tryz.prog 173 (.mp r) (.int .i64 a) (.mp n) (upd η n (some (.map []))) = some (upd (upd η n (some (.map []))) r (some (.map (ent (outer W ++ [(a, .mp n)]))))) := by
      rw [ainsert_ent Tryz.underlying173 Tryz.underlying2 (es := outer W) (by rw [upd_ne hrn]; exact h.map), insE_outer hl]
    have e0 : ent (inner []) = [] := rfl
    have hmid := h.add (a := a) hn [] (by simp)
    rw [e0] at hmid
    have e4 := lookO hmid.map a
    simp only [wv, lkOf_add _ _ _ _ hl] at e4
    have e5 := insI (hmid.inn ⟨a, n, []⟩ (by simp)) b
    have ht2 := hmid.top
    simp [aload, apart, afield, ht, e1, e3, e4, e5, ht2]
    have e6 : ∀ A B C, upd (upd (upd η n A) r B) n C = upd (upd η n C) r B := fun A B C => by
      funext q
      by_cases h1 : q = n
      · subst h1; rw [upd_eq, upd_ne hrn.symm, upd_eq]
      · by_cases h2 : q = r
        · subst h2; rw [upd_ne h1, upd_eq, upd_eq]
        · rw [upd_ne h1, upd_ne h2, upd_ne h1, upd_ne h2, upd_ne h1]
    refine resK.rt ⟨?_, fun q hq hT => ?_, by omega⟩
    · rw [e6]
      have : joinL [] b = [b] := by simp [joinL]
      rw [this]
      exact hW
    · rw [e6, upd_ne (fun k => hT (by rw [k]; simp)), upd_ne (by omega)]

/-- the web with a link more -/
def linkR (n m : Nat) (W : List LE) (a b : Int) : AVal × List LE :=
  if a = b ∨ b ∈ toW W a then (.int .i64 0, W)
  else if (toW W a).length = 8 ∨ (toW W b).length = 8 then (.int .i64 7, W)
  else (.int .i64 0, joinW m (joinW n W a b) b a)
theorem toW_len {η : AHeap} {x r : Nat} {W : List LE} (h : WebAt η x r W) (a : Int) : (toW W a).length ≤ 8 := by
  unfold toW
  cases hl : lkOf W a with
  | none => simp
  | some e => exact h.len e (lkOf_mem hl).1
theorem joinW_key {W : List LE} (hk : (W.map (·.key)).Nodup) (n : Nat) (a b : Int) : ((joinW n W a b).map (·.key)).Nodup := by
  unfold joinW
  cases hl : lkOf W a with
  | some e => simp only; rw [setW_keys]; exact hk
  | none =>
    simp only
    rw [List.map_append, List.nodup_append]
    refine ⟨hk, by simp, fun c hc d hd k => ?_⟩
    simp at hd; subst hd
    obtain ⟨e, he, rfl⟩ := List.mem_map.1 hc
    have := List.find?_eq_none.1 hl e he
    simp [k] at this
theorem lkOf_app (W : List LE) (a c : Int) (n : Nat) (l : List Int) : lkOf (W ++ [⟨a, n, l⟩]) c = match lkOf W c with
    | some e => some e
    | none => if a = c then some ⟨a, n, l⟩ else none := by
  unfold lkOf
  rw [List.find?_append]
  cases W.find? (fun e => e.key == c) with
  | some e => rfl
  | none =>
    simp only [Option.none_or, List.find?_cons, List.find?_nil]
    by_cases h : a = c
    · simp [h]
    · rw [if_neg h, show (a == c) = false by simp [h]]
theorem toW_join (W : List LE) (n : Nat) (a b c : Int) : toW (joinW n W a b) c = if c = a then joinL (toW W a) b else toW W c := by
  unfold joinW toW
  cases hl : lkOf W a with
  | some e =>
    simp only
    rw [lkOf_setW]
    by_cases h : c = a
    · subst h; rw [hl]; simp
    · rw [if_neg h]
      cases lkOf W c <;> simp [h]
  | none =>
    simp only
    rw [lkOf_app]
    by_cases h : c = a
    · subst h; rw [hl]; simp [joinL]
    · rw [if_neg h]
      cases lkOf W c with
      | some e => rfl
      | none => simp only; rw [if_neg fun k => h (Eq.symm k)]
theorem joinW_nms {W : List LE} {n : Nat} {a b : Int} {q : Nat} (h : q ∈ (joinW n W a b).map (·.nm)) : q ∈ W.map (·.nm) ∨ q = n := by
  unfold joinW at h
  cases hl : lkOf W a with
  | some e => rw [hl] at h; simp only [setW_nms] at h; exact Or.inl h
  | none => rw [hl] at h; simp at h; rcases h with h | h
            · exact Or.inl (by simpa using h)
            · exact Or.inr h
theorem lenM {η : AHeap} {r : Nat} {es : List (Int × AVal)} (hr : η r = some (.map (ent es))) : alenT Tryz.prog 292 (.mp r) η = some (es.length : Int) := by
  unfold alenT
  rw [Tryz.underlying292]
  simp [hr]
theorem lenM0 {η : AHeap} : alenT Tryz.prog 292 .nilm η = some 0 := by
  unfold alenT
  rw [Tryz.underlying292]
set_option maxHeartbeats 1000000 in
theorem link_ac {η : AHeap} {n x r : Nat} {W : List LE} (h : WebAt η x r W) (hk : (W.map (·.key)).Nodup) (a b : Int) :
    AC Tryz.prog 162 [.ptr x 0 0, .int .i64 a, .int .i64 b] η n (fun v η' n' => ∃ m, n ≤ m ∧ v = (linkR n m W a b).1 ∧ WebAt η' x r (linkR n m W a b).2 ∧ KeepW n (r :: W.map (·.nm)) η η' ∧ n ≤ n') := by
  have ht := h.top
  have la : ∀ c, alenT Tryz.prog 292 (wv W c) η = some ((toW W c).length : Int) := fun c => by
    unfold toW wv
    cases hl : lkOf W c with
    | none => exact lenM0
    | some e => simp only; rw [lenM (h.inn e (lkOf_mem hl).1)]; simp
  have e1 := lookO h.map a
  have e2 := lookO h.map b
  have l1 := la a
  have l2 := la b
  have z1 := toW_len h a
  have z2 := toW_len h b
  by_cases hab : a = b
  · refine AC.fresh fun hf => ?_; refine AC.enter Tryz.func162 rfl Tryz.ntmps162 (by simp) ?_
    simp [hab]
    refine resK.rt ⟨n, Nat.le_refl _, ?_⟩
    simp only [linkR, hab, true_or, if_true]
    exact ⟨trivial, h, KeepW.refl _ _ _, Nat.le_refl _⟩
  by_cases hin : b ∈ toW W a
  · refine AC.fresh fun hf => ?_; refine AC.enter Tryz.func162 rfl Tryz.ntmps162 (by simp) ?_
    simp [hab]
    refine ACK.rt (linked_ac h a b) ?_
    simp [hin]
    refine resK.rt ⟨n, Nat.le_refl _, ?_⟩
    simp only [linkR, hin, or_true, if_true]
    exact ⟨trivial, h, KeepW.refl _ _ _, Nat.le_refl _⟩
  by_cases h81 : (toW W a).length = 8
  · have i1 : ((toW W a).length : Int) = 8 := by omega
    refine AC.fresh fun hf => ?_; refine AC.enter Tryz.func162 rfl Tryz.ntmps162 (by simp) ?_
    simp [hab]
    refine ACK.rt (linked_ac h a b) ?_
    simp [hin, aload, apart, afield, ht, e1, l1, i1]
    refine resK.rt ⟨n, Nat.le_refl _, ?_⟩
    simp only [linkR, hab, hin, h81, or_self, if_false, true_or, if_true]
    exact ⟨trivial, h, KeepW.refl _ _ _, Nat.le_refl _⟩
  have i1 : ¬ ((toW W a).length : Int) = 8 := by omega
  by_cases h82 : (toW W b).length = 8
  · have i2 : ((toW W b).length : Int) = 8 := by omega
    refine AC.fresh fun hf => ?_; refine AC.enter Tryz.func162 rfl Tryz.ntmps162 (by simp) ?_
    simp [hab]
    refine ACK.rt (linked_ac h a b) ?_
    simp [hin, aload, apart, afield, ht, e1, e2, l1, l2, i1, i2]
    refine resK.rt ⟨n, Nat.le_refl _, ?_⟩
    simp only [linkR, hab, hin, h82, or_self, if_false, or_true, if_true]
    exact ⟨trivial, h, KeepW.refl _ _ _, Nat.le_refl _⟩
  have i2 : ¬ ((toW W b).length : Int) = 8 := by omega
  refine AC.fresh fun hf => ?_; refine AC.enter Tryz.func162 rfl Tryz.ntmps162 (by simp) ?_
  simp [hab]
  refine ACK.rt (linked_ac h a b) ?_
  simp [hin, aload, apart, afield, ht, e1, e2, l1, l2, i1, i2]
  have jl : ∀ (l : List Int) (c : Int), l.length < 8 → (joinL l c).length ≤ 8 := fun l c hl => by
    unfold joinL; split
    · omega
    · simp; omega
  refine ACK.use (join_ac h hk a b (jl _ _ (by omega))) ?_
  intro v η1 n1 ⟨d1, d2, d3⟩
  simp
  refine ACK.use (join_ac d1 (joinW_key hk _ _ _) b a (jl _ _ (by rw [toW_join, if_neg fun k => hab k.symm]; omega))) ?_
  intro v η2 n2 ⟨c1, c2, c3⟩
  simp
  refine resK.rt ⟨n1, d3, ?_⟩
  simp only [linkR, hab, hin, h81, h82, or_self, if_false]
  refine ⟨trivial, c1, fun q hq hT => ?_, by omega⟩
  rw [c2 q (by omega) fun k => ?_, d2 q hq hT]
  rcases List.mem_cons.1 k with k | k
  · exact hT (by rw [k]; simp)
  · rcases joinW_nms k with k | k
    · exact hT (List.mem_cons_of_mem _ k)
    · omega
end Go.Proofs.YtbomkomipaipmaaGreat
namespace Go.Proofs.YtbomkomipaipmaaGreat
set_option maxRecDepth 100000

def cutG (W : List LE) (a : Int) (l : List Int) : List LE := l.foldl (fun W b => setW W b (·.erase a)) W
def cutW (W : List LE) (a : Int) : List LE := (cutG W a (sorted (toW W a))).eraseP fun e => e.key == a
theorem cutG_keys (a : Int) : ∀ (l : List Int) (W : List LE), (cutG W a l).map (·.key) = W.map (·.key)
  | [], W => rfl
  | b :: l, W => by show (cutG (setW W b _) a l).map _ = _; rw [cutG_keys a l, setW_keys]
theorem cutG_nms (a : Int) : ∀ (l : List Int) (W : List LE), (cutG W a l).map (·.nm) = W.map (·.nm)
  | [], W => rfl
  | b :: l, W => by show (cutG (setW W b _) a l).map _ = _; rw [cutG_nms a l, setW_nms]
theorem delE_inner (l : List Int) (a : Int) : delE (inner l) a = inner (l.erase a) := by
  unfold delE inner
  rw [List.erase_eq_eraseP, List.eraseP_map]
  congr 1
  refine congrArg (fun p => List.eraseP p l) ?_
  funext b
  show (b == a) = (a == b)
  by_cases k : b = a
  · subst k; rfl
  · rw [beq_eq_false_iff_ne.2 k, beq_eq_false_iff_ne.2 (Ne.symm k)]
theorem delE_outer (W : List LE) (a : Int) : delE (outer W) a = outer (W.eraseP fun e => e.key == a) := by
  unfold delE outer
  rw [List.eraseP_map]
  rfl
theorem setW_none {W : List LE} {b : Int} (h : lkOf W b = none) (f : List Int → List Int) : setW W b f = W := by
  unfold setW
  have : ∀ e ∈ W, (if e.key = b then (⟨e.key, e.nm, f e.to⟩ : LE) else e) = id e := fun e he => by
    have := List.find?_eq_none.1 h e he
    have hk : ¬ e.key = b := fun k => this (by rw [k]; exact beq_self_eq_true b)
    rw [if_neg hk]; rfl
  rw [List.map_congr_left this, List.map_id]
theorem WebAt.del {η : AHeap} {x r : Nat} {W : List LE} (h : WebAt η x r W) (a : Int) : WebAt (upd η r (some (.map (ent (outer (W.eraseP fun e => e.key == a)))))) x r (W.eraseP fun e => e.key == a) := by
  have hs : ∀ e ∈ (W.eraseP fun e => e.key == a), e ∈ W := fun e he => List.eraseP_subset he
  refine ⟨by rw [upd_ne h.xr]; exact h.top, upd_eq _ _ _, fun e he => by rw [upd_ne (h.rn (hs e he)).symm]; exact h.inn e (hs e he), ?_, fun e he => h.len e (hs e he)⟩
  exact h.dis.sublist (List.Sublist.cons_cons _ (List.eraseP_sublist.map _))
theorem delI {η : AHeap} {W : List LE} {x r : Nat} (h : WebAt η x r W) (hk : (W.map (·.key)).Nodup) (a b : Int) : ∃ η', adelete Tryz.prog 292 (wv W b) (.int .i64 a) η = some η' ∧ WebAt η' x r (setW W b (·.erase a)) ∧ ∀ q, ¬ q ∈ W.map (·.nm) → η' q = η q := by
  unfold wv
  cases hl : lkOf W b with
  | none =>
    refine ⟨η, adelete_nil Tryz.underlying292 Tryz.underlying2 a, ?_, fun _ _ => rfl⟩
    rw [setW_none hl]; exact h
  | some e =>
    have hm := (lkOf_mem hl).1
    refine ⟨_, adelete_ent Tryz.underlying292 Tryz.underlying2 (h.inn e hm) a, ?_, fun q hq => ?_⟩
    · rw [delE_inner]
      exact h.set hk hl (fun l => l.erase a) (Nat.le_trans (List.erase_sublist.length_le) (h.len e hm))
    · rw [upd_ne fun k => hq (by rw [k]; exact List.mem_map.2 ⟨e, hm, rfl⟩)]
theorem delO {η : AHeap} {r : Nat} {W : List LE} (hr : η r = some (.map (ent (outer W)))) (a : Int) : adelete Tryz.prog 173 (.mp r) (.int .i64 a) η = some (upd η r (some (.map (ent (outer (W.eraseP fun e => e.key == a)))))) := by
  rw [adelete_ent Tryz.underlying173 Tryz.underlying2 hr, delE_outer]
set_option maxHeartbeats 2000000 in
theorem cut_ac {η : AHeap} {n x r : Nat} {W : List LE} (h : WebAt η x r W) (hk : (W.map (·.key)).Nodup) (a : Int) :
    AC Tryz.prog 263 [.ptr x 0 0, .int .i64 a] η n (fun v η' n' => v = .rs 1 (ints (sorted (toW W a))) ∧ WebAt η' x r (cutW W a) ∧ KeepW n (r :: W.map (·.nm)) η η' ∧ n' = n) := by
  have hOf := of_ac (n := n) h a
  have h8 : (sorted (toW W a)).length ≤ 8 := by simp; exact toW_len h a
  unfold cutW
  generalize sorted (toW W a) = L at hOf h8 ⊢
  refine AC.enter Tryz.func263 rfl Tryz.ntmps263 (by simp) ?_
  simp
  refine ACK.rt hOf ?_
  simp
  refine loopK.inv [7, 13, 14, 15, 16, 17, 18, 19, 20, 21, 22, 23, 24] (fun s : Nat × AHeap => s.1 ≤ L.length ∧ WebAt s.2 x r (cutG W a (L.take s.1)) ∧ KeepW n (r :: W.map (·.nm)) η s.2) (fun s => [(13, .int .i64 s.1)]) (fun s => s.2) (fun _ => n) (fun s => L.length - s.1) (0, η) ⟨by simp, h, KeepW.refl _ _ _⟩ (by simp) (AHeap.le_rfl _) (Nat.le_refl _) ?_
  intro ⟨i, η1⟩ ⟨h1, h2, h3⟩
  simp only at h1 h2 h3
  simp
  have ht := h2.top
  have hkk : ((cutG W a (L.take i)).map (·.key)).Nodup := by rw [cutG_keys]; exact hk
  refine CondP.dec (fun hi => ?_) (fun hi => ?_)
  · have hi' : i < L.length := by omega
    have e1 := lookO h2.map L[i]
    obtain ⟨η2, e2, h4, h5⟩ := delI h2 hkk a L[i]
    have eg : (ints L)[i]? = some [.int .i64 L[i]] := by simp [hi']
    have ewk : IntKind.i64.wrap ((i : Int) + 1) = (i : Int) + 1 := wrap_id (by omega) (by omega)
    simp [hi, aload, apart, afield, aindex, ht, e1, e2, ewk]
    refine endK.intro (i + 1, η2) ⟨by simp only; omega, ?_, fun q hq hT => ?_⟩ (by simp) (by repeat (first | exact Agree.mask _ _ | refine Agree.setf rfl ?_ | refine Agree.inner rfl ?_)) (AHeap.le_rfl _) (Nat.le_refl _) (show L.length - (i + 1) < L.length - i by omega)
    · rw [List.take_succ_eq_append_getElem hi']
      simp only [cutG, List.foldl_append, List.foldl_cons, List.foldl_nil]
      exact h4
    · show η2 q = η q
      rw [h5 q (by rw [cutG_nms]; exact fun k => hT (List.mem_cons_of_mem _ k)), h3 q hq hT]
  · have e : L.take i = L := List.take_of_length_le (by omega)
    rw [e] at h2
    have e3 := delO h2.map a
    simp [hi, aload, apart, afield, ht, e3]
    refine resK.rt ⟨rfl, h2.del a, fun q hq hT => ?_, rfl⟩
    rw [upd_ne fun k => hT (by rw [k]; simp), h3 q hq hT]
end Go.Proofs.YtbomkomipaipmaaGreat
namespace Go.Proofs.YtbomkomipaipmaaGreat
set_option maxRecDepth 100000

theorem AC.withF {P : Program} {f : FuncId} {args : List AVal} {η : AHeap} {n : Nat} {K : AVal → AHeap → Nat → Prop} (h : (∀ k, n ≤ k → η k = none) → AC P f args η n K) : AC P f args η n K := by
  intro own M w vals h1 h2 h3
  refine h (fun k hk => ?_) own M w vals h1 h2 h3
  cases ho : η k with
  | none => rfl
  | some o => exact absurd (h1.lt ho) (by omega)
/-- who can be reached -/
inductive Reach (W : List LE) (a : Int) : Int → Prop
  | refl : Reach W a a
  | step {b c : Int} : Reach W a b → c ∈ toW W b → Reach W a c
def FallSpec (W : List LE) (a : Int) (l : List Int) : Prop := l.Pairwise (· < ·) ∧ ∀ b, b ∈ l ↔ b ≠ a ∧ Reach W a b
open Classical in
noncomputable def fallL (W : List LE) (a : Int) : List Int := if h : ∃ l, FallSpec W a l then h.choose else []
theorem pair_lt_unique {l l' : List Int} (h : l.Pairwise (· < ·)) (h' : l'.Pairwise (· < ·)) (e : ∀ b, b ∈ l ↔ b ∈ l') : l = l' := by
  have n1 : l.Nodup := h.imp fun {a b} h => by omega
  have n2 : l'.Nodup := h'.imp fun {a b} h => by omega
  exact ((List.perm_ext_iff_of_nodup n1 n2).2 e).eq_of_pairwise (fun a b _ _ h1 h2 => by omega) h h'
theorem fallL_eq {W : List LE} {a : Int} {l : List Int} (h : FallSpec W a l) : fallL W a = l := by
  have hx : ∃ l, FallSpec W a l := ⟨l, h⟩
  unfold fallL
  rw [dif_pos hx]
  exact pair_lt_unique hx.choose_spec.1 h.1 fun b => (hx.choose_spec.2 b).trans (h.2 b).symm
def univ (W : List LE) (a : Int) : List Int := a :: W.flatMap (·.to)
theorem reach_univ {W : List LE} {a b : Int} (h : Reach W a b) : b ∈ univ W a := by
  cases h with
  | refl => simp [univ]
  | step _ h =>
    unfold toW at h
    split at h
    · rename_i e he
      exact List.mem_cons_of_mem _ (List.mem_flatMap.2 ⟨e, (lkOf_mem he).1, h⟩)
    · simp at h
theorem univ_len {η : AHeap} {x r : Nat} {W : List LE} (h : WebAt η x r W) (hb : W.length ≤ 100) (a : Int) : (univ W a).length ≤ 801 := by
  have : ∀ l : List LE, (∀ e ∈ l, e.to.length ≤ 8) → (l.flatMap (·.to)).length ≤ 8 * l.length := fun l => by
    induction l with
    | nil => simp
    | cons e l ih =>
      intro hl
      have h1 := hl e (by simp)
      have h2 := ih fun e he => hl e (by simp [he])
      simp only [List.flatMap_cons, List.length_append, List.length_cons]; omega
  have := this W h.len
  simp [univ]; simp at this; omega
/-- the list of those still to look at -/
def TodoAt (η : AHeap) (n1 s : Nat) (t : AVal) (l : List Int) : Prop := ∃ g o I, t = .sl g o l.length ∧ s < g ∧ g < n1 ∧ o = I.length ∧ η g = some (.cells 1 (ints (I ++ l)))
/-- what stands while it looks -/
structure FallI (W : List LE) (a : Int) (η : AHeap) (n : Nat) (seen todo : List Int) (t : AVal) (η1 : AHeap) (n1 : Nat) : Prop where
  nd : seen.Nodup
  re : ∀ b ∈ seen, Reach W a b
  hd : a ∈ seen
  sb : ∀ b ∈ todo, b ∈ seen
  mp : η1 n = some (.map (ent (inner seen)))
  td : TodoAt η1 n1 n t todo
  kp : ∀ q, q < n → η1 q = η q
  tl : todo.length ≤ seen.length
theorem seen_len {W : List LE} {a : Int} {seen : List Int} (h1 : seen.Nodup) (h2 : ∀ b ∈ seen, Reach W a b) : seen.length ≤ (univ W a).length := h1.length_le_of_subset fun b hb => reach_univ (h2 b hb)
theorem WebAt.keep {η η1 : AHeap} {n x r : Nat} {W : List LE} (h : WebAt η x r W) (hf : ∀ k, n ≤ k → η k = none) (hk : ∀ q, q < n → η1 q = η q) : WebAt η1 x r W := by
  have lt : ∀ {q o}, η q = some o → η1 q = some o := fun {q o} hq => by
    rcases Nat.lt_or_ge q n with h | h
    · rw [hk q h, hq]
    · rw [hf q h] at hq; cases hq
  exact ⟨lt h.top, lt h.map, fun e he => lt (h.inn e he), h.dis, h.len⟩
set_option maxHeartbeats 4000000 in
theorem fall_ac {η : AHeap} {n x r : Nat} {W : List LE} (h : WebAt η x r W) (hb : W.length ≤ 100) (a : Int) :
    AC Tryz.prog 227 [.ptr x 0 0, .int .i64 a] η n (Rt (.rs 1 (ints (fallL W a))) η n) := by
  refine AC.gnd1 (ints_nq η _) 1 ?_
  have hul := univ_len h hb a
  refine AC.fresh fun hf => ?_; refine AC.enter Tryz.func227 rfl Tryz.ntmps227 (by simp) ?_
  have e0 : ainsert Tryz.prog 292 (.mp n) (.int .i64 a) (.int .i64 1) (upd η n (some (.map []))) = some (upd η n (some (.map (ent (inner [a]))))) := by
    have e : (upd η n (some (.map []))) n = some (.map (ent (inner []))) := upd_eq _ _ _
    rw [insI e a, upd_upd]; rfl
  simp [e0, abuildS, afillP, tek, chunk]
  refine loopK.inv [6, 7, 9, 15, 16, 17, 18, 19, 20, 21, 22, 23, 24, 25, 26, 27, 28, 29, 30, 31, 32, 33, 34, 35, 36, 37, 38, 39, 40, 41] (fun s : List Int × List Int × AVal × AHeap × Nat => FallI W a η n s.1 s.2.1 s.2.2.1 s.2.2.2.1 s.2.2.2.2 ∧ ∀ y ∈ s.1, y ∈ s.2.1 ∨ ∀ b ∈ toW W y, b ∈ s.1) (fun s => [(6, s.2.2.1)]) (fun s => s.2.2.2.1) (fun s => s.2.2.2.2) (fun s => s.2.1.length + 2 * ((univ W a).length - s.1.length)) ([a], [a], .sl (n + 1) 0 1, upd (upd η n (some (.map (ent (inner [a]))))) (n + 1) (some (.cells 1 [[.int .i64 a]])), n + 2) ⟨⟨by simp, fun b hb => by simp at hb; rw [hb]; exact .refl, by simp, fun _ h => h, by simp only; rw [upd_ne (by omega), upd_eq], ⟨n + 1, 0, [], rfl, by omega, by simp only; omega, rfl, upd_eq _ _ _⟩, fun q hq => by simp only; rw [upd_ne (by omega), upd_ne (by omega)], by simp⟩, fun y hy => Or.inl hy⟩ (by simp) (AHeap.le_rfl _) (Nat.le_refl _) ?_
  intro ⟨seen, todo, t, η1, n1⟩ ⟨hI, hcl⟩
  simp only at hI hcl
  obtain ⟨g, o, I, rfl, g1, g2, g3, g4⟩ := hI.td
  simp
  refine CondP.dec (fun hi => ?_) (fun hi => ?_)
  · cases todo with
    | nil => simp at hi
    | cons y todo =>
    have eg : (ints (I ++ y :: todo))[o]? = some [.int .i64 y] := by simp [g3]
    have hW1 := h.keep hf hI.kp
    have b1 : (1 : Int) ≤ (todo.length : Int) + 1 := by omega
    have hOf := of_ac (n := n1) hW1 y
    have hLm : ∀ b, b ∈ sorted (toW W y) ↔ b ∈ toW W y := fun b => (sorted_perm _).mem_iff
    have hL8 : (sorted (toW W y)).length ≤ 8 := by simp; exact toW_len h y
    generalize sorted (toW W y) = L at hOf hLm hL8
    simp [aload, apart, aindex, g4, eg, asliceV, abnd, b1]
    refine ACK.rt hOf ?_
    simp
    refine loopK.inv [6, 9, 27, 28, 29, 30, 31, 32, 33, 34, 35, 36, 37, 38, 39, 40, 41] (fun s : Nat × List Int × List Int × AVal × AHeap × Nat => s.1 ≤ L.length ∧ FallI W a η n s.2.1 s.2.2.1 s.2.2.2.1 s.2.2.2.2.1 s.2.2.2.2.2 ∧ (∀ z ∈ s.2.1, z ∈ s.2.2.1 ∨ (∀ b ∈ toW W z, b ∈ s.2.1) ∨ z = y) ∧ (∀ b ∈ L.take s.1, b ∈ s.2.1) ∧ s.2.2.1.length + seen.length = todo.length + s.2.1.length ∧ seen.length ≤ s.2.1.length) (fun s => [(27, .int .i64 s.1), (6, s.2.2.2.1)]) (fun s => s.2.2.2.2.1) (fun s => s.2.2.2.2.2) (fun s => L.length - s.1) (0, seen, todo, .sl g (o + 1) todo.length, η1, n1) ⟨by simp, ⟨hI.nd, hI.re, hI.hd, fun b hb => hI.sb b (by simp [hb]), hI.mp, ⟨g, o + 1, I ++ [y], rfl, g1, g2, by simp [g3], by simpa using g4⟩, hI.kp, by have := hI.tl; simp at this; simp only; omega⟩, fun z hz => ?_, by simp, rfl, Nat.le_refl _⟩ (by simp) (AHeap.le_rfl _) (Nat.le_refl _) ?_
    · rcases hcl z hz with k | k
      · rcases List.mem_cons.1 k with k | k
        · exact Or.inr (Or.inr k)
        · exact Or.inl k
      · exact Or.inr (Or.inl k)
    intro ⟨i, seen2, todo2, t2, η2, n2⟩ ⟨j1, j2, j3, j4, j5, j6⟩
    simp only at j1 j2 j3 j4 j5 j6
    obtain ⟨g', o', I', rfl, f1, f2, f3, f4⟩ := j2.td
    simp
    refine CondP.dec (fun hj => ?_) (fun hj => ?_)
    · have hj' : i < L.length := by omega
      have ew : IntKind.i64.wrap ((i : Int) + 1) = (i : Int) + 1 := wrap_id (by omega) (by omega)
      have el : (ints L)[i]? = some [.int .i64 L[i]] := by simp [hj']
      have e1 := lookI j2.mp L[i]
      have hLi : L[i] ∈ toW W y := (hLm _).1 (List.getElem_mem hj')
      by_cases hs : L[i] ∈ seen2
      · simp [hj, aload, apart, aindex, e1, hs, ew]
        refine endK.intro (i + 1, seen2, todo2, .sl g' o' todo2.length, η2, n2) ⟨by simp only; omega, j2, j3, fun b hb => ?_, j5, j6⟩ (by simp) (by repeat (first | exact Agree.mask _ _ | refine Agree.setf rfl ?_ | refine Agree.inner rfl ?_)) (AHeap.le_rfl _) (Nat.le_refl _) (show L.length - (i + 1) < L.length - i by omega)
        simp only at hb
        rw [List.take_succ_eq_append_getElem hj'] at hb
        rcases List.mem_append.1 hb with k | k
        · exact j4 b k
        · simp at k; rw [k]; exact hs
      · have e2 := insI j2.mp L[i]
        have hsl := seen_len j2.nd j2.re
        have hnl : joinL seen2 L[i] = seen2 ++ [L[i]] := by simp [joinL, hs]
        rw [hnl] at e2
        have z1 : ¬ g' = n := by omega
        have z2 : ¬ n2 = n := by omega
        have z3 : ¬ g' = n2 := by omega
        have z4 : ∀ k, ¬ n2 + k = n := fun k => by omega
        have z5 : ∀ k, ¬ g' = n2 + k := fun k => by omega
        have z6 : ¬ n = g' := by omega
        have htl := j2.tl
        have q1 : (todo2.length + 1) * 8 ≤ 140737488355328 := by omega
        have q2 : todo2.length + 1 ≤ 17592186044416 := by omega
        have f3' : o' ≤ I'.length := by omega
        have etk : (ints todo2).take todo2.length = ints todo2 := List.take_of_length_le (by simp)
        simp [hj, aload, apart, aindex, e1, hs, ew, e2, abuildS, afillP, tek, chunk, appK, aappend, arows, lenMax, upd_apply, z1, z3, f4, q1, q2]
        refine ⟨by omega, endK.heap fun G hG => ?_⟩
        have etd : List.take todo2.length (List.drop o' (ints (I' ++ todo2))) ++ [[AVal.int IntKind.i64 L[i]]] = ints (todo2 ++ [L[i]]) := by
          have e : ints (I' ++ todo2) = ints I' ++ ints todo2 := by simp [ints]
          rw [e, f3, show I'.length = (ints I').length by simp, List.drop_left, etk]; simp [ints]
        rw [etd] at hG
        have hGn : G n = some (.map (ent (inner (seen2 ++ [L[i]])))) := by
          rw [hG]; simp [upd_apply, z6, Ne.symm (show n2 ≠ n from z2), fun k => Ne.symm (z4 k)]
        have hGt : G (n2 + 1) = some (.cells 1 (ints (todo2 ++ [L[i]]))) := by rw [hG]; exact upd_eq _ _ _
        have hGq : ∀ q, q < n → G q = η q := fun q hq => by
          rw [hG]
          rw [upd_ne (by omega), upd_ne (by omega), upd_ne (by omega), upd_ne (by omega), j2.kp q hq]
        refine endK.intro (i + 1, seen2 ++ [L[i]], todo2 ++ [L[i]], .sl (n2 + 1) 0 (todo2.length + 1), G, n2 + 2) ⟨by simp only; omega, ⟨?_, ?_, ?_, ?_, ?_, ?_, ?_, ?_⟩, ?_, ?_, ?_, ?_⟩ (by simp) (by repeat (first | exact Agree.mask _ _ | refine Agree.setf rfl ?_ | refine Agree.inner rfl ?_)) (AHeap.le_rfl _) (Nat.le_refl _) (show L.length - (i + 1) < L.length - i by omega)
        · rw [List.nodup_append]; exact ⟨j2.nd, by simp, fun c hc d hd k => by simp at hd; subst hd; exact hs (k ▸ hc)⟩
        · intro c hc
          rcases List.mem_append.1 hc with k | k
          · exact j2.re c k
          · simp at k; rw [k]; exact .step (hI.re y (hI.sb y (by simp))) hLi
        · simp [j2.hd]
        · intro c hc
          rcases List.mem_append.1 hc with k | k
          · simp [j2.sb c k]
          · simp at k; simp [k]
        · exact hGn
        · exact ⟨n2 + 1, 0, [], by simp, by omega, by simp only; omega, rfl, by simpa using hGt⟩
        · exact hGq
        · simp; exact htl
        · intro z hz
          simp only at hz ⊢
          rcases List.mem_append.1 hz with k | k
          · rcases j3 z k with k | k | k
            · exact Or.inl (by simp [k])
            · exact Or.inr (Or.inl fun b hb => by simp [k b hb])
            · exact Or.inr (Or.inr k)
          · exact Or.inl (List.mem_append_right _ k)
        · intro b hb
          simp only at hb ⊢
          rw [List.take_succ_eq_append_getElem hj'] at hb
          rcases List.mem_append.1 hb with k | k
          · exact List.mem_append_left _ (j4 b k)
          · exact List.mem_append_right _ k
        · simp; omega
        · simp; omega
    · simp [hj]
      have hsl := seen_len j2.nd j2.re
      have hsl1 := seen_len hI.nd hI.re
      refine endK.intro (seen2, todo2, .sl g' o' todo2.length, η2, n2) ⟨j2, fun z hz => ?_⟩ (by simp) (by repeat (first | exact Agree.mask _ _ | refine Agree.setf rfl ?_ | refine Agree.inner rfl ?_)) (AHeap.le_rfl _) (Nat.le_refl _) ?_
      · simp only
        rcases j3 z hz with k | k | k
        · exact Or.inl k
        · exact Or.inr k
        · refine Or.inr fun b hb => ?_
          rw [k] at hb
          exact j4 b (by rw [List.take_of_length_le (by omega)]; exact (hLm b).2 hb)
      · have hcons : (y :: todo).length = todo.length + 1 := rfl
        simp only
        omega
  · have et : todo = [] := List.eq_nil_of_length_eq_zero (by omega)
    subst et
    have hclosed : ∀ y ∈ seen, ∀ b ∈ toW W y, b ∈ seen := fun y hy => (hcl y hy).resolve_left (by simp)
    have hall : ∀ b, Reach W a b → b ∈ seen := fun b hr => by
      induction hr with
      | refl => exact hI.hd
      | step _ hc ih => exact hclosed _ ih _ hc
    have hspec : FallSpec W a (sorted (seen.erase a)) := by
      have hp := sorted_perm (seen.erase a)
      have hn : (seen.erase a).Nodup := hI.nd.erase a
      refine ⟨?_, fun b => ?_⟩
      · have h1 := sorted_pair (seen.erase a)
        have h2 : (sorted (seen.erase a)).Nodup := hp.nodup_iff.2 hn
        exact (h1.and h2).imp fun {a b} ⟨k1, k2⟩ => by omega
      · rw [hp.mem_iff, hI.nd.mem_erase_iff]
        exact ⟨fun ⟨k1, k2⟩ => ⟨k1, hI.re b k2⟩, fun ⟨k1, k2⟩ => ⟨k1, hall b k2⟩⟩
    rw [fallL_eq hspec]
    have hsl := seen_len hI.nd hI.re
    have hel : (seen.erase a).length ≤ seen.length := List.erase_sublist.length_le
    have e1 : adelete Tryz.prog 292 (.mp n) (.int .i64 a) η1 = some (upd η1 n (some (.map (ent (inner (seen.erase a)))))) := by
      rw [adelete_ent Tryz.underlying292 Tryz.underlying2 hI.mp, delE_inner]
    simp [e1]
    refine ACK.use (keys_mp_ac (.mp n) rfl rfl) ?_
    intro v η2 n2 ⟨d1, d2, d3⟩
    subst d1 d2 d3
    simp
    have hn1 : n < n1 := by omega
    have hup : ∀ μ : AHeap, (∀ k, n1 + 1 ≤ k → upd μ n1 (some (.cells 1 [[.mp n]])) k = none) → ∀ k, n1 ≤ k → upd μ n1 none k = none := fun μ hμ k hk => by
      by_cases e : k = n1
      · rw [e, upd_eq]
      · have := hμ k (by omega)
        rw [upd_ne e] at this
        rw [upd_ne e, this]
    have key : AC Tryz.prog 260 [.func 270 [] [.ptr n1 0 0]] (upd (upd η1 n (some (.map (ent (inner (seen.erase a)))))) n1 (some (.cells 1 [[.mp n]]))) (n1 + 1) (fun v η' n' => FL n1 η' v (sorted (seen.erase a)) ∧ ∀ q, q < n → η q = none ∨ η' q = η q) := by
      refine AC.withF fun hF => ?_
      have := keysOf_ac (η := upd (upd η1 n (some (.map (ent (inner (seen.erase a)))))) n1 none) (n := n1) (r := n) (l := seen.erase a) (by rw [upd_ne (by omega), upd_eq]) (by omega) (hup _ hF)
      rw [upd_upd] at this
      refine this.mono ?_
      intro v η' n' ⟨k1, k2, k3⟩
      refine ⟨k1, fun q hq => ?_⟩
      cases ho : η q with
      | none => exact Or.inl rfl
      | some o =>
        refine Or.inr (k2 q o ?_)
        unfold restr
        rw [if_pos (by omega), upd_ne (by omega), upd_ne (by omega), hI.kp q hq, ho]
    refine ACK.use key ?_
    intro v η2 n2 ⟨k1, k2⟩
    simp
    refine resK.of (η' := fun q => if q < n then η q else η2 q) (fun q o hq => ?_) _ (Nat.le_refl _) ⟨fun q hq => by simp [hq], ?_⟩
    · simp only at hq
      split at hq
      · rename_i hqn
        rcases k2 q hqn with k | k
        · rw [k] at hq; cases hq
        · rw [k]; exact hq
      · exact hq
    · have : FL n (fun q => if q < n then η q else η2 q) v (sorted (seen.erase a)) := by
        rcases k1 with e1 | e1 | ⟨g, o, I, J, c1, c2, c3, c4⟩
        · exact Or.inl e1
        · exact Or.inr (Or.inl e1)
        · exact Or.inr (Or.inr ⟨g, o, I, J, by omega, c2, c3, by
            have : ¬ g < n := by omega
            simp [this, c4]⟩)
      exact this.gnd (by simp; unfold lenMax; omega) 0
end Go.Proofs.YtbomkomipaipmaaGreat
