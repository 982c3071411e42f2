/- Abstract Go, 1: values, heaps, and how they stand to the model's worlds. No program in sight. Abstract Go, 2: states, types, and the operations that only yield a value. Abstract Go: maps: what is found, what is put in (lemmas for achg, aval). Abstract Go, 3: what an operation that leaves memory alone yields, and that the model yields it. Abstract Go, 4: the model yields what 'aval' says. Abstract Go, 5: slices, built values, operators; all of 'aval'. Abstract Go, 6: operators; all of 'aval'. Abstract Go: a range over a map. Abstract Go, 7: operations that make or write memory; contracts of calls. -/
import Derived.WalkKit
import Derived.WalkLawsBesides
import Derived.Lib.Hide
import Derived.Orders
import Derived.Laws.CopyRow
import Derived.Laws.MakeOwn
import Derived.Laws.OwnMore
namespace Go.Proofs.YtbomkomipaipmaaGreat

inductive AVal where
  | undef
  | int (k : IntKind) (n : Int)
  | bool (b : Bool)
  | str (s : ByteArray)
  | nilp
  | ptr (r i j : Nat)
  | ro (cs : List AVal) (j : Nat)
  | nils
  | e0
  | sl (r o n : Nat)
  | rs (k : Nat) (rows : List (List AVal))
  | func (f : FuncId) (first caps : List AVal)
  | nilf
  | nilm
  | mp (r : Nat)
  | agg (cs : List AVal)
  | tup (vs : List AVal)
  | arr (r i j n z : Nat)
  | yld (r : Nat)
  | slc (r o n c : Nat)
  deriving Inhabited

/-- one cell, and known -/
def AVal.sc : AVal → Bool
  | .undef | .agg _ | .tup _ => false
  | _ => true

inductive AObj where
  | cells (k : Nat) (rows : List (List AVal))
  | map (es : List (AVal × AVal))
  /-- a range over a function: the jump that waits, what is done in a round, its temporaries -/
  | loop (pend : Option Code) (ps : Array Tmp) (assign body : Code) (fr : Nat → AVal) (nt : Nat)
  /-- a map while it is ranged over -/
  | mapR (E : Array MapEntry) (clk : Nat) (es : List (AVal × AVal))
  /-- who ranges over a map (none: over a nil one): the map, the entries that have come -/
  | iter (m : Option (Nat × Array MapEntry × Nat)) (seen : List Nat)
abbrev AHeap := Nat → Option AObj
def upd (η : AHeap) (r : Nat) (o : Option AObj) : AHeap := fun x => if x = r then o else η x
theorem upd_eq (η : AHeap) (r : Nat) (o : Option AObj) : upd η r o r = o := by simp [upd]
theorem upd_ne {η : AHeap} {r x : Nat} {o : Option AObj} (h : x ≠ r) : upd η r o x = η x := by simp [upd, h]
theorem upd_upd (η : AHeap) (r : Nat) (o o' : Option AObj) : upd (upd η r o) r o' = upd η r o' := by
  funext x; simp only [upd]; split <;> rfl
def AHeap.le (η' η : AHeap) : Prop := ∀ r o, η' r = some o → η r = some o

/-- where an object lies: its block, its first cell, its end, a row's cells -/
structure Spot where
  b : Nat
  s : Nat
  e : Nat
  k : Nat
abbrev Own := Nat → Option Spot
abbrev Mem := Nat → Option (Array Value)
def Own.le (o o' : Own) : Prop := ∀ r p, o r = some p → o' r = some p
def Mem.le (M M' : Mem) : Prop := ∀ b a, M b = some a → M' b = some a
theorem Own.le_refl (o : Own) : o.le o := fun _ _ h => h
theorem Mem.le_refl (o : Mem) : o.le o := fun _ _ h => h
theorem Own.le_trans {a b c : Own} (h : a.le b) (k : b.le c) : a.le c := fun r p e => k r p (h r p e)
theorem Mem.le_trans {a b c : Mem} (h : a.le b) (k : b.le c) : a.le c := fun r p e => k r p (h r p e)

def lenMax : Nat := 17592186044416

inductive VR (own : Own) (M : Mem) : AVal → Value → Prop
  | undef (v : Value) : VR own M .undef v
  | int (k : IntKind) (n : Int) : VR own M (.int k n) (.int k n)
  | bool (b : Bool) : VR own M (.bool b) (.bool b)
  | str (s : ByteArray) : VR own M (.str s) (.string s)
  | nilp : VR own M .nilp (.pointer none)
  | ptr (r i j : Nat) (p : Spot) (h : own r = some p) : VR own M (.ptr r i j) (.pointer (some ⟨p.b, p.s + i * p.k + j, none⟩))
  | ro (cs : List AVal) (j b o : Nat) (arr : Array Value) (hb : M b = some arr) (hl : ∀ (i : Nat) (c : AVal), cs[i]? = some c → o + i < arr.size) (hc : ∀ (i : Nat) (c : AVal), cs[i]? = some c → VR own M c (arr.getD (o + i) undef)) :
      VR own M (.ro cs j) (.pointer (some ⟨b, o + j, none⟩))
  | nils : VR own M .nils (.slice none 0 0)
  | e0 (a : Option Addr) : VR own M .e0 (.slice a 0 0)
  | sl (r o n : Nat) (p : Spot) (a : Option Addr) (cap : Nat) (h : own r = some p) (hn : n ≤ cap) (hm : cap ≤ 9223372036854775807) (hc : 0 < cap → a = some ⟨p.b, p.s + o * p.k, none⟩ ∧ p.s + (o + cap) * p.k ≤ p.e) :
      VR own M (.sl r o n) (.slice a n cap)
  | rs (k : Nat) (rows : List (List AVal)) (a : Option Addr) (cap b o : Nat) (arr : Array Value) (hn : rows.length ≤ cap) (hm : cap ≤ 9223372036854775807) (hx : rows.length ≤ lenMax)
      (ha : 0 < rows.length → a = some ⟨b, o, none⟩) (hb : 0 < rows.length → M b = some arr) (hk : ∀ (i : Nat) (row : List AVal), rows[i]? = some row → row.length = k)
      (hl : ∀ (i j : Nat) (row : List AVal) (c : AVal), rows[i]? = some row → row[j]? = some c → o + i * k + j < arr.size) (hc : ∀ (i j : Nat) (row : List AVal) (c : AVal), rows[i]? = some row → row[j]? = some c → VR own M c (arr.getD (o + i * k + j) undef)) :
      VR own M (.rs k rows) (.slice a rows.length cap)
  | func (f : FuncId) (fs cs : List AVal) (F C : Array Value) (hF : F.size = fs.length) (hC : C.size = cs.length) (hf : ∀ (i : Nat) (c : AVal), fs[i]? = some c → VR own M c (F.getD i undef))
      (hc : ∀ (i : Nat) (c : AVal), cs[i]? = some c → VR own M c (C.getD i undef)) : VR own M (.func f fs cs) (.func (.func f) F C)
  | nilf : VR own M .nilf .nilFunc
  | nilm : VR own M .nilm (.map none)
  | mp (r : Nat) (p : Spot) (h : own r = some p) : VR own M (.mp r) (.map (some p.b))
  | agg (cs : List AVal) (A : Array Value) (hA : A.size = cs.length) (hs : ∀ c ∈ cs, c.sc = true) (hc : ∀ (i : Nat) (c : AVal), cs[i]? = some c → VR own M c (A.getD i undef)) : VR own M (.agg cs) (.agg A)
  | tup (cs : List AVal) (A : Array Value) (hA : A.size = cs.length) (hc : ∀ (i : Nat) (c : AVal), cs[i]? = some c → VR own M c (A.getD i undef)) : VR own M (.tup cs) (.tuple A)
  | arr (r i j n z : Nat) (p : Spot) (a : Addr) (cap : Nat) (h : own r = some p) (hn : n ≤ cap) (hm : cap ≤ 9223372036854775807) (hc : 0 < cap → a = ⟨p.b, p.s + i * p.k + j, none⟩ ∧ j + cap * z ≤ p.k) : VR own M (.arr r i j n z) (.slice (some a) n cap)
  | yld (r : Nat) (p : Spot) (h : own r = some p) : VR own M (.yld r) (.func (.yield p.b) #[] #[])
  | slc (r o n c : Nat) (p : Spot) (a : Option Addr) (cap : Nat) (h : own r = some p) (hn : n ≤ c) (hcc : c ≤ cap) (hm : cap ≤ 9223372036854775807) (hc : 0 < cap → a = some ⟨p.b, p.s + o * p.k, none⟩ ∧ p.s + (o + cap) * p.k ≤ p.e) :
      VR own M (.slc r o n c) (.slice a n cap)

theorem VR.mono {own own' : Own} {M M' : Mem} (ho : own.le own') (hM : M.le M') {c : AVal} {v : Value} (h : VR own M c v) : VR own' M' c v := by
  induction h with
  | undef v => exact .undef v
  | int k n => exact .int k n
  | bool b => exact .bool b
  | str s => exact .str s
  | nilp => exact .nilp
  | ptr r i j p h => exact .ptr r i j p (ho _ _ h)
  | ro cs j b o arr hb hl _ ih => exact .ro cs j b o arr (hM _ _ hb) hl ih
  | nils => exact .nils
  | e0 a => exact .e0 a
  | sl r o n p a cap h hn hm hc => exact .sl r o n p a cap (ho _ _ h) hn hm hc
  | rs k rows a cap b o arr hn hm hx ha hb hk hl _ ih => exact .rs k rows a cap b o arr hn hm hx ha (fun h => hM _ _ (hb h)) hk hl ih
  | func f fs cs F C hF hC _ _ ih1 ih2 => exact .func f fs cs F C hF hC ih1 ih2
  | nilf => exact .nilf
  | nilm => exact .nilm
  | mp r p h => exact .mp r p (ho _ _ h)
  | agg cs A hA hs _ ih => exact .agg cs A hA hs ih
  | tup cs A hA _ ih => exact .tup cs A hA ih
  | arr r i j n z p a cap h hn hm hc => exact .arr r i j n z p a cap (ho _ _ h) hn hm hc
  | yld r p h => exact .yld r p (ho _ _ h)
  | slc r o n c p a cap h hn hcc hm hc => exact .slc r o n c p a cap (ho _ _ h) hn hcc hm hc

theorem VR.oneCell {own : Own} {M : Mem} {c : AVal} {v : Value} (h : VR own M c v) (hs : c.sc = true) : v.oneCell' = true := by
  cases h <;> first | rfl | (simp [AVal.sc] at hs)

/-- an object in a world -/
def OR (own : Own) (M : Mem) (w : World) (p : Spot) : AObj → Prop
  | .cells k rows => p.k = k ∧ 0 < k ∧ (∀ row ∈ rows, row.length = k) ∧ p.s + rows.length * k ≤ p.e ∧ (p.s < p.e → M p.b = none ∧ ∃ arr T, w.heap[p.b]? = some (.cells arr T (0, 0)) ∧ p.e ≤ arr.size) ∧
      ∀ (i j : Nat) (row : List AVal) (c : AVal), rows[i]? = some row → row[j]? = some c → ∃ v, w.cell? ⟨p.b, p.s + i * k + j, none⟩ = some v ∧ VR own M c v
  | .map es => p.s < p.e ∧ M p.b = none ∧ ∃ (E : Array MapEntry) (clk : Nat), w.heap[p.b]? = some (.map E clk) ∧ E.size = es.length ∧ ((∀ e ∈ E.toList, e.born < clk) ∧ (E.toList.map (·.born)).Nodup) ∧
      ∀ (i : Nat) (e : AVal × AVal) (x : MapEntry), es[i]? = some e → E[i]? = some x → VR own M e.1 x.key ∧ VR own M e.2 x.val
  | .loop pend ps assign body fr nt => p.s < p.e ∧ M p.b = none ∧ ∃ r : Loop, w.heap[p.b]? = some (.loop r) ∧ r.state = (if pend.isNone then .ready else .done) ∧ r.pending = pend ∧ r.params = ps ∧ r.assign = assign ∧ r.body = body ∧ r.tmps.size = nt ∧
      ∀ t, VR own M (fr t) (r.tmps.getD t undef)
  | .mapR E clk es => p.s < p.e ∧ M p.b = none ∧ w.heap[p.b]? = some (.map E clk) ∧ E.size = es.length ∧ ((∀ e ∈ E.toList, e.born < clk) ∧ (E.toList.map (·.born)).Nodup) ∧
      ∀ (i : Nat) (e : AVal × AVal) (x : MapEntry), es[i]? = some e → E[i]? = some x → VR own M e.1 x.key ∧ VR own M e.2 x.val
  | .iter m seen => p.s < p.e ∧ p.s = 0 ∧ M p.b = none ∧ match m with
    | none => ∃ c sn d, w.heap[p.b]? = some (.mapIter none c sn d)
    | some (r, E, clk) => (∀ i ∈ seen, i < E.size) ∧ ∃ q, own r = some q ∧ w.heap[p.b]? = some (.mapIter (some q.b) clk (seen.map fun i => (E.getD i default).born).toArray clk)

structure St (own : Own) (M : Mem) (η : AHeap) (n : Nat) (w : World) : Prop where
  fresh : ∀ r, n ≤ r → own r = none
  obj : ∀ r o, η r = some o → ∃ p, own r = some p ∧ OR own M w p o
  inj : ∀ r r' p p' o o', r ≠ r' → η r = some o → η r' = some o' → own r = some p → own r' = some p' → p.s < p.e → p'.s < p'.e → p.b ≠ p'.b
  mem : ∀ b arr, M b = some arr → ∃ T z, w.heap[b]? = some (.cells arr T z)

/-- the blocks that the objects lie in -/
def OB (own : Own) (η : AHeap) (b : Nat) : Prop := ∃ r p o, η r = some o ∧ own r = some p ∧ p.s < p.e ∧ p.b = b

/-- but for some blocks, what was there is as it was -/
structure Fr (D : Nat → Prop) (w w' : World) : Prop where
  os : w'.os = w.os
  tape : w'.tape = w.tape
  output : w'.output = w.output
  size : w.heap.size ≤ w'.heap.size
  block : ∀ b, b < w.heap.size → ¬ D b → w'.heap[b]? = w.heap[b]?

theorem Fr.refl (D : Nat → Prop) (w : World) : Fr D w w := ⟨rfl, rfl, rfl, Nat.le_refl _, fun _ _ _ => rfl⟩
theorem Fr.trans {D D' : Nat → Prop} {a b c : World} (h : Fr D a b) (k : Fr D' b c) (hD : ∀ x, x < a.heap.size → D' x → D x) : Fr D a c :=
  ⟨k.os.trans h.os, k.tape.trans h.tape, k.output.trans h.output, Nat.le_trans h.size k.size, fun x hx hd => (k.block x (Nat.lt_of_lt_of_le hx h.size) fun h' => hd (hD x hx h')).trans (h.block x hx hd)⟩
theorem Fr.weaken {D D' : Nat → Prop} {a b : World} (h : Fr D a b) (hD : ∀ x, D x → D' x) : Fr D' a b := ⟨h.os, h.tape, h.output, h.size, fun x hx hd => h.block x hx fun h' => hd (hD x h')⟩
theorem Fr.alloc (D : Nat → Prop) (w : World) (o : Obj) : Fr D w (w.alloc o) := ⟨rfl, rfl, rfl, by simp, fun b hb _ => Go.RowKit.Below.heap_alloc _ _ _ hb⟩
theorem Fr.drewN (D : Nat → Prop) (w : World) (n : Nat) : Fr D w { w with drawn := n } := ⟨rfl, rfl, rfl, Nat.le_refl _, fun _ _ _ => rfl⟩

section
variable {own own' : Own} {M M' : Mem} {η η' : AHeap} {n n' : Nat} {w w' : World}

theorem blk_lt' {b : Nat} {o : Obj} (h : w.heap[b]? = some o) : b < w.heap.size := (Array.getElem?_eq_some_iff.1 h).1
theorem cell_of_heap {a : Addr} (h : ∀ b, b = a.block → w'.heap[b]? = w.heap[b]?) : w'.cell? a = w.cell? a := by
  unfold World.cell?; rw [h _ rfl]

theorem OR.lt {p : Spot} {o : AObj} (h : OR own M w p o) (hr : p.s < p.e) : p.b < w.heap.size := by
  cases o with
  | cells k rows => obtain ⟨_, _, _, _, h5, _⟩ := h; obtain ⟨_, arr, T, h6, _⟩ := h5 hr; exact blk_lt' h6
  | map es => obtain ⟨_, _, E, clk, h1, _⟩ := h; exact blk_lt' h1
  | loop pend ps as bd fr nt => obtain ⟨_, _, r, h1, _⟩ := h; exact blk_lt' h1
  | mapR E clk es => obtain ⟨_, _, h1, _⟩ := h; exact blk_lt' h1
  | iter m seen =>
    obtain ⟨_, _, _, h1⟩ := h
    cases m with
    | none => obtain ⟨_, _, _, h1⟩ := h1; exact blk_lt' h1
    | some x => obtain ⟨_, _, _, h1⟩ := h1; exact blk_lt' h1
theorem OR.noMem {p : Spot} {o : AObj} (h : OR own M w p o) (hr : p.s < p.e) : M p.b = none := by
  cases o with
  | cells k rows => obtain ⟨_, _, _, _, h5, _⟩ := h; exact (h5 hr).1
  | map es => exact h.2.1
  | loop pend ps as bd fr nt => exact h.2.1
  | mapR E clk es => exact h.2.1
  | iter m seen => exact h.2.2.1

/-- an object stays, where its block does, and the values' places are kept -/
theorem OR.keep {p : Spot} {o : AObj} (h : OR own M w p o) (ho : own.le own') (hM : M.le M') (hb : p.s < p.e → w'.heap[p.b]? = w.heap[p.b]?) (hm : p.s < p.e → M' p.b = none) : OR own' M' w' p o := by
  cases o with
  | cells k rows =>
    obtain ⟨h1, h2, h3, h4, h5, h6⟩ := h
    refine ⟨h1, h2, h3, h4, fun hr => ⟨hm hr, ?_⟩, fun i j row c hi hj => ?_⟩
    · obtain ⟨_, arr, T, g1, g2⟩ := h5 hr
      exact ⟨arr, T, (hb hr).trans g1, g2⟩
    · obtain ⟨v, g1, g2⟩ := h6 i j row c hi hj
      have hil := (List.getElem?_eq_some_iff.1 hi).1
      have hr : p.s < p.e := by
        have : 1 * k ≤ rows.length * k := Nat.mul_le_mul_right k (by omega)
        omega
      exact ⟨v, (cell_of_heap (a := ⟨p.b, _, none⟩) (fun b e => by subst e; exact hb hr)).trans g1, g2.mono ho hM⟩
  | map es =>
    obtain ⟨h1, h2, E, clk, h3, h4, h5, h6⟩ := h
    exact ⟨h1, hm h1, E, clk, (hb h1).trans h3, h4, h5, fun i e x hi hx => ⟨((h6 i e x hi hx).1).mono ho hM, ((h6 i e x hi hx).2).mono ho hM⟩⟩
  | loop pend ps as bd fr nt =>
    obtain ⟨h1, h2, r, h3, h4, h5, h6, h7, h8, h9, h10⟩ := h
    exact ⟨h1, hm h1, r, (hb h1).trans h3, h4, h5, h6, h7, h8, h9, fun t => (h10 t).mono ho hM⟩
  | mapR E clk es =>
    obtain ⟨h1, h2, h3, h4, h5, h6⟩ := h
    exact ⟨h1, hm h1, (hb h1).trans h3, h4, h5, fun i e x hi hx => ⟨((h6 i e x hi hx).1).mono ho hM, ((h6 i e x hi hx).2).mono ho hM⟩⟩
  | iter m seen =>
    obtain ⟨h1, h0, h2, h3⟩ := h
    refine ⟨h1, h0, hm h1, ?_⟩
    cases m with
    | none => obtain ⟨c, sn, d, h4⟩ := h3; exact ⟨c, sn, d, (hb h1).trans h4⟩
    | some x => obtain ⟨h6, q, h4, h5⟩ := h3; exact ⟨h6, q, ho _ _ h4, (hb h1).trans h5⟩

theorem OB.lt (h : St own M η n w) {b : Nat} (hb : OB own η b) : b < w.heap.size := by
  obtain ⟨r, p, o, h1, h2, h3, rfl⟩ := hb
  obtain ⟨p', g1, g2⟩ := h.obj r o h1
  rw [h2] at g1; cases g1
  exact g2.lt h3
theorem St.mem_lt (h : St own M η n w) {b : Nat} {arr : Array Value} (hb : M b = some arr) : b < w.heap.size := by
  obtain ⟨T, z, g⟩ := h.mem b arr hb; exact blk_lt' g
theorem St.own_lt (h : St own M η n w) {r : Nat} {p : Spot} (hr : own r = some p) : r < n := by
  rcases Nat.lt_or_ge r n with h' | h'
  · exact h'
  · rw [h.fresh r h'] at hr; cases hr
theorem St.lt (h : St own M η n w) {r : Nat} {o : AObj} (hr : η r = some o) : r < n := by
  obtain ⟨p, g, _⟩ := h.obj r o hr; exact h.own_lt g

/-- less is known -/
theorem St.less (h : St own M η n w) (hη : η'.le η) (hn : n ≤ n') : St own M η' n' w :=
  ⟨fun r hr => h.fresh r (Nat.le_trans hn hr), fun r o hr => h.obj r o (hη r o hr), fun r r' p p' o o' hne hr hr' => h.inj r r' p p' o o' hne (hη r o hr) (hη r' o' hr'), h.mem⟩
theorem OB.less {b : Nat} (hη : η'.le η) (h : OB own η' b) : OB own η b := by
  obtain ⟨r, p, o, h1, h2⟩ := h; exact ⟨r, p, o, hη _ _ h1, h2⟩

/-- another world, alike where it matters -/
theorem St.world (h : St own M η n w) (hb : ∀ b, OB own η b → w'.heap[b]? = w.heap[b]?) (hm : ∀ b arr, M b = some arr → w'.heap[b]? = w.heap[b]?) : St own M η n w' := by
  refine ⟨h.fresh, fun r o hr => ?_, h.inj, fun b arr hM => ?_⟩
  · obtain ⟨p, g1, g2⟩ := h.obj r o hr
    exact ⟨p, g1, g2.keep (Own.le_refl _) (Mem.le_refl _) (fun hre => hb _ ⟨r, p, o, hr, g1, hre, rfl⟩) (fun hre => g2.noMem hre)⟩
  · obtain ⟨T, z, g⟩ := h.mem b arr hM
    exact ⟨T, z, (hm b arr hM).trans g⟩
theorem St.drawn (h : St own M η n w) (k : Nat) : St own M η n { w with drawn := k } := h.world (fun _ _ => rfl) (fun _ _ _ => rfl)

def Own.put (own : Own) (r : Nat) (p : Spot) : Own := fun x => if x = r then some p else own x
theorem Own.le_put {r : Nat} (h : own r = none) (p : Spot) : own.le (own.put r p) := fun x q hx => by
  unfold Own.put; split
  · rename_i e; subst e; rw [h] at hx; cases hx
  · exact hx

/-- a new object, in whatever spot that nobody else has -/
theorem St.add (h : St own M η n w) {o : AObj} {p : Spot} (hor : OR (own.put n p) M w' p o) (hnew : p.s < p.e → ∀ r q o, η r = some o → own r = some q → q.s < q.e → q.b ≠ p.b)
    (hb : ∀ b, OB own η b → w'.heap[b]? = w.heap[b]?) (hm : ∀ b arr, M b = some arr → w'.heap[b]? = w.heap[b]?) : St (own.put n p) M (upd η n (some o)) (n + 1) w' := by
  have hfn := h.fresh n (Nat.le_refl _)
  have hle := Own.le_put hfn p
  have hnn : ∀ r o', η r = some o' → r ≠ n := fun r o' hr e => by have := h.lt hr; omega
  refine ⟨fun r hr => ?_, fun r o' hr => ?_, fun r r' q q' o1 o2 hne hr hr' hq hq' hs hs' => ?_, fun b arr hM => ?_⟩
  · unfold Own.put; rw [if_neg (by omega)]; exact h.fresh r (by omega)
  · by_cases e : r = n
    · subst e
      rw [upd_eq] at hr; cases hr
      exact ⟨p, by simp [Own.put], hor⟩
    · rw [upd_ne e] at hr
      obtain ⟨q, g1, g2⟩ := h.obj r o' hr
      exact ⟨q, hle _ _ g1, g2.keep hle (Mem.le_refl _) (fun hre => hb _ ⟨r, q, o', hr, g1, hre, rfl⟩) (fun hre => g2.noMem hre)⟩
  · have key : ∀ r q o1, upd η n (some o) r = some o1 → own.put n p r = some q → r ≠ n → η r = some o1 ∧ own r = some q := fun r q o1 h1 h2 e => by
      rw [upd_ne e] at h1; simp only [Own.put, if_neg e] at h2; exact ⟨h1, h2⟩
    by_cases e : r = n
    · have e' : r' ≠ n := fun e2 => hne (e.trans e2.symm)
      obtain ⟨k1, k2⟩ := key _ _ _ hr' hq' e'
      subst e
      simp only [Own.put, if_true, Option.some.injEq] at hq
      subst hq
      exact (hnew hs r' q' o2 k1 k2 hs').symm
    · obtain ⟨k1, k2⟩ := key _ _ _ hr hq e
      by_cases e' : r' = n
      · subst e'
        simp only [Own.put, if_true, Option.some.injEq] at hq'
        subst hq'
        exact hnew hs' r q o1 k1 k2 hs
      · obtain ⟨k3, k4⟩ := key _ _ _ hr' hq' e'
        exact h.inj r r' q q' o1 o2 hne k1 k3 k2 k4 hs hs'
  · obtain ⟨T, z, g⟩ := h.mem b arr hM
    exact ⟨T, z, (hm b arr hM).trans g⟩

theorem OB.add {o : AObj} {p : Spot} {b : Nat} (hfn : own n = none) (h : OB (own.put n p) (upd η n (some o)) b) : OB own η b ∨ b = p.b := by
  obtain ⟨r, q, o', h1, h2, h3, h4⟩ := h
  by_cases e : r = n
  · subst e
    simp only [Own.put, if_true, Option.some.injEq] at h2
    subst h2; exact Or.inr h4.symm
  · rw [upd_ne e] at h1; simp only [Own.put, if_neg e] at h2
    exact Or.inl ⟨r, q, o', h1, h2, h3, h4⟩

/-- an object is turned into another one at its place -/
theorem St.turn (h : St own M η n w) {r : Nat} {o o' : AObj} {p : Spot} (hr : η r = some o) (hp : own r = some p) (hor : OR own M w' p o') (hb : ∀ b, b ≠ p.b → w'.heap[b]? = w.heap[b]?) (hre : p.s < p.e) :
    St own M (upd η r (some o')) n w' := by
  obtain ⟨p', g1, g2⟩ := h.obj r o hr
  rw [hp] at g1; cases g1
  refine ⟨h.fresh, fun x o1 hx => ?_, fun x x' q q' o1 o2 hne hx hx' hq hq' hs hs' => ?_, fun b arr hM => ?_⟩
  · by_cases e : x = r
    · subst e; rw [upd_eq] at hx; cases hx; exact ⟨p, hp, hor⟩
    · rw [upd_ne e] at hx
      obtain ⟨q, k1, k2⟩ := h.obj x o1 hx
      exact ⟨q, k1, k2.keep (Own.le_refl _) (Mem.le_refl _) (fun hq => hb _ (h.inj x r q p o1 o e hx hr k1 hp hq hre)) (fun hq => k2.noMem hq)⟩
  · have key : ∀ x o1, upd η r (some o') x = some o1 → ∃ o2, η x = some o2 := fun x o1 hx => by
      by_cases e : x = r
      · subst e; exact ⟨o, hr⟩
      · rw [upd_ne e] at hx; exact ⟨o1, hx⟩
    obtain ⟨a1, k1⟩ := key x o1 hx
    obtain ⟨a2, k2⟩ := key x' o2 hx'
    exact h.inj x x' q q' a1 a2 hne k1 k2 hq hq' hs hs'
  · obtain ⟨T, z, g⟩ := h.mem b arr hM
    have : b ≠ p.b := fun e => by subst e; rw [g2.noMem hre] at hM; cases hM
    exact ⟨T, z, (hb b this).trans g⟩
theorem OB.turn {r : Nat} {o o' : AObj} {b : Nat} (hr : η r = some o) (h : OB own (upd η r (some o')) b) : OB own η b := by
  obtain ⟨x, q, o1, h1, h2⟩ := h
  by_cases e : x = r
  · subst e; exact ⟨x, q, o, hr, h2⟩
  · rw [upd_ne e] at h1; exact ⟨x, q, o1, h1, h2⟩
end
end Go.Proofs.YtbomkomipaipmaaGreat
namespace Go.Proofs.YtbomkomipaipmaaGreat

def setf (fr : Nat → AVal) (d : Nat) (v : AVal) : Nat → AVal := fun t => if t = d then v else fr t
theorem setf_eq (fr : Nat → AVal) (d : Nat) (v : AVal) : setf fr d v d = v := by simp [setf]
theorem setf_ne {fr : Nat → AVal} {d t : Nat} {v : AVal} (h : t ≠ d) : setf fr d v t = fr t := by simp [setf, h]

structure AState where
  fr : Nat → AVal
  nt : Nat
  η : AHeap
  n : Nat

def AState.put (s : AState) (d : Option Tmp) (v : AVal) : AState :=
  match d with
  | some d => if d < s.nt then { s with fr := setf s.fr d v } else s
  | none => s

def abs1 : Value → AVal
  | .int k n => .int k n
  | .bool b => .bool b
  | .string s => .str s
  | .pointer none => .nilp
  | .slice none 0 0 => .nils
  | .map none => .nilm
  | .nilFunc => .nilf
  | .func (.func f) F C => if F.size = 0 ∧ C.size = 0 then .func f [] [] else .undef
  | _ => .undef
def abs : Value → AVal
  | .agg A => if (A.toList.map abs1).all AVal.sc then .agg (A.toList.map abs1) else .undef
  | v => abs1 v

theorem vr_abs1 (own : Own) (M : Mem) (v : Value) : VR own M (abs1 v) v := by
  unfold abs1
  split <;> first | constructor | skip
  rename_i f F C
  split
  · rename_i h
    exact .func f [] [] F C (by simpa using h.1) (by simpa using h.2) (fun i c h => by simp at h) (fun i c h => by simp at h)
  · exact .undef _
theorem vr_abs (own : Own) (M : Mem) (v : Value) : VR own M (abs v) v := by
  unfold abs
  split
  · rename_i A
    split
    · rename_i h
      refine .agg _ A (by simp) (fun c hc => List.all_eq_true.1 h c hc) fun i c hc => ?_
      rw [List.getElem?_map] at hc
      cases hx : A.toList[i]? with
      | none => rw [hx] at hc; simp at hc
      | some x =>
        rw [hx] at hc; simp at hc
        rw [Array.getElem?_toList] at hx
        subst hc
        have : A.getD i undef = x := by simp [Array.getD_eq_getD_getElem?, hx]
        rw [this]; exact vr_abs1 own M x
    · exact .undef _
  · exact vr_abs1 own M v

def aev (fr : Nat → AVal) : Operand → AVal
  | .tmp t => fr t
  | .const v => abs v
  | .func f => .func f [] []
  | .global _ => .undef

theorem aev_sound {own : Own} {M : Mem} {fr : Nat → AVal} {a : Act} (h : ∀ t, VR own M (fr t) (a.tmps.getD t undef)) (x : Operand) : VR own M (aev fr x) (a.eval x) := by
  cases x with
  | tmp t => exact h t
  | const v => exact vr_abs own M v
  | func f => exact .func f [] [] #[] #[] rfl rfl (fun i c h => by simp at h) (fun i c h => by simp at h)
  | global g => exact .undef _

/-! ### Types -/
section
variable (P : Program)
def isAggD : TypeDesc → Bool
  | .struct _ | .array _ _ => true
  | _ => false
/-- a type's shape: struct or array? and its cells -/
def tsh (t : TypeId) : Option (Bool × Nat) :=
  match P.underlying t, P.info? t with
  | some d, some i => some (isAggD d, i.size)
  | _, _ => none
def tzero (t : TypeId) : Option (List AVal) :=
  match P.info? t with
  | some i => match i.zero with
    | some v => if (v.cells.toList.map abs1).all AVal.sc && decide (v.cells.size = i.size) then some (v.cells.toList.map abs1) else none
    | none => none
  | none => none
def telem (t : TypeId) : Option TypeId :=
  match P.underlying t with
  | some (.slice e) => some e
  | _ => none
def tarr (t : TypeId) : Option (Nat × TypeId) :=
  match P.underlying t with
  | some (.array n e) => some (n, e)
  | _ => none
def tsize (t : TypeId) : Option Nat := (P.info? t).map (·.size)
/-- a field's first cell, its type, its cells -/
def tfld (t : TypeId) (f : Nat) : Option (Nat × TypeId × Nat) :=
  match P.underlying t with
  | some (.struct fs) => match fs[f]? with
    | some x => match tsize P x.type with
      | some n => if n = 0 then none else some (x.offset, x.type, n)
      | none => none
    | none => none
  | _ => none
def tint (t : TypeId) : Option IntKind :=
  match P.underlying t with
  | some (.int k) => some k
  | _ => none
def tbytes (t : TypeId) : Option Nat := (P.info? t).map (·.bytes)

/-! ### Values of operations that leave memory alone -/
def asNatI : AVal → Option Int
  | .int _ n => some n
  | _ => none

/-- n cells from j on, as one value of a type -/
def apart (agg : Bool) (n : Nat) (cs : List AVal) (j : Nat) : Option AVal :=
  if agg then (if j + n ≤ cs.length ∧ ((cs.drop j).take n).all AVal.sc = true then some (.agg ((cs.drop j).take n)) else none)
  else cs[j]?

def aload (t : TypeId) (p : AVal) (η : AHeap) : Option AVal :=
  match tsh P t with
  | none => none
  | some (g, n) =>
    match p with
    | .ro cs j => apart g n cs j
    | .ptr r i j => match η r with
      | some (.cells _ rows) => match rows[i]? with
        | some row => apart g n row j
        | none => none
      | _ => none
    | _ => none

def plainV : AVal → Option Value
  | .int k n => some (.int k n)
  | .bool b => some (.bool b)
  | .str s => some (.string s)
  | _ => none
/-- two plain operands: what the model makes of them -/
def abinP (op : BinOp) (t : TypeId) (x y : Value) : Option AVal :=
  match Go.binOp op t x y with
  | .pure v => some (abs1 v)
  | _ => none
def abin (op : BinOp) (t : TypeId) (x y : AVal) : Option AVal :=
  match plainV x, plainV y with
  | some u, some v => abinP op t u v
  | _, _ => none
def aun (op : UnOp) (x : AVal) : Option AVal :=
  match op, x with
  | .not, .bool b => some (.bool !b)
  | .neg, .int k n => some (.int k (k.wrap (0 - n)))
  | .xor, .int k n => some (.int k (k.wrap (BitVec.ofInt k.bits (if k.signed then -1 else k.max) ^^^ BitVec.ofInt k.bits n).toNat))
  | _, _ => none
def aconv (dst : TypeId) (x : AVal) : Option AVal :=
  match tint P dst, x with
  | some k, .int _ n => some (.int k (k.wrap n))
  | _, _ => none
def afield (s : TypeId) (x : AVal) (f : Nat) : Option AVal :=
  match tfld P s f with
  | none => none
  | some (o, _, _) => match x with
    | .ptr r i j => some (.ptr r i (j + o))
    | .ro cs j => some (.ro cs (j + o))
    | _ => none
def afldv (s : TypeId) (x : AVal) (f : Nat) : Option AVal :=
  match tfld P s f, x with
  | some (o, t, _), .agg cs => match tsh P t with
    | some (g, n) => apart g n cs o
    | none => none
  | _, _ => none
def aindex (t : TypeId) (x ix : AVal) (η : AHeap) : Option AVal :=
  match ix with
  | .int _ i =>
    match telem P t, x with
    | some e, .sl r o n => match η r with
      | some (.cells k _) => if tsize P e = some k ∧ 0 ≤ i ∧ i < n then some (.ptr r (o + i.toNat) 0) else none
      | _ => none
    | some e, .rs k rows => if tsize P e = some k ∧ 0 ≤ i then (match rows[i.toNat]? with | some row => some (.ro row 0) | none => none) else none
    | some e, .arr r ii j n z => if tsize P e = some z ∧ 0 ≤ i ∧ i < n then some (.ptr r ii (j + i.toNat * z)) else none
    | none, x => match tarr P t, x with
      | some (n, e), .ptr r ii j => match tsize P e with
        | some z => if 0 ≤ i ∧ i < n ∧ 2 ≤ n then some (.ptr r ii (j + i.toNat * z)) else none
        | none => none
      | some (n, e), .ro cs j => match tsize P e with
        | some z => if 0 ≤ i ∧ i < n ∧ 2 ≤ n then some (.ro cs (j + i.toNat * z)) else none
        | none => none
      | _, _ => none
    | _, _ => none
  | _ => none
/-- an element of a value: of an array, of a string -/
def aindexv (t : TypeId) (x ix : AVal) : Option AVal :=
  match ix, x with
  | .int _ i, .str s => match P.underlying t with
    | some .string => if 0 ≤ i then (match s[i.toNat]? with | some b => some (.int .u8 b.toNat) | none => none) else none
    | _ => none
  | .int _ i, .agg cs => match tarr P t with
    | some (n, e) => match tsh P e with
      | some (g, z) => if 0 ≤ i ∧ i < n then apart g z cs (i.toNat * z) else none
      | none => none
    | none => none
  | _, _ => none
def aextract (x : AVal) (i : Nat) : Option AVal :=
  match x with
  | .tup vs => vs[i]?
  | _ => none
/-- the bounds of a reslicing: low, high -/
def abnd (lo hi : Option AVal) (n : Nat) : Option (Nat × Nat) :=
  match (match hi with | none => some (n : Int) | some (.int _ h) => if 0 ≤ h ∧ h ≤ n then some h else none | _ => none) with
  | none => none
  | some h => match (match lo with | none => some (0 : Int) | some (.int _ l) => if 0 ≤ l ∧ l ≤ h then some l else none | _ => none) with
    | none => none
    | some l => some (l.toNat, h.toNat)
def abndC (lo hi mx : Option AVal) (n c : Nat) : Option (Nat × Nat × Nat) :=
  match (match mx with | none => some (c : Int) | some (.int _ m) => if 0 ≤ m ∧ m ≤ c then some m else none | _ => none) with
  | none => none
  | some m => match (match hi with | none => if mx.isNone then some (n : Int) else none | some (.int _ h) => if 0 ≤ h ∧ h ≤ m then some h else none | _ => none) with
    | none => none
    | some h => match (match lo with | none => some (0 : Int) | some (.int _ l) => if 0 ≤ l ∧ l ≤ h then some l else none | _ => none) with
      | none => none
      | some l => some (l.toNat, h.toNat, m.toNat)
def aslcV (t : TypeId) (r o n c : Nat) (lo hi mx : Option AVal) (η : AHeap) : Option AVal :=
  match telem P t with
  | some e => match η r with
    | some (.cells k _) => if tsize P e = some k then (match abndC lo hi mx n c with | some (l, h, m) => some (.slc r (o + l) (h - l) (m - l)) | none => none) else none
    | _ => none
  | none => none
def asliceV (t : TypeId) (x : AVal) (lo hi mx : Option AVal) (η : AHeap) : Option AVal :=
  match x with
  | .slc r o n c => aslcV P t r o n c lo hi mx η
  | x => match mx with
  | some _ => none
  | none => match telem P t, x with
    | some e, .rs k rows => if tsize P e = some k then (match abnd lo hi rows.length with | some (l, h) => some (.rs k ((rows.take h).drop l)) | none => none) else none
    | some e, .sl r o n => match η r with
      | some (.cells k _) => if tsize P e = some k then (match abnd lo hi n with | some (l, h) => some (.sl r (o + l) (h - l)) | none => none) else none
      | _ => none
    | some e, .nils => if abnd lo hi 0 = some (0, 0) ∧ (tsize P e).isSome then some .nils else none
    | some e, .e0 => if abnd lo hi 0 = some (0, 0) ∧ (tsize P e).isSome then some .e0 else none
    | some e, .arr r i j n z => if tsize P e = some z then (match abnd lo hi n with | some (l, h) => some (.arr r i (j + l * z) (h - l) z) | none => none) else none
    | none, .ptr r i j => match tarr P t, η r with
      | some (N, e), some (.cells k _) => match tsize P e with
        | some z => if j + N * z ≤ k ∧ N ≤ 9223372036854775807 then (match abnd lo hi N with | some (l, h) => some (.arr r i (j + l * z) (h - l) z) | none => none) else none
        | none => none
      | _, _ => none
    | none, .str s => match P.underlying t with
      | some .string => match abnd lo hi s.size with
        | some (l, h) => some (.str (s.extract l h))
        | none => none
      | _ => none
    | _, _ => none
def acells : AVal → List AVal
  | .agg cs => cs
  | v => [v]
end
end Go.Proofs.YtbomkomipaipmaaGreat
namespace Go.Proofs.YtbomkomipaipmaaGreat

/-- are two keys the same? -/
def akeq (D : TypeDesc) (a b : AVal) : Option Bool :=
  match D, a, b with
  | .int _, .int k x, .int k' y => if k = k' then some (x == y) else none
  | .string, .str x, .str y => some (x == y)
  | .bool, .bool x, .bool y => some (x == y)
  | _, _, _ => none
def akOK (D : TypeDesc) (k : AVal) : Bool :=
  match D, k with
  | .int _, .int _ _ | .string, .str _ | .bool, .bool _ => true
  | _, _ => false
def afind (D : TypeDesc) (k : AVal) : List (AVal × AVal) → Nat → Option (Option (Nat × AVal))
  | [], _ => some none
  | e :: es, i => match akeq D k e.1 with
    | some true => some (some (i, e.2))
    | some false => afind D k es (i + 1)
    | none => none
section
variable (P : Program)
def ainsert (t : TypeId) (m k v : AVal) (η : AHeap) : Option AHeap :=
  match P.underlying t, m with
  | some (.map kt _), .mp r => match P.underlying kt, η r with
    | some D, some (.map es) => if akOK D k = true then (match afind D k es 0 with
      | some none => some (upd η r (some (.map (es ++ [(k, v)]))))
      | some (some (i, _)) => some (upd η r (some (.map (es.set i (k, v)))))
      | none => none) else none
    | _, _ => none
  | _, _ => none
end

section
variable (P : Program)
/-- a type's zero -/
def azv (t : TypeId) : Option AVal := match P.info? t with
  | some i => i.zero.map abs
  | none => none
def alookup (t : TypeId) (x k : AVal) (ok : Bool) (η : AHeap) : Option AVal :=
  match P.underlying t with
  | some (.map kt vt) => match P.underlying kt with
    | some D => if akOK D k = true then (match (match x with
        | .nilm => some []
        | .mp r => (match η r with
          | some (.map es) => some es
          | _ => none)
        | _ => none) with
      | some es => match afind D k es 0 with
        | some (some (_, v)) => some (if ok then .tup [v, .bool true] else v)
        | some none => (azv P vt).map fun v => if ok then .tup [v, .bool false] else v
        | none => none
      | none => none) else none
    | none => none
  | _ => none
end
section
variable {P : Program} {own : Own} {M : Mem} {η : AHeap} {n : Nat} {w : World} {K : AVal → AHeap → Nat → Prop}
theorem akeq_sound {D : TypeDesc} {a b : AVal} {u v : Value} {t : Bool} (hu : VR own M a u) (hv : VR own M b v) (h : akeq D a b = some t) : Instr.sameNow D u v = some t := by
  unfold akeq at h
  split at h
  · cases hu; cases hv
    unfold Instr.sameNow
    exact h
  · cases hu; cases hv; unfold Instr.sameNow; exact h
  · cases hu; cases hv; unfold Instr.sameNow; exact h
  · cases h
theorem afind_sound {D : TypeDesc} {k : AVal} {u : Value} (hu : VR own M k u) : ∀ (es : List (AVal × AVal)) (E : List MapEntry) (i : Nat) (r : Option (Nat × AVal)), E.length = es.length →
    (∀ (j : Nat) (e : AVal × AVal) (x : MapEntry), es[j]? = some e → E[j]? = some x → VR own M e.1 x.key ∧ VR own M e.2 x.val) → afind D k es i = some r →
    (r = none ∧ Instr.findNow D u E i = some none) ∨ ∃ j a e x, r = some (i + j, a) ∧ es[j]? = some e ∧ E[j]? = some x ∧ a = e.2 ∧ akeq D k e.1 = some true ∧ Instr.findNow D u E i = some (some (i + j, x.val))
  | [], E, i, r, hl, _, h => by
    have : E = [] := List.eq_nil_of_length_eq_zero (by simpa using hl)
    subst this
    simp [afind] at h
    exact Or.inl ⟨h.symm, rfl⟩
  | e :: es, [], i, r, hl, _, h => by simp at hl
  | e :: es, x :: E, i, r, hl, he, h => by
    obtain ⟨h1, h2⟩ := he 0 e x (by simp) (by simp)
    unfold afind at h
    cases hk : akeq D k e.1 with
    | none => rw [hk] at h; cases h
    | some b =>
      have hs := akeq_sound hu h1 hk
      cases b with
      | true =>
        rw [hk] at h; cases h
        refine Or.inr ⟨0, e.2, e, x, by simp, by simp, by simp, rfl, hk, ?_⟩
        unfold Instr.findNow; rw [hs]; rfl
      | false =>
        rw [hk] at h
        simp only at h
        rcases afind_sound hu es E (i + 1) r (by simpa using hl) (fun j e' x' g1 g2 => he (j + 1) e' x' (by simpa using g1) (by simpa using g2)) h with ⟨g1, g2⟩ | ⟨j, a, e', x', g1, g2, g3, g4, g5, g6⟩
        · refine Or.inl ⟨g1, ?_⟩
          unfold Instr.findNow; rw [hs]; exact g2
        · refine Or.inr ⟨j + 1, a, e', x', by rw [g1]; congr 2; omega, by simpa using g2, by simpa using g3, g4, g5, ?_⟩
          unfold Instr.findNow; rw [hs]
          rw [show i + (j + 1) = i + 1 + j by omega]; exact g6
theorem checkKey_ok {kt : TypeId} {D : TypeDesc} {k : AVal} {u : Value} (b : Bool) (hD : P.underlying kt = some D) (hk : akOK D k = true) (hu : VR own M k u) : (Instr.checkKey b 10000 kt u).run P w = .ok () w := by
  have hr := run_underlying hD w
  unfold akOK at hk
  split at hk
  · cases hu
    unfold Instr.checkKey
    simp only [Sem.run_bind, hr, Result.andThen_ok]; rfl
  · cases hu
    unfold Instr.checkKey
    simp only [Sem.run_bind, hr, Result.andThen_ok]; rfl
  · cases hu
    unfold Instr.checkKey
    simp only [Sem.run_bind, hr, Result.andThen_ok]; rfl
  · cases hk
theorem findKey_ok {kt : TypeId} {D : TypeDesc} {u : Value} {E : List MapEntry} {r : Option (Nat × Value)} (hD : P.underlying kt = some D) (h : Instr.findNow D u E 0 = some r) : (Instr.findKey kt u E).run P w = .ok r w := by
  unfold Instr.findKey
  simp only [Sem.run_bind, run_underlying hD w, Result.andThen_ok, h]; rfl
theorem bytesBeq (a b : ByteArray) : (a == b) = true ↔ a = b := by
  obtain ⟨x⟩ := a; obtain ⟨y⟩ := b
  constructor
  · intro h
    have : (x == y) = true := h
    rw [eq_of_beq this]
  · intro h
    cases h
    show (x == x) = true
    simp
theorem keyStays_ok {D : TypeDesc} {a b : AVal} {u v : Value} (hu : VR own M a u) (hv : VR own M b v) (h : akeq D a b = some true) : (Instr.keyThatStays v u).run P w = .ok u w := by
  have hs : Instr.sameBits 10000 v u = true := by
    unfold akeq at h
    split at h
    · cases hu; cases hv
      split at h
      · rename_i e; subst e
        simp at h; subst h
        simp [Instr.sameBits]
      · cases h
    · cases hu; cases hv; simp only [Option.some.injEq] at h
      simp only [Instr.sameBits]
      rename_i x y
      rw [bytesBeq] at h ⊢
      exact h.symm
    · cases hu; cases hv; simp at h; subst h
      simp [Instr.sameBits]
    · cases h
  unfold Instr.keyThatStays
  simp [hs]

theorem setMap_run {b : Nat} {E E' : Array MapEntry} {c c' : Nat} (h : w.heap[b]? = some (.map E c)) : (setObj b (.map E' c')).run P w = .ok () { w with heap := w.heap.setIfInBounds b (.map E' c') } := by
  simp [setObj, Sem.run, h]
theorem getMap_run {b : Nat} {E : Array MapEntry} {c : Nat} (h : w.heap[b]? = some (.map E c)) : (getObj b).run P w = .ok (.map E c) w := by
  simp [getObj, Sem.run, h]
/-- an entry put into a map -/
theorem insert_sound (hst : St own M η n w) {t : TypeId} {m k v : AVal} {um uk uv : Value} (hm : VR own M m um) (hk : VR own M k uk) (hv : VR own M v uv) {η' : AHeap} (h : ainsert P t m k v η = some η') :
    ∃ w', (Instr.mapUpdate t um uk uv).run P w = .ok () w' ∧ St own M η' n w' ∧ Fr (OB own η) w w' ∧ ∀ b, OB own η' b → OB own η b := by
  unfold ainsert at h
  split at h
  · rename_i kt vt r hu
    split at h
    · rename_i D es hD hη
      split at h
      · rename_i hok
        obtain ⟨p, hp, h1, h2, E, clk, h3, h4, h5, h6⟩ := hst.obj r _ hη
        cases hm with
        | mp _ p' hp' =>
        rw [hp] at hp'; cases hp'
        have hlt := blk_lt' h3
        have hob : OB own η p.b := ⟨r, p, _, hη, hp, h1, rfl⟩
        have go : ∀ (E' : Array MapEntry) (clk' : Nat) (es' : List (AVal × AVal)), E'.size = es'.length → ((∀ e ∈ E'.toList, e.born < clk') ∧ (E'.toList.map (·.born)).Nodup) →
            (∀ (i : Nat) (e : AVal × AVal) (x : MapEntry), es'[i]? = some e → E'[i]? = some x → VR own M e.1 x.key ∧ VR own M e.2 x.val) →
            St own M (upd η r (some (.map es'))) n { w with heap := w.heap.setIfInBounds p.b (.map E' clk') } ∧ Fr (OB own η) w { w with heap := w.heap.setIfInBounds p.b (.map E' clk') } ∧ ∀ b, OB own (upd η r (some (.map es'))) b → OB own η b := fun E' clk' es' g1 g2 g3 => by
          have hb : ∀ b, b ≠ p.b → ({ w with heap := w.heap.setIfInBounds p.b (.map E' clk') } : World).heap[b]? = w.heap[b]? := fun b hb => by
            simp [Array.getElem?_setIfInBounds_ne (Ne.symm hb)]
          refine ⟨hst.turn hη hp ⟨h1, h2, E', clk', by simp [hlt], g1, g2, g3⟩ hb h1, ⟨rfl, rfl, rfl, by simp, fun b _ hd => hb b fun e => hd (e ▸ hob)⟩, fun b hb => OB.turn hη hb⟩
        have hrun : ∀ (R : Option (Nat × Value)), Instr.findNow D uk E.toList 0 = some R → (Instr.mapUpdate t (.map (some p.b)) uk uv).run P w = (match R with
            | some (i, _) => (do
                let key ← Instr.keyThatStays (((E[i]?).map (·.key)).getD uk) uk
                setObj p.b (.map (E.modify i fun e => { e with key, val := uv }) clk) : Sem Unit).run P w
            | none => (setObj p.b (.map (E.push { key := uk, val := uv, born := clk }) (clk + 1)) : Sem Unit).run P w) := fun R hR => by
          unfold Instr.mapUpdate
          simp only [Sem.run_bind, run_underlying hu w, Result.andThen_ok, getMap_run h3, checkKey_ok false hD hok hk, findKey_ok hD hR]
          cases R with
          | none => rfl
          | some q => simp only [Sem.run_bind]
        split at h
        · rename_i hf
          cases h
          rcases afind_sound hk es E.toList 0 none (by simpa using h4) (fun j e x g1 g2 => h6 j e x g1 (by simpa using g2)) hf with ⟨_, g⟩ | ⟨j, a, e, x, g, _⟩
          · refine ⟨_, (hrun none g).trans (setMap_run h3), go _ _ _ (by simp [h4]) ⟨fun e he => ?_, ?_⟩ (fun i e x g1 g2 => ?_)⟩
            · simp at he
              rcases he with he | rfl
              · have := h5.1 e (by simpa using he); omega
              · simp
            · rw [Array.toList_push, List.map_append, List.nodup_append]
              refine ⟨h5.2, by simp, fun x hx y hy => ?_⟩
              simp at hy
              subst hy
              obtain ⟨e, he, rfl⟩ := List.mem_map.1 hx
              have := h5.1 e he
              omega
            · rcases Nat.lt_or_ge i es.length with hi | hi
              · rw [List.getElem?_append_left hi] at g1
                rw [Array.getElem?_push, if_neg (by omega)] at g2
                exact h6 i e x g1 g2
              · have hi2 : i = es.length := by
                  have := (List.getElem?_eq_some_iff.1 g1).1
                  simp at this; omega
                subst hi2
                simp at g1; subst g1
                rw [Array.getElem?_push, if_pos h4.symm] at g2
                cases g2
                exact ⟨hk, hv⟩
          · cases g
        · rename_i i a hf
          cases h
          rcases afind_sound hk es E.toList 0 _ (by simpa using h4) (fun j e x g1 g2 => h6 j e x g1 (by simpa using g2)) hf with ⟨g, _⟩ | ⟨j, a', e, x, g, g2, g3, g4, g5, g6⟩
          · cases g
          · simp only [Nat.zero_add, Option.some.injEq, Prod.mk.injEq] at g g6
            obtain ⟨rfl, rfl⟩ := g
            have g3' : E[i]? = some x := by simpa using g3
            have hks := keyStays_ok (P := P) (w := w) hk (h6 i e x g2 g3').1 g5
            refine ⟨_, (hrun _ g6).trans ?_, go (E.modify i fun e => { e with key := uk, val := uv }) clk _ (by simp [h4]) ⟨fun e he => ?_, ?_⟩ (fun i' e' x' q1 q2 => ?_)⟩
            · simp only [g3', Option.map_some, Option.getD_some, Sem.run_bind, hks, Result.andThen_ok]
              exact setMap_run h3
            · obtain ⟨i', hi', rfl⟩ := List.getElem_of_mem he
              simp only [Array.getElem_toList, Array.getElem_modify]
              have : (E[i']'(by simpa using hi')) ∈ E.toList := by simp
              have h7 := h5.1 _ this
              split <;> exact h7
            · have : (E.modify i fun e => { e with key := uk, val := uv }).toList.map (·.born) = E.toList.map (·.born) := by
                refine List.ext_getElem (by simp) fun j j1 j2 => ?_
                simp only [List.getElem_map, Array.getElem_toList, Array.getElem_modify]
                split <;> rfl
              rw [this]; exact h5.2
            · by_cases hi : i = i'
              · subst hi
                rw [Array.getElem?_modify, if_pos rfl, g3'] at q2
                simp at q2; subst q2
                rw [List.getElem?_set] at q1
                simp at q1
                obtain ⟨_, rfl⟩ := q1
                exact ⟨hk, hv⟩
              · rw [Array.getElem?_modify, if_neg hi] at q2
                rw [List.getElem?_set, if_neg hi] at q1
                exact h6 i' e' x' q1 q2
        · cases h
      · cases h
    · cases h
  · cases h
theorem azv_run {t : TypeId} {v : AVal} (h : azv P t = some v) : ∃ u, (zeroValue t).run P w = .ok u w ∧ VR own M v u := by
  unfold azv at h
  split at h
  · rename_i i hi
    cases hz : i.zero with
    | none => rw [hz] at h; cases h
    | some z =>
      rw [hz] at h; cases h
      refine ⟨z, ?_, vr_abs own M z⟩
      unfold zeroValue typeInfo
      simp only [Sem.run_bind, run_program, Result.andThen_ok, hi, Sem.run_pure, hz]
  · cases h
theorem vr_okp {ok b : Bool} {v : AVal} {u : Value} (h : VR own M v u) : VR own M (if ok then .tup [v, .bool b] else v) (if ok then .tuple #[u, .bool b] else u) := by
  cases ok
  · exact h
  · refine .tup _ _ rfl fun i c hi => ?_
    match i, hi with
    | 0, hi => simp at hi; subst hi; exact h
    | 1, hi => simp at hi; subst hi; exact .bool b
    | i + 2, hi => simp at hi
/-- a key looked up -/
theorem lookup_sound (hst : St own M η n w) {t : TypeId} {x k v : AVal} {ux uk : Value} {ok : Bool} (hx : VR own M x ux) (hk : VR own M k uk) (h : alookup P t x k ok η = some v) :
    ∃ u, (Instr.lookup t ux uk ok).run P w = .ok u w ∧ VR own M v u := by
  unfold alookup at h
  split at h
  · rename_i kt vt hu
    split at h
    · rename_i D hD
      split at h
      · rename_i hok
        split at h
        · rename_i es hes
          have key : ∀ (E : Array MapEntry), E.size = es.length → (∀ (j : Nat) (e : AVal × AVal) (x : MapEntry), es[j]? = some e → E[j]? = some x → VR own M e.1 x.key ∧ VR own M e.2 x.val) →
              (∀ (F : Array MapEntry → Sem Value), (do
                let es ← match ux with
                  | .map none => pure #[]
                  | .map (some r) => do
                    let .map es _ ← getObj r | stuck "Lookup: map expected"
                    pure es
                  | _ => stuck "Lookup: map expected"
                F es : Sem Value).run P w = (F E).run P w) → ∃ u, (Instr.lookup t ux uk ok).run P w = .ok u w ∧ VR own M v u := fun E g1 g2 g3 => by
            have hrun : ∀ (R : Option (Nat × Value)), Instr.findNow D uk E.toList 0 = some R → (Instr.lookup t ux uk ok).run P w = (match R with
                | some (_, v) => (pure (if ok then .tuple #[v, .bool true] else v) : Sem Value).run P w
                | none => (do let z ← zeroValue vt; pure (if ok then .tuple #[z, .bool false] else z) : Sem Value).run P w) := fun R hR => by
              unfold Instr.lookup
              simp only [Sem.run_bind, run_underlying hu w, Result.andThen_ok]
              refine (g3 _).trans ?_
              simp only [Sem.run_bind, checkKey_ok _ hD hok hk, findKey_ok hD hR, Result.andThen_ok]
              cases R with
              | none =>
                simp only [Sem.run_bind]
                cases (zeroValue vt).run P w <;> rfl
              | some q => rfl
            split at h
            · rename_i i a hf
              cases h
              rcases afind_sound hk es E.toList 0 _ (by simpa using g1) (fun j e x h1 h2 => g2 j e x h1 (by simpa using h2)) hf with ⟨g, _⟩ | ⟨j, a', e, y, g, k2, k3, k4, k5, k6⟩
              · cases g
              · simp only [Nat.zero_add, Option.some.injEq, Prod.mk.injEq] at g k6
                obtain ⟨rfl, rfl⟩ := g
                refine ⟨_, (hrun _ k6).trans rfl, ?_⟩
                rw [k4]
                exact vr_okp (g2 i e y k2 (by simpa using k3)).2
            · rename_i hf
              rcases afind_sound hk es E.toList 0 _ (by simpa using g1) (fun j e x h1 h2 => g2 j e x h1 (by simpa using h2)) hf with ⟨_, g⟩ | ⟨j, a', e, y, g, _⟩
              · cases hz : azv P vt with
                | none => rw [hz] at h; cases h
                | some z =>
                  rw [hz] at h; cases h
                  obtain ⟨u, u1, u2⟩ := azv_run (own := own) (M := M) (w := w) hz
                  refine ⟨if ok then .tuple #[u, .bool false] else u, (hrun _ g).trans ?_, vr_okp u2⟩
                  simp only [Sem.run_bind, u1, Result.andThen_ok, Sem.run_pure]
              · cases g
            · cases h
          split at hes
          · cases hes
            cases hx
            exact key #[] rfl (fun j e x g => by simp at g) fun F => rfl
          · rename_i r
            split at hes
            · rename_i es' hη
              cases hes
              obtain ⟨p, hp, h1, h2, E, clk, h3, h4, h5, h6⟩ := hst.obj r _ hη
              cases hx with
              | mp _ p' hp' =>
              rw [hp] at hp'; cases hp'
              refine key E h4 h6 fun F => ?_
              simp only [Sem.run_bind, getMap_run h3, Result.andThen_ok, Sem.run_pure]
            · cases hes
          · cases hes
        · cases h
      · cases h
    · cases h
  · cases h

/-- an entry struck out -/
def adelete (P : Program) (t : TypeId) (m k : AVal) (η : AHeap) : Option AHeap :=
  match P.underlying t with
  | some (.map kt _) => match P.underlying kt with
    | some D => if akOK D k = true then (match m with
      | .nilm => some η
      | .mp r => match η r with
        | some (.map es) => (match afind D k es 0 with
          | some none => some η
          | some (some (i, _)) => some (upd η r (some (.map (es.eraseIdx i))))
          | none => none)
        | _ => none
      | _ => none) else none
    | none => none
  | _ => none
theorem delete_sound (hst : St own M η n w) {t t' : TypeId} {m k : AVal} {um uk : Value} (ts : Array TypeId) (ht : ts[0]? = some t) (hm : VR own M m um) (hk : VR own M k uk) {η' : AHeap} (h : adelete P t m k η = some η') :
    ∃ w', (Builtin.delete_ ts t' #[um, uk]).run P w = .ok (.tuple #[]) w' ∧ St own M η' n w' ∧ Fr (OB own η) w w' ∧ ∀ b, OB own η' b → OB own η b := by
  unfold adelete at h
  split at h
  · rename_i kt vt hu
    split at h
    · rename_i D hD
      split at h
      · rename_i hok
        unfold Builtin.delete_
        simp only [ht, List.getElem?_toArray, List.getElem?_cons_zero, List.getElem?_cons_succ]
        split at h
        · cases h
          cases hm
          refine ⟨w, ?_, hst, Fr.refl _ _, fun b hb => hb⟩
          simp only [Sem.run_bind, run_underlying hu w, Result.andThen_ok, checkKey_ok true hD hok hk, Sem.run_pure]
        · rename_i r
          split at h
          · rename_i es hη
            obtain ⟨p, hp, h1, h2, E, clk, h3, h4, h5, h6⟩ := hst.obj r _ hη
            cases hm with
            | mp _ p' hp' =>
            rw [hp] at hp'; cases hp'
            have hlt := blk_lt' h3
            have hob : OB own η p.b := ⟨r, p, _, hη, hp, h1, rfl⟩
            have hb : ∀ (E' : Array MapEntry) b, b ≠ p.b → ({ w with heap := w.heap.setIfInBounds p.b (.map E' clk) } : World).heap[b]? = w.heap[b]? := fun E' b hb => by
              simp [Array.getElem?_setIfInBounds_ne (Ne.symm hb)]
            split at h
            · rename_i hf
              cases h
              rcases afind_sound hk es E.toList 0 none (by simpa using h4) (fun j e x g1 g2 => h6 j e x g1 (by simpa using g2)) hf with ⟨_, g⟩ | ⟨j, a, e, x, g, _⟩
              · refine ⟨{ w with heap := w.heap.setIfInBounds p.b (.map E clk) }, ?_, ?_, ⟨rfl, rfl, rfl, by simp, fun b _ hd => hb E b fun e => hd (e ▸ hob)⟩, fun b hb => hb⟩
                · simp only [Sem.run_bind, run_underlying hu w, Result.andThen_ok, getMap_run h3, checkKey_ok _ hD hok hk, findKey_ok hD g, setMap_run h3, Sem.run_pure]
                · have := hst.turn (w' := { w with heap := w.heap.setIfInBounds p.b (.map E clk) }) hη hp (o' := .map es) ⟨h1, h2, E, clk, by simp [hlt], h4, h5, h6⟩ (hb E) h1
                  have e : upd η r (some (.map es)) = η := by funext x; unfold upd; split <;> simp_all
                  rwa [e] at this
              · cases g
            · rename_i i a hf
              cases h
              rcases afind_sound hk es E.toList 0 _ (by simpa using h4) (fun j e x g1 g2 => h6 j e x g1 (by simpa using g2)) hf with ⟨g, _⟩ | ⟨j, a', e, x, g, g2, g3, g4, g5, g6⟩
              · cases g
              · simp only [Nat.zero_add, Option.some.injEq, Prod.mk.injEq] at g g6
                obtain ⟨rfl, rfl⟩ := g
                have hi := (List.getElem?_eq_some_iff.1 g2).1
                have el : (E.eraseIdxIfInBounds i).toList = E.toList.eraseIdx i := by simp
                refine ⟨{ w with heap := w.heap.setIfInBounds p.b (.map (E.eraseIdxIfInBounds i) clk) }, ?_, ?_, ⟨rfl, rfl, rfl, by simp, fun b _ hd => hb _ b fun e => hd (e ▸ hob)⟩, fun b hb => OB.turn hη hb⟩
                · simp only [Sem.run_bind, run_underlying hu w, Result.andThen_ok, getMap_run h3, checkKey_ok _ hD hok hk, findKey_ok hD g6, setMap_run h3, Sem.run_pure]
                · refine hst.turn hη hp ⟨h1, h2, E.eraseIdxIfInBounds i, clk, by simp [hlt], ?_, ⟨fun e he => ?_, ?_⟩, fun j e x q1 q2 => ?_⟩ (hb _) h1
                  · rw [← Array.length_toList, el, List.length_eraseIdx, List.length_eraseIdx]; simp [h4]
                  · rw [el] at he; exact h5.1 e (List.mem_of_mem_eraseIdx he)
                  · rw [el]
                    have : (E.toList.eraseIdx i).map (·.born) = (E.toList.map (·.born)).eraseIdx i := by
                      refine List.ext_getElem? fun j => ?_
                      simp only [List.getElem?_map, List.getElem?_eraseIdx]
                      split <;> rfl
                    rw [this]; exact h5.2.sublist (List.eraseIdx_sublist _ _)
                  · rw [← Array.getElem?_toList, el, List.getElem?_eraseIdx] at q2
                    rw [List.getElem?_eraseIdx] at q1
                    split at q1
                    · rename_i hji; rw [if_pos hji] at q2; exact h6 j e x q1 (by simpa using q2)
                    · rename_i hji; rw [if_neg hji] at q2; exact h6 (j + 1) e x q1 (by simpa using q2)
            · cases h
          · cases h
        · cases h
      · cases h
    · cases h
  · cases h
end
end Go.Proofs.YtbomkomipaipmaaGreat
namespace Go.Proofs.YtbomkomipaipmaaGreat

section
variable (P : Program)
def aeqN (x y : AVal) : Option Bool :=
  match x, y with
  | .nilp, .nilp => some true
  | .ptr _ _ _, .nilp | .ro _ _, .nilp | .nilp, .ptr _ _ _ | .nilp, .ro _ _ => some false
  | .nilf, .nilf => some true
  | .func _ _ _, .nilf | .nilf, .func _ _ _ => some false
  | .nils, .nils => some true
  | .nilm, .nilm => some true
  | .mp _, .nilm | .nilm, .mp _ => some false
  | _, _ => none
/-- the type fits the two operands -/
def aeqT (t : TypeId) (x _ : AVal) : Bool :=
  match P.underlying t, x with
  | some (.pointer _), .nilp | some (.pointer _), .ptr _ _ _ | some (.pointer _), .ro _ _ => true
  | some (.func _ _ _), .nilf | some (.func _ _ _), .func _ _ _ => true
  | some (.slice _), .nils => true
  | some (.map _ _), .nilm | some (.map _ _), .mp _ => true
  | _, _ => false
def aeqB (t : TypeId) (x y : AVal) : Option Bool :=
  match P.underlying t, x, y with
  | some .bool, .bool a, .bool b => some (a == b)
  | _, _, _ => if aeqT P t x y then aeqN x y else none
def isPlain : AVal → Bool
  | .int _ _ | .bool _ | .str _ => true
  | _ => false
/-- two structs or arrays of plain cells: a fact on their equality -/
def SEq (t : TypeId) (cs ds : List AVal) (b : Bool) : Prop :=
  ∀ (A B : Array Value) (w : World), (∀ own M, VR own M (.agg cs) (.agg A)) → (∀ own M, VR own M (.agg ds) (.agg B)) → ∀ x y, (eqGuard .eql t x y (.agg A) (.agg B)).run P w = .ok () w ∧ (Op.equal t (.agg A) (.agg B)).run P w = .ok b w
open Classical in
noncomputable def aeqS (t : TypeId) (cs ds : List AVal) : Option Bool :=
  if h : (cs.all isPlain && ds.all isPlain) = true ∧ ∃ b, SEq P t cs ds b then some (Classical.choose h.2) else none
noncomputable def abinA (op : BinOp) (t : TypeId) (x y : AVal) : Option AVal :=
  match op with
  | .eql => match x, y with
    | .agg cs, .agg ds => (aeqS P t cs ds).map .bool
    | .int _ _, .int _ _ | .str _, .str _ => abin op t x y
    | _, _ => (aeqB P t x y).map .bool
  | .neq => match x, y with
    | .agg cs, .agg ds => (aeqS P t cs ds).map fun b => .bool !b
    | .int _ _, .int _ _ | .str _, .str _ => abin op t x y
    | _, _ => (aeqB P t x y).map fun b => .bool !b
  | _ => abin op t x y
/-- where a struct's fields lie: first cell, cells -/
def tplaces (t : TypeId) : Option (List (Nat × Nat)) :=
  match P.underlying t with
  | some (.struct fs) => fs.toList.mapM fun f => (tsize P f.type).map fun n => (f.offset, n)
  | _ => none
def aplace (t : TypeId) : Option (Nat → Option (Nat × Nat)) :=
  match tarr P t with
  | some (_, e) => (tsize P e).map fun z i => some (i * z, z)
  | none => (tplaces P t).map fun pl i => pl[i]?
def afillP (place : Nat → Option (Nat × Nat)) (cs : List AVal) : List (Nat × List AVal) → Option (List AVal)
  | [] => some cs
  | (i, ds) :: rest => match place i with
    | some (o, z) => if ds.length = z ∧ o + ds.length ≤ cs.length ∧ ds.all AVal.sc = true then afillP place (cs.take o ++ ds ++ cs.drop (o + ds.length)) rest else none
    | none => none
def abuild (t : TypeId) (parts : List (Nat × List AVal)) : Option AVal :=
  match tzero P t, aplace P t with
  | some z, some pl => (afillP pl z parts).map .agg
  | _, _ => none
def aminmax (big : Bool) (x y : AVal) : Option AVal :=
  match x, y with
  | .int k a, .int k' b => if k = k' then some (.int k (if big then max a b else min a b)) else none
  | _, _ => none
def alenT (t : TypeId) (x : AVal) (η : AHeap) : Option Int :=
  match P.underlying t, x with
  | some (.slice _), .sl _ _ n => some n
  | some (.slice _), .slc _ _ n _ => some n
  | some (.slice _), .rs _ rows => some rows.length
  | some (.slice _), .nils => some 0
  | some (.slice _), .e0 => some 0
  | some (.slice _), .arr _ _ _ n _ => some n
  | some .string, .str s => some s.size
  | some (.map _ _), .nilm => some 0
  | some (.map _ _), .mp r => match η r with
    | some (.map es) => some es.length
    | _ => none
  | _, _ => none
def acapT (t : TypeId) (x : AVal) : Option Int :=
  match P.underlying t, x with
  | some (.slice _), .nils => some 0
  | some (.slice _), .e0 => some 0
  | _, _ => none
def acallV (c : Call) (ρ : Operand → AVal) (η : AHeap) : Option AVal :=
  match c.callee with
  | .builtin b => match b, c.args.toList, c.argTypes.toList with
    | .len, [x], [t] => (alenT P t (ρ x) η).map (.int .i64)
    | .cap, [x], [t] => (acapT P t (ρ x)).map (.int .i64)
    | .min, [x, y], _ => aminmax false (ρ x) (ρ y)
    | .max, [x, y], _ => aminmax true (ρ x) (ρ y)
    | _, _, _ => none
  | _ => none
noncomputable def aval (o : Oper) (ρ : Operand → AVal) (η : AHeap) : Option AVal :=
  match o.op with
  | .move x | .assign x => some (ρ x)
  | .pick c a b => match ρ c with
    | .bool t => some (if t then ρ a else ρ b)
    | _ => none
  | .build t parts => abuild P t (parts.toList.map fun p => (p.1, acells (ρ p.2)))
  | .load t a => aload P t (ρ a) η
  | .nilCheck x => match ρ x with
    | .ptr r i j => some (.ptr r i j)
    | .ro cs j => some (.ro cs j)
    | .func f a b => some (.func f a b)
    | _ => none
  | .binOp op t x y _ => abinA P op t (ρ x) (ρ y)
  | .unOp op _ x => aun op (ρ x)
  | .convert src dst x => if (P.underlying src).isSome then aconv P dst (ρ x) else none
  | .makeFunc fn first caps => match fn with
    | .func f => some (.func f (first.toList.map ρ) (caps.toList.map ρ))
    | _ => none
  | .slice t x lo hi mx => asliceV P t (ρ x) (lo.map ρ) (hi.map ρ) (mx.map ρ) η
  | .fieldAddr s x f => afield P s (ρ x) f
  | .field s x f => afldv P s (ρ x) f
  | .indexAddr t x ix => aindex P t (ρ x) (ρ ix) η
  | .index t x ix => aindexv P t (ρ x) (ρ ix)
  | .extract t ix => aextract (ρ t) ix
  | .call c => acallV P c ρ η
  | .lookup t x k ok => alookup P t (ρ x) (ρ k) ok η
  | _ => none
end

section
variable {P : Program} {own : Own} {M : Mem} {η : AHeap} {n : Nat} {w : World}

theorem tsh_run {t : TypeId} {g : Bool} {n : Nat} (h : tsh P t = some (g, n)) (w : World) : (isAgg t).run P w = .ok g w ∧ (sizeOf t).run P w = .ok n w := by
  unfold tsh at h
  split at h
  · rename_i d i h1 h2
    simp only [Option.some.injEq, Prod.mk.injEq] at h
    obtain ⟨rfl, rfl⟩ := h
    constructor
    · unfold isAgg underlying
      simp only [Sem.run_bind, run_program, Result.andThen_ok, h1, Sem.run_pure]
      unfold isAggD
      cases d <;> rfl
    · unfold sizeOf typeInfo
      simp only [Sem.run_bind, run_program, Result.andThen_ok, h2, Sem.run_pure]
  · cases h
theorem tsize_run {t : TypeId} {n : Nat} (h : tsize P t = some n) (w : World) : (sizeOf t).run P w = .ok n w := by
  unfold tsize at h
  cases h2 : P.info? t with
  | none => rw [h2] at h; simp at h
  | some i =>
    rw [h2] at h; simp at h
    unfold sizeOf typeInfo
    simp only [Sem.run_bind, run_program, Result.andThen_ok, h2, Sem.run_pure, h]

theorem add_plain (b o k : Nat) : (⟨b, o, none⟩ : Addr).add k = ⟨b, o + k, none⟩ := by
  unfold Addr.add
  split
  · subst_vars; rfl
  · rfl

theorem list_pick {α β : Type} : ∀ (p : Nat → α → β → Prop) (cs : List α), (∀ (i : Nat) c, cs[i]? = some c → ∃ v, p i c v) → ∃ l : List β, l.length = cs.length ∧ ∀ (i : Nat) c, cs[i]? = some c → ∃ v, l[i]? = some v ∧ p i c v
  | _, [], _ => ⟨[], rfl, fun i c h => by simp at h⟩
  | p, x :: cs, h => by
    obtain ⟨v, hv⟩ := h 0 x rfl
    obtain ⟨l, h1, h2⟩ := list_pick (fun i => p (i + 1)) cs fun i c hi => h (i + 1) c (by simpa using hi)
    refine ⟨v :: l, by simp [h1], fun i c hi => ?_⟩
    cases i with
    | zero => simp at hi; subst hi; exact ⟨v, rfl, hv⟩
    | succ i => obtain ⟨u, k1, k2⟩ := h2 i c (by simpa using hi); exact ⟨u, by simpa using k1, k2⟩

/-- cells that read as known ones -/
theorem run_cells {a : Addr} {cs : List AVal} (h : ∀ (i : Nat) c, cs[i]? = some c → ∃ v, w.cell? (a.add i) = some v ∧ VR own M c v) :
    ∃ A : Array Value, (loadCells a cs.length).run P w = .ok A w ∧ A.size = cs.length ∧ ∀ (i : Nat) c, cs[i]? = some c → VR own M c (A.getD i undef) := by
  obtain ⟨l, h1, h2⟩ := list_pick (fun i c v => w.cell? (a.add i) = some v ∧ VR own M c v) cs h
  refine ⟨l.toArray, ?_, by simp [h1], fun i c hi => ?_⟩
  · rw [← h1]
    refine run_loadCells_list w a l fun j v hj => ?_
    have hjl := (List.getElem?_eq_some_iff.1 hj).1
    obtain ⟨u, k1, k2, _⟩ := h2 j cs[j] (List.getElem?_eq_getElem (by omega))
    rw [hj] at k1; cases k1
    exact k2
  · obtain ⟨u, k1, _, k3⟩ := h2 i c hi
    have : l.toArray.getD i undef = u := by simp [Array.getD_eq_getD_getElem?, k1]
    rw [this]; exact k3

theorem apart_load {t : TypeId} {g : Bool} {n : Nat} (ht : tsh P t = some (g, n)) {cs : List AVal} {j : Nat} {v : AVal} (h : apart g n cs j = some v) {b o : Nat}
    (hc : ∀ (i : Nat) c, cs[i]? = some c → ∃ u, w.cell? ⟨b, o + i, none⟩ = some u ∧ VR own M c u) :
    ∃ u, (loadVar t ⟨b, o + j, none⟩).run P w = .ok u w ∧ VR own M v u := by
  obtain ⟨h1, h2⟩ := tsh_run ht w
  unfold apart at h
  split at h
  · rename_i hg
    subst hg
    split at h
    · rename_i hh
      obtain ⟨hj, hs⟩ := hh
      cases h
      have hlen : ((cs.drop j).take n).length = n := by simp; omega
      obtain ⟨A, k1, k2, k3⟩ := run_cells (P := P) (w := w) (own := own) (M := M) (a := ⟨b, o + j, none⟩) (cs := (cs.drop j).take n) (fun i c hi => by
        have hil := (List.getElem?_eq_some_iff.1 hi).1
        rw [List.getElem?_take, if_pos (by omega), List.getElem?_drop] at hi
        rw [add_plain]
        have := hc _ c hi
        rwa [← Nat.add_assoc] at this)
      refine ⟨.agg A, ?_, .agg _ A k2 (fun c hc => List.all_eq_true.1 hs c hc) k3⟩
      unfold loadVar
      rw [hlen] at k1
      simp only [Sem.run_bind, h1, h2, Result.andThen_ok, if_true, k1, Sem.run_pure]
    · cases h
  · rename_i hg
    have hg : g = false := by simpa using hg
    subst hg
    obtain ⟨u, k1, k2⟩ := hc j v h
    refine ⟨u, ?_, k2⟩
    unfold loadVar
    simp only [Sem.run_bind, h1, Result.andThen_ok, Bool.false_eq_true, if_false, run_load, k1]

theorem aload_sound (hst : St own M η n w) {t : TypeId} {p v : AVal} {u : Value} (hp : VR own M p u) (h : aload P t p η = some v) : ∃ x, (Instr.loadAt t u).run P w = .ok x w ∧ VR own M v x := by
  unfold aload at h
  cases ht : tsh P t with
  | none => rw [ht] at h; cases h
  | some gn =>
    obtain ⟨g, m⟩ := gn
    rw [ht] at h
    simp only at h
    cases hp with
    | ro cs j b o arr hb hl hc =>
      simp only at h
      obtain ⟨T, z, hh⟩ := hst.mem b arr hb
      obtain ⟨x, k1, k2⟩ := apart_load ht (w := w) (own := own) (M := M) h (b := b) (o := o) (fun i c hi => by
        refine ⟨arr.getD (o + i) undef, ?_, hc i c hi⟩
        have := hl i c hi
        simp [World.cell?, hh, this, Array.getD_eq_getD_getElem?])
      exact ⟨x, by unfold Instr.loadAt Instr.sureAddr; simpa using k1, k2⟩
    | ptr r i j p hr =>
      simp only at h
      split at h
      · rename_i k rows hη
        split at h
        · rename_i row hrow
          obtain ⟨p', g1, g2⟩ := hst.obj r _ hη
          rw [hr] at g1; cases g1
          obtain ⟨e1, _, _, _, _, g6⟩ := g2
          obtain ⟨x, k1, k2⟩ := apart_load ht (w := w) (own := own) (M := M) h (b := p.b) (o := p.s + i * p.k) (fun q c hq => by
            rw [e1]; exact g6 i q row c hrow hq)
          exact ⟨x, by unfold Instr.loadAt Instr.sureAddr; simpa using k1, k2⟩
        · cases h
      · cases h
    | _ => simp at h
end
end Go.Proofs.YtbomkomipaipmaaGreat
namespace Go.Proofs.YtbomkomipaipmaaGreat

section
variable {P : Program} {own : Own} {M : Mem} {η : AHeap} {n : Nat} {w : World}

theorem afield_sound {s : TypeId} {x v : AVal} {f : Nat} {u : Value} (hx : VR own M x u) (h : afield P s x f = some v) : ∃ y, (Instr.fieldAt s u f).run P w = .ok y w ∧ VR own M v y := by
  unfold afield at h
  cases ht : tfld P s f with
  | none => rw [ht] at h; cases h
  | some q =>
    obtain ⟨o, t, z⟩ := q
    rw [ht] at h
    simp only at h
    unfold tfld at ht
    split at ht
    · rename_i fs hu
      split at ht
      · rename_i fx hfx
        split at ht
        · rename_i zz hz
          split at ht
          · cases ht
          · rename_i hne
            simp only [Option.some.injEq, Prod.mk.injEq] at ht
            obtain ⟨rfl, rfl, rfl⟩ := ht
            have hs := tsize_run hz w
            have key : ∀ a : Addr, (Instr.fieldAt s (.pointer (some a)) f).run P w = .ok (.pointer (some (a.add fx.offset))) w := fun a => by
              unfold Instr.fieldAt underlying fieldPlace Instr.sureAddr
              simp only [Sem.run_bind, run_program, Result.andThen_ok, hu, Sem.run_pure, hfx, hs, hne, if_false]
            cases hx <;> simp only [Option.some.injEq, reduceCtorEq] at h
            · rename_i r i j p hr
              subst h
              exact ⟨_, key _, by rw [add_plain, Nat.add_assoc]; exact .ptr r i (j + fx.offset) p hr⟩
            · rename_i cs j b o arr hb hl hc
              subst h
              exact ⟨_, key _, by rw [add_plain, Nat.add_assoc]; exact .ro cs (j + fx.offset) b o arr hb hl hc⟩
        · cases ht
      · cases ht
    · cases ht

theorem apart_part {t : TypeId} {g : Bool} {n : Nat} (ht : tsh P t = some (g, n)) {cs : List AVal} {A : Array Value} {j : Nat} {v : AVal} (h : apart g n cs j = some v) (hA : A.size = cs.length)
    (hc : ∀ (i : Nat) c, cs[i]? = some c → VR own M c (A.getD i undef)) : ∃ u, (part t A j).run P w = .ok u w ∧ VR own M v u := by
  obtain ⟨h1, h2⟩ := tsh_run ht w
  unfold apart at h
  split at h
  · rename_i hg
    subst hg
    split at h
    · rename_i hh
      obtain ⟨hj, hs⟩ := hh
      cases h
      refine ⟨.agg (A.extract j (j + n)), ?_, .agg _ _ (by simp; omega) (fun c hc => List.all_eq_true.1 hs c hc) fun i c hi => ?_⟩
      · unfold part
        simp only [Sem.run_bind, h1, h2, Result.andThen_ok, if_true, Sem.run_pure]
      · have hil := (List.getElem?_eq_some_iff.1 hi).1
        simp at hil
        rw [List.getElem?_take, if_pos (by omega), List.getElem?_drop] at hi
        have := hc _ c hi
        have e : (A.extract j (j + n)).getD i undef = A.getD (j + i) undef := by
          rw [Array.getD_eq_getD_getElem?, Array.getD_eq_getD_getElem?, Array.getElem?_extract, if_pos (by omega)]
        rw [e]; exact this
    · cases h
  · rename_i hg
    have hg : g = false := by simpa using hg
    subst hg
    have hj := (List.getElem?_eq_some_iff.1 h).1
    refine ⟨A.getD j undef, ?_, hc j v h⟩
    unfold part
    have e : A[j]? = some (A.getD j undef) := by rw [Array.getD_eq_getD_getElem?, Array.getElem?_eq_getElem (by omega)]; rfl
    simp only [Sem.run_bind, h1, Result.andThen_ok, Bool.false_eq_true, if_false, e, Sem.run_pure]

theorem afldv_sound {s : TypeId} {x v : AVal} {f : Nat} {u : Value} (hx : VR own M x u) (h : afldv P s x f = some v) : ∃ y, (Instr.field s u f).run P w = .ok y w ∧ VR own M v y := by
  unfold afldv at h
  split at h
  · rename_i o t z cs ht
    split at h
    · rename_i g m hm
      unfold tfld at ht
      split at ht
      · rename_i fs hu
        split at ht
        · rename_i fx hfx
          split at ht
          · rename_i zz hz
            split at ht
            · cases ht
            · simp only [Option.some.injEq, Prod.mk.injEq] at ht
              obtain ⟨rfl, rfl, rfl⟩ := ht
              cases hx with
              | agg _ A hA hs hc =>
                obtain ⟨y, k1, k2⟩ := apart_part hm h hA hc (w := w)
                refine ⟨y, ?_, k2⟩
                unfold Instr.field underlying asAgg
                simp only [Sem.run_bind, run_program, Result.andThen_ok, hu, Sem.run_pure, hfx, k1]
          · cases ht
        · cases ht
      · cases ht
    · cases h
  · cases h

theorem telem_run {t e : TypeId} (h : telem P t = some e) : P.underlying t = some (.slice e) := by
  unfold telem at h
  split at h
  · rename_i x hx; cases h; exact hx
  · cases h
theorem tarr_run {t e : TypeId} {n : Nat} (h : tarr P t = some (n, e)) : P.underlying t = some (.array n e) := by
  unfold tarr at h
  split at h
  · rename_i x y hx; cases h; exact hx
  · cases h

theorem aindex_sound (hst : St own M η n w) {t : TypeId} {x ix v : AVal} {u ux : Value} (hx : VR own M x u) (hi : VR own M ix ux) (h : aindex P t x ix η = some v) :
    ∃ y, (Instr.indexAt t u ux).run P w = .ok y w ∧ VR own M v y := by
  unfold aindex at h
  split at h
  · rename_i kk i
    cases hi
    cases ht : telem P t with
    | some e =>
      have hu := telem_run ht
      rw [ht] at h
      have key : ∀ (a : Addr) (len cap z : Nat), tsize P e = some z → 0 ≤ i → i < (len : Int) → (Instr.indexAt t (.slice (some a) len cap) (.int kk i)).run P w = .ok (.pointer (some (a.add (i.toNat * z)))) w := fun a len cap z hz h0 h1 => by
        have hs := tsize_run hz w
        unfold Instr.indexAt underlying asIntOf
        simp only [Sem.run_bind, run_program, Result.andThen_ok, hu, Sem.run_pure, h0, h1, and_self, if_true, hs]
      cases hx <;> simp only [reduceCtorEq] at h
      · rename_i r o m p a cap hr hn hm hc
        split at h
        · rename_i k rows hη
          split at h
          · rename_i hh
            obtain ⟨hz, h0, h1⟩ := hh
            cases h
            obtain ⟨p', g1, g2⟩ := hst.obj r _ hη
            rw [hr] at g1; cases g1
            have e1 : p.k = k := g2.1
            obtain ⟨ha, _⟩ := hc (by omega)
            subst ha
            refine ⟨_, key _ _ _ _ hz h0 h1, ?_⟩
            have := VR.ptr (own := own) (M := M) r (o + i.toNat) 0 p hr
            rw [add_plain, ← e1]
            have e2 : p.s + o * p.k + i.toNat * p.k = p.s + (o + i.toNat) * p.k + 0 := by rw [Nat.add_mul]; omega
            rw [e2]; exact this
          · cases h
        · cases h
      · rename_i k rows a cap b o arr hn hm hxl ha hb hk hl hc
        split at h
        · rename_i hh
          obtain ⟨hz, h0⟩ := hh
          split at h
          · rename_i row hrow
            cases h
            have hil := (List.getElem?_eq_some_iff.1 hrow).1
            have := ha (by omega)
            subst this
            refine ⟨_, key _ _ _ _ hz h0 (by omega), ?_⟩
            rw [add_plain]
            exact .ro row 0 b (o + i.toNat * k) arr (hb (by omega)) (fun j c hj => hl _ j row c hrow hj) (fun j c hj => hc _ j row c hrow hj)
          · cases h
        · cases h
      · rename_i r ii j n z p a cap hr hn hm hc
        split at h
        · rename_i hh
          obtain ⟨hz, h0, h1⟩ := hh
          cases h
          obtain ⟨ha, _⟩ := hc (by omega)
          subst ha
          refine ⟨_, key _ _ _ _ hz h0 h1, ?_⟩
          rw [add_plain, Nat.add_assoc]
          exact .ptr r ii _ p hr
        · cases h
    | none =>
      rw [ht] at h
      simp only at h
      split at h
      · rename_i m e r ii j hta
        split at h
        · rename_i z hz
          split at h
          · rename_i hh
            obtain ⟨h0, h1, h2⟩ := hh
            cases h
            have hu := tarr_run hta
            have hs := tsize_run hz w
            cases hx with
            | ptr _ _ _ p hr =>
              refine ⟨_, ?_, .ptr r ii (j + i.toNat * z) p hr⟩
              have h3 : decide (m ≤ 1) = false := by simp; omega
              unfold Instr.indexAt underlying asIntOf Instr.sureAddr
              simp only [Sem.run_bind, run_program, Result.andThen_ok, hu, Sem.run_pure, h0, h1, and_self, if_true, hs, add_plain, Nat.add_assoc]
          · cases h
        · cases h
      · rename_i m e cs j hta
        split at h
        · rename_i z hz
          split at h
          · rename_i hh
            obtain ⟨h0, h1, h2⟩ := hh
            cases h
            have hu := tarr_run hta
            have hs := tsize_run hz w
            cases hx with
            | ro _ _ b o arr hb hl hc =>
              refine ⟨_, ?_, .ro cs (j + i.toNat * z) b o arr hb hl hc⟩
              unfold Instr.indexAt underlying asIntOf Instr.sureAddr
              simp only [Sem.run_bind, run_program, Result.andThen_ok, hu, Sem.run_pure, h0, h1, and_self, if_true, hs, add_plain, Nat.add_assoc]
          · cases h
        · cases h
      · cases h
  · cases h

theorem aindexv_sound {t : TypeId} {x ix v : AVal} {u ux : Value} (hx : VR own M x u) (hi : VR own M ix ux) (h : aindexv P t x ix = some v) : ∃ y, (Instr.index t u ux).run P w = .ok y w ∧ VR own M v y := by
  unfold aindexv at h
  split at h
  · rename_i k i s
    cases hi; cases hx
    split at h
    · rename_i hu
      split at h
      · rename_i h0
        split at h
        · rename_i b hb
          cases h
          refine ⟨_, ?_, .int _ _⟩
          unfold Instr.index underlying asIntOf
          simp only [Sem.run_bind, run_program, Result.andThen_ok, hu, Sem.run_pure, h0, if_true, hb]
        · cases h
      · cases h
    · cases h
  · rename_i k i cs
    cases hi
    split at h
    · rename_i m e hta
      split at h
      · rename_i g z hz
        split at h
        · rename_i hh
          obtain ⟨h0, h1⟩ := hh
          cases hx with
          | agg _ A hA hs hc =>
            obtain ⟨y, k1, k2⟩ := apart_part hz h hA hc (w := w)
            refine ⟨y, ?_, k2⟩
            have hu := tarr_run hta
            obtain ⟨_, hsz⟩ := tsh_run hz w
            unfold Instr.index underlying asIntOf
            simp only [Sem.run_bind, run_program, Result.andThen_ok, hu, Sem.run_pure, h0, h1, and_self, if_true, hsz, k1]
        · cases h
      · cases h
    · cases h
  · cases h

theorem alen_sound (hst : St own M η n w) {x : AVal} {m : Int} {u : Value} {t : TypeId} (hx : VR own M x u) (h : alenT P t x η = some m) (ty : TypeId) :
    (Builtin.len_ #[t] ty #[u]).run P w = .ok (.int .i64 m) w := by
  unfold alenT at h
  unfold Builtin.len_ underlying
  simp only [Sem.run_bind, run_program, Result.andThen_ok, List.getElem?_toArray, List.getElem?_cons_zero]
  split at h
  all_goals try (rename_i hu; cases hx; cases h; simp only [hu, Sem.run_pure, Result.andThen_ok]; rfl)
  · rename_i r hu
    split at h
    · rename_i es hη
      cases h
      cases hx with
      | mp _ p hr =>
        obtain ⟨p', g1, g2⟩ := hst.obj r _ hη
        rw [hr] at g1; cases g1
        obtain ⟨_, _, E, clk, h3, h4, _⟩ := g2
        simp only [hu, Sem.run_pure, Result.andThen_ok]
        simp [getObj, Sem.run, h3, h4, goInt]
    · cases h
  · cases h
theorem acap_sound {x : AVal} {m : Int} {u : Value} {t : TypeId} (hx : VR own M x u) (h : acapT P t x = some m) (ty : TypeId) :
    (Builtin.cap_ #[t] ty #[u]).run P w = .ok (.int .i64 m) w := by
  unfold acapT at h
  unfold Builtin.cap_ underlying
  simp only [Sem.run_bind, run_program, Result.andThen_ok, List.getElem?_toArray, List.getElem?_cons_zero]
  split at h
  all_goals try (rename_i hu; cases hx; cases h; simp only [hu, Sem.run_pure, Result.andThen_ok]; rfl)
  cases h

theorem boundC_run {lo hi mx : Option AVal} {lo' hi' mx' : Option Value} {n c cap l h m : Nat} (hlo : ∀ a, lo = some a → ∃ v, lo' = some v ∧ VR own M a v) (hhi : ∀ a, hi = some a → ∃ v, hi' = some v ∧ VR own M a v)
    (hmx : ∀ a, mx = some a → ∃ v, mx' = some v ∧ VR own M a v) (hlo0 : lo = none → lo' = none) (hhi0 : hi = none → hi' = none) (hmx0 : mx = none → mx' = none) (hn : n ≤ c) (hc : c ≤ cap) (hb : abndC lo hi mx n c = some (l, h, m)) :
    ∃ m', (Instr.sliceBounds true n cap lo' hi' mx').run P w = .ok (l, h, m') w ∧ l ≤ h ∧ h ≤ m ∧ m ≤ m' ∧ m' ≤ cap := by
  have key : ∀ (v : Value) (k : IntKind) (i : Int) (y : Nat) code, v = .int k i → 0 ≤ i → i ≤ (y : Int) → (Instr.sliceBound v y code).run P w = .ok i.toNat w := fun v k i y code e h0 h1 => by
    subst e
    unfold Instr.sliceBound asIntOf
    simp only [Sem.run_bind, Sem.run_pure, Result.andThen_ok, h0, h1, and_self, if_true]
  unfold abndC at hb
  split at hb
  · cases hb
  rename_i mv hm
  split at hb
  · cases hb
  rename_i hv hh
  split at hb
  · cases hb
  rename_i lv hl
  simp only [Option.some.injEq, Prod.mk.injEq] at hb
  obtain ⟨rfl, rfl, rfl⟩ := hb
  have e0 : (mx = none ∧ mx' = none ∧ mv = (c : Int)) ∨ ∃ k, mx.isSome = true ∧ mx' = some (.int k mv) ∧ 0 ≤ mv ∧ mv ≤ (c : Int) := by
    cases mx with
    | none => simp only [Option.some.injEq] at hm; exact Or.inl ⟨rfl, hmx0 rfl, hm.symm⟩
    | some a =>
      obtain ⟨v, e, hv'⟩ := hmx a rfl
      split at hm
      · rename_i he; cases he
      · rename_i x k i he
        cases he
        split at hm
        · rename_i hr; cases hm; cases hv'; exact Or.inr ⟨k, rfl, e, hr.1, hr.2⟩
        · cases hm
      · cases hm
  have e1 : (mx = none ∧ hi' = none ∧ hv = (n : Int)) ∨ ∃ k, hi' = some (.int k hv) ∧ 0 ≤ hv ∧ hv ≤ mv := by
    cases hi with
    | none =>
      simp only at hh
      split at hh
      · rename_i hi0; cases hh; exact Or.inl ⟨by simpa using hi0, hhi0 rfl, rfl⟩
      · cases hh
    | some a =>
      obtain ⟨v, e, hv'⟩ := hhi a rfl
      split at hh
      · rename_i he; cases he
      · rename_i x k i he
        cases he
        split at hh
        · rename_i hr; cases hh; cases hv'; exact Or.inr ⟨k, e, hr.1, hr.2⟩
        · cases hh
      · cases hh
  have e2 : (lo' = none ∧ lv = 0) ∨ ∃ k, lo' = some (.int k lv) ∧ 0 ≤ lv ∧ lv ≤ hv := by
    cases lo with
    | none => simp only [Option.some.injEq] at hl; exact Or.inl ⟨hlo0 rfl, hl.symm⟩
    | some a =>
      obtain ⟨v, e, hv'⟩ := hlo a rfl
      split at hl
      · rename_i he; cases he
      · rename_i x k i he
        cases he
        split at hl
        · rename_i hr; cases hl; cases hv'; exact Or.inr ⟨k, e, hr.1, hr.2⟩
        · cases hl
      · cases hl
  unfold Instr.sliceBounds
  rcases e0 with ⟨m1, rfl, rfl⟩ | ⟨k, m1, rfl, m2, m3⟩
  · refine ⟨cap, ?_, ?_, ?_, by simpa using hc, Nat.le_refl _⟩
    · rcases e1 with ⟨_, rfl, rfl⟩ | ⟨k1, rfl, h1, h2⟩ <;> rcases e2 with ⟨rfl, rfl⟩ | ⟨k2, rfl, l1, l2⟩
      · simp
      · simp [key _ k2 lv n _ rfl l1 (by omega)]
      · simp [key _ k1 hv cap _ rfl h1 (by omega)]
      · simp [key _ k1 hv cap _ rfl h1 (by omega), key _ k2 lv hv.toNat _ rfl l1 (by omega)]
    · rcases e1 with ⟨_, rfl, rfl⟩ | ⟨k1, rfl, h1, h2⟩ <;> rcases e2 with ⟨rfl, rfl⟩ | ⟨k2, rfl, l1, l2⟩ <;> simp <;> omega
    · rcases e1 with ⟨_, rfl, rfl⟩ | ⟨k1, rfl, h1, h2⟩ <;> simp <;> omega
  · refine ⟨mv.toNat, ?_, ?_, ?_, Nat.le_refl _, by omega⟩
    · rcases e1 with ⟨m4, rfl, rfl⟩ | ⟨k1, rfl, h1, h2⟩
      · rw [m4] at m1; cases m1
      · rcases e2 with ⟨rfl, rfl⟩ | ⟨k2, rfl, l1, l2⟩
        · simp [key _ k mv cap _ rfl m2 (by omega), key _ k1 hv mv.toNat _ rfl h1 (by omega)]
        · simp [key _ k mv cap _ rfl m2 (by omega), key _ k1 hv mv.toNat _ rfl h1 (by omega), key _ k2 lv hv.toNat _ rfl l1 (by omega)]
    · rcases e1 with ⟨m4, rfl, rfl⟩ | ⟨k1, rfl, h1, h2⟩
      · rw [m4] at m1; cases m1
      · rcases e2 with ⟨rfl, rfl⟩ | ⟨k2, rfl, l1, l2⟩ <;> simp <;> omega
    · rcases e1 with ⟨m4, rfl, rfl⟩ | ⟨k1, rfl, h1, h2⟩
      · rw [m4] at m1; cases m1
      · omega
theorem bound_run {isS : Bool} {lo hi : Option AVal} {lo' hi' : Option Value} {len cap l h : Nat} (hlo : ∀ a, lo = some a → ∃ v, lo' = some v ∧ VR own M a v) (hhi : ∀ a, hi = some a → ∃ v, hi' = some v ∧ VR own M a v)
    (hlo0 : lo = none → lo' = none) (hhi0 : hi = none → hi' = none) (hc : len ≤ cap) (hb : abnd lo hi len = some (l, h)) :
    (Instr.sliceBounds isS len cap lo' hi' none).run P w = .ok (l, h, cap) w ∧ l ≤ h ∧ h ≤ len := by
  have key : ∀ (v : Value) (k : IntKind) (i : Int) (y : Nat) code, v = .int k i → 0 ≤ i → i ≤ (y : Int) → (Instr.sliceBound v y code).run P w = .ok i.toNat w := fun v k i y code e h0 h1 => by
    subst e
    unfold Instr.sliceBound asIntOf
    simp only [Sem.run_bind, Sem.run_pure, Result.andThen_ok, h0, h1, and_self, if_true]
  unfold abnd at hb
  split at hb
  · cases hb
  · rename_i hv hh
    split at hb
    · cases hb
    · rename_i lv hl
      simp only [Option.some.injEq, Prod.mk.injEq] at hb
      obtain ⟨rfl, rfl⟩ := hb
      have e1 : (hi' = none ∧ hv = (len : Int)) ∨ ∃ k, hi' = some (.int k hv) ∧ 0 ≤ hv ∧ hv ≤ (len : Int) := by
        cases hi with
        | none =>
          simp only [Option.some.injEq] at hh
          exact Or.inl ⟨hhi0 rfl, hh.symm⟩
        | some a =>
          obtain ⟨v, e, hv'⟩ := hhi a rfl
          split at hh
          · rename_i he; cases he
          · rename_i x k i he
            cases he
            split at hh
            · rename_i hr
              cases hh
              cases hv'
              exact Or.inr ⟨k, e, hr.1, hr.2⟩
            · cases hh
          · cases hh
      have e2 : (lo' = none ∧ lv = 0) ∨ ∃ k, lo' = some (.int k lv) ∧ 0 ≤ lv ∧ lv ≤ hv := by
        cases lo with
        | none =>
          simp only [Option.some.injEq] at hl
          exact Or.inl ⟨hlo0 rfl, hl.symm⟩
        | some a =>
          obtain ⟨v, e, hv'⟩ := hlo a rfl
          split at hl
          · rename_i he; cases he
          · rename_i x k i he
            cases he
            split at hl
            · rename_i hr
              cases hl
              cases hv'
              exact Or.inr ⟨k, e, hr.1, hr.2⟩
            · cases hl
          · cases hl
      clear hlo hhi hlo0 hhi0 hh hl
      have f1 : 0 ≤ hv ∧ hv ≤ (len : Int) := by rcases e1 with ⟨_, e⟩ | ⟨_, _, e⟩ <;> omega
      have f2 : 0 ≤ lv ∧ lv ≤ hv := by rcases e2 with ⟨_, e⟩ | ⟨_, _, e⟩ <;> omega
      refine ⟨?_, by omega, by omega⟩
      unfold Instr.sliceBounds
      rcases e1 with ⟨rfl, rfl⟩ | ⟨k, rfl, _⟩ <;> rcases e2 with ⟨rfl, rfl⟩ | ⟨k', rfl, _⟩ <;> simp only [Sem.run_bind, Sem.run_pure, Result.andThen_ok]
      · rfl
      · rw [key _ _ _ _ _ rfl f2.1 (by omega)]; rfl
      · rw [key _ _ _ _ _ rfl f1.1 (by omega)]; rfl
      · rw [key _ _ _ _ _ rfl f1.1 (by omega)]; simp only [Result.andThen_ok]; rw [key _ _ _ _ _ rfl f2.1 (by omega)]; rfl
end
end Go.Proofs.YtbomkomipaipmaaGreat
namespace Go.Proofs.YtbomkomipaipmaaGreat

section
variable {P : Program} {own : Own} {M : Mem} {η : AHeap} {n : Nat} {w : World}

def OptR (own : Own) (M : Mem) (a : Option AVal) (v : Option Value) : Prop := (∀ x, a = some x → ∃ u, v = some u ∧ VR own M x u) ∧ (a = none → v = none)

theorem aslice_sound (hst : St own M η n w) {t : TypeId} {x v : AVal} {lo hi mx : Option AVal} {u : Value} {lo' hi' mx' : Option Value} (hx : VR own M x u) (hlo : OptR own M lo lo') (hhi : OptR own M hi hi') (hmx : OptR own M mx mx')
    (h : asliceV P t x lo hi mx η = some v) : ∃ y, (Instr.sliceAt t u lo' hi' mx').run P w = .ok y w ∧ VR own M v y := by
  have bnd : ∀ (isS : Bool) (len cap l h : Nat), len ≤ cap → abnd lo hi len = some (l, h) → (Instr.sliceBounds isS len cap lo' hi' none).run P w = .ok (l, h, cap) w ∧ l ≤ h ∧ h ≤ len :=
    fun isS len cap l h hc hb => bound_run hlo.1 hhi.1 hlo.2 hhi.2 hc hb
  unfold asliceV at h
  split at h
  · -- with room
    rename_i r o m c
    unfold aslcV at h
    split at h
    · rename_i e hte
      have hu := telem_run hte
      split at h
      · rename_i k rows hη
        split at h
        · rename_i hz
          have hs := tsize_run hz w
          split at h
          · rename_i l hh mm hb
            cases h
            cases hx with
            | slc _ _ _ _ p a cap hr hn hcc hm hc =>
              obtain ⟨m', r1, r2, r3, r4, r5⟩ := boundC_run (P := P) (w := w) (cap := cap) hlo.1 hhi.1 hmx.1 hlo.2 hhi.2 hmx.2 hn hcc hb
              obtain ⟨p', g1, g2⟩ := hst.obj r _ hη
              rw [hr] at g1; cases g1
              have e1 : p.k = k := g2.1
              refine ⟨.slice (if m' = l then a else a.map (·.add (l * k))) (hh - l) (m' - l), ?_, .slc r (o + l) (hh - l) (mm - l) p _ (m' - l) hr (by omega) (by omega) (by omega) fun h0 => ?_⟩
              · unfold Instr.sliceAt underlying
                simp only [Sem.run_bind, run_program, Result.andThen_ok, hu, Sem.run_pure]
                unfold Instr.slice underlying
                simp only [Sem.run_bind, run_program, Result.andThen_ok, hu, Sem.run_pure, r1, hs]
              · obtain ⟨ha, hle⟩ := hc (by omega)
                subst ha
                rw [if_neg (by omega)]
                have e2 : p.s + (o + l + (m' - l)) * p.k ≤ p.s + (o + cap) * p.k := Nat.add_le_add_left (Nat.mul_le_mul_right _ (by omega)) _
                refine ⟨?_, by omega⟩
                simp only [Option.map_some, add_plain, e1, Nat.add_mul, Nat.add_assoc]
          · cases h
        · cases h
      · cases h
    · cases h
  rename_i hns
  clear hns
  split at h
  · cases h
  · rw [hmx.2 rfl]
    split at h
    · -- what is only read
      rename_i e k rows hte
      have hu := telem_run hte
      split at h
      · rename_i hz
        have hs := tsize_run hz w
        split at h
        · rename_i l hh hb
          cases h
          generalize hlen : rows.length = len at hb
          cases hx with
          | rs _ _ a cap b o arr hn hm hxl ha hbb hk hl hc =>
            rw [hlen] at hn
            obtain ⟨r1, r2, r3⟩ := bnd true len cap l hh hn hb
            refine ⟨.slice (if cap = l then a else a.map (·.add (l * k))) (hh - l) (cap - l), ?_, ?_⟩
            · rw [hlen]
              unfold Instr.sliceAt underlying
              simp only [Sem.run_bind, run_program, Result.andThen_ok, hu, Sem.run_pure]
              unfold Instr.slice underlying
              simp only [Sem.run_bind, run_program, Result.andThen_ok, hu, Sem.run_pure, r1, hs]
            · have e1 : hh - l = ((rows.take hh).drop l).length := by simp; omega
              have hget : ∀ (i : Nat) row, ((rows.take hh).drop l)[i]? = some row → rows[l + i]? = some row := fun i row hi => by
                have hil := (List.getElem?_eq_some_iff.1 hi).1
                simp at hil
                rw [List.getElem?_drop, List.getElem?_take, if_pos (by omega)] at hi
                exact hi
              rw [e1]
              refine .rs k _ _ (cap - l) b (o + l * k) arr (by simp; omega) (by omega) (by simp; unfold lenMax at *; omega) (fun h0 => ?_) (fun h0 => hbb (by simp at h0; omega)) (fun i row hi => hk _ row (hget i row hi)) (fun i j row c hi hj => ?_) (fun i j row c hi hj => ?_)
              · simp at h0
                rw [if_neg (by omega), ha (by omega)]
                simp [add_plain]
              · have := hl _ j row c (hget i row hi) hj
                rw [Nat.add_mul] at this; omega
              · have := hc _ j row c (hget i row hi) hj
                have e2 : o + (l + i) * k + j = o + l * k + i * k + j := by rw [Nat.add_mul]; omega
                rwa [e2] at this
        · cases h
      · cases h
    · -- one's own
      rename_i e r o m hte
      have hu := telem_run hte
      split at h
      · rename_i k rows hη
        split at h
        · rename_i hz
          have hs := tsize_run hz w
          split at h
          · rename_i l hh hb
            cases h
            cases hx with
            | sl _ _ _ p a cap hr hn hm hc =>
              obtain ⟨r1, r2, r3⟩ := bnd true m cap l hh hn hb
              obtain ⟨p', g1, g2⟩ := hst.obj r _ hη
              rw [hr] at g1; cases g1
              have e1 : p.k = k := g2.1
              refine ⟨.slice (if cap = l then a else a.map (·.add (l * k))) (hh - l) (cap - l), ?_, .sl r (o + l) (hh - l) p _ (cap - l) hr (by omega) (by omega) fun h0 => ?_⟩
              · unfold Instr.sliceAt underlying
                simp only [Sem.run_bind, run_program, Result.andThen_ok, hu, Sem.run_pure]
                unfold Instr.slice underlying
                simp only [Sem.run_bind, run_program, Result.andThen_ok, hu, Sem.run_pure, r1, hs]
              · obtain ⟨ha, hle⟩ := hc (by omega)
                subst ha
                rw [if_neg (by omega)]
                refine ⟨?_, ?_⟩
                · simp only [Option.map_some, add_plain, e1, Nat.add_mul, Nat.add_assoc]
                · have : o + l + (cap - l) = o + cap := by omega
                  rw [this]; exact hle
          · cases h
        · cases h
      · cases h
    · -- nil
      rename_i e hte
      have hu := telem_run hte
      split at h
      · rename_i hh
        cases h
        cases hx
        obtain ⟨r1, _, _⟩ := bnd true 0 0 0 0 (by omega) hh.1
        obtain ⟨z, hz⟩ := Option.isSome_iff_exists.1 hh.2
        have hz := tsize_run hz w
        refine ⟨.slice none 0 0, ?_, .nils⟩
        unfold Instr.sliceAt underlying
        simp only [Sem.run_bind, run_program, Result.andThen_ok, hu, Sem.run_pure]
        unfold Instr.slice underlying
        simp only [Sem.run_bind, run_program, Result.andThen_ok, hu, Sem.run_pure, r1, hz]
        rfl
      · cases h
    · rename_i e hte
      have hu := telem_run hte
      split at h
      · rename_i hh
        cases h
        cases hx with
        | e0 a =>
          obtain ⟨r1, _, _⟩ := bnd true 0 0 0 0 (by omega) hh.1
          obtain ⟨z, hz⟩ := Option.isSome_iff_exists.1 hh.2
          have hz := tsize_run hz w
          refine ⟨.slice a 0 0, ?_, .e0 a⟩
          unfold Instr.sliceAt underlying
          simp only [Sem.run_bind, run_program, Result.andThen_ok, hu, Sem.run_pure]
          unfold Instr.slice underlying
          simp only [Sem.run_bind, run_program, Result.andThen_ok, hu, Sem.run_pure, r1, hz]
          rfl
      · cases h
    · rename_i e r i j n z hte
      have hu := telem_run hte
      split at h
      · rename_i hz
        have hs := tsize_run hz w
        split at h
        · rename_i l hh hb
          cases h
          cases hx with
          | arr _ _ _ _ _ p a cap hr hn hm hc =>
            obtain ⟨r1, r2, r3⟩ := bnd true n cap l hh hn hb
            refine ⟨.slice (some (if cap = l then a else a.add (l * z))) (hh - l) (cap - l), ?_, .arr r i (j + l * z) (hh - l) z p _ (cap - l) hr (by omega) (by omega) fun h0 => ?_⟩
            · unfold Instr.sliceAt underlying
              simp only [Sem.run_bind, run_program, Result.andThen_ok, hu, Sem.run_pure]
              unfold Instr.slice underlying
              simp only [Sem.run_bind, run_program, Result.andThen_ok, hu, Sem.run_pure, r1, hs]
              split <;> rfl
            · obtain ⟨ha, hle⟩ := hc (by omega)
              subst ha
              rw [if_neg (by omega), add_plain]
              refine ⟨by rw [Nat.add_assoc], ?_⟩
              have : l * z + (cap - l) * z = cap * z := by rw [← Nat.add_mul]; congr 1; omega
              omega
        · cases h
      · cases h
    · rename_i r i j hte
      split at h
      · rename_i N e k rows hta hη
        have hu := tarr_run hta
        split at h
        · rename_i z hz
          have hs := tsize_run hz w
          split at h
          · rename_i hN
            split at h
            · rename_i l hh hb
              cases h
              cases hx with
              | ptr _ _ _ p hr =>
                obtain ⟨r1, r2, r3⟩ := bnd false N N l hh (Nat.le_refl _) hb
                obtain ⟨p', g1, g2⟩ := hst.obj r _ hη
                rw [hr] at g1; cases g1
                have e1 : p.k = k := g2.1
                refine ⟨.slice (some (if N = l then ⟨p.b, p.s + i * p.k + j, none⟩ else Addr.add ⟨p.b, p.s + i * p.k + j, none⟩ (l * z))) (hh - l) (N - l), ?_, .arr r i (j + l * z) (hh - l) z p _ (N - l) hr (by omega) (by omega) fun h0 => ?_⟩
                · unfold Instr.sliceAt underlying Instr.sureAddr
                  simp only [Sem.run_bind, run_program, Result.andThen_ok, hu, Sem.run_pure, r1, hs]
                · rw [if_neg (by omega), add_plain]
                  refine ⟨by rw [Nat.add_assoc], ?_⟩
                  have : l * z + (N - l) * z = N * z := by rw [← Nat.add_mul]; congr 1; omega
                  omega
            · cases h
          · cases h
        · cases h
      · cases h
    · rename_i s hte
      split at h
      · rename_i hu
        split at h
        · rename_i l hh hb
          cases h
          cases hx
          obtain ⟨r1, _, _⟩ := bnd false s.size s.size l hh (by omega) hb
          refine ⟨_, ?_, .str _⟩
          unfold Instr.sliceAt underlying
          simp only [Sem.run_bind, run_program, Result.andThen_ok, hu, Sem.run_pure]
          unfold Instr.slice underlying
          simp only [Sem.run_bind, run_program, Result.andThen_ok, hu, Sem.run_pure, Option.isSome_none, Bool.false_eq_true, if_false, r1]
        · cases h
      · cases h
    · cases h

theorem vr_cells {c : AVal} {v : Value} (h : VR own M c v) (hs : (acells c).all AVal.sc = true) : v.cells.size = (acells c).length ∧ ∀ (i : Nat) d, (acells c)[i]? = some d → VR own M d (v.cells.getD i undef) := by
  have one : c.sc = true → acells c = [c] → v.cells = #[v] → v.cells.size = (acells c).length ∧ ∀ (i : Nat) d, (acells c)[i]? = some d → VR own M d (v.cells.getD i undef) := fun _ e1 e2 => by
    rw [e1, e2]
    refine ⟨rfl, fun i d hi => ?_⟩
    cases i with
    | zero => simp at hi; subst hi; simpa using h
    | succ i => simp at hi
  cases h with
  | undef v => simp [acells, AVal.sc] at hs
  | agg cs A hA hsc hc => exact ⟨hA, hc⟩
  | tup => simp [acells, AVal.sc] at hs
  | arr r i j n z p a cap h1 hn hm hc => exact one rfl rfl rfl
  | _ => exact one rfl rfl rfl

theorem fold_set (off : Nat) : ∀ (l : List Value) (k : Nat) (A : Array Value), ((l.zipIdx k).foldl (fun cs p => cs.setIfInBounds (off + p.2) p.1) A).size = A.size ∧
    (off + k + l.length ≤ A.size → ∀ q, ((l.zipIdx k).foldl (fun cs p => cs.setIfInBounds (off + p.2) p.1) A).getD q undef = if off + k ≤ q ∧ q < off + k + l.length then l.getD (q - (off + k)) undef else A.getD q undef)
  | [], k, A => ⟨rfl, fun _ q => by simp; intro h1 h2; omega⟩
  | v :: l, k, A => by
    obtain ⟨h1, h2⟩ := fold_set off l (k + 1) (A.setIfInBounds (off + k) v)
    simp only [List.zipIdx_cons, List.foldl_cons]
    refine ⟨by rw [h1]; simp, fun hle q => ?_⟩
    simp only [List.length_cons] at hle
    rw [h2 (by simp; omega) q]
    by_cases hq : off + (k + 1) ≤ q ∧ q < off + (k + 1) + l.length
    · rw [if_pos hq, if_pos (by simp; omega)]
      have : q - (off + k) = (q - (off + (k + 1))) + 1 := by omega
      rw [this]; simp
    · rw [if_neg hq]
      by_cases hqk : q = off + k
      · subst hqk
        rw [if_pos (by simp)]
        have : off + k < A.size := by omega
        simp [Array.getD_eq_getD_getElem?, this]
      · rw [if_neg (by simp; omega)]
        rw [Array.getD_eq_getD_getElem?, Array.getD_eq_getD_getElem?, Array.getElem?_setIfInBounds, if_neg (by omega)]

theorem fill_sound {place : Nat → Option (Nat × Nat)} : ∀ (parts : List (Nat × AVal)) (vals : List (Nat × Value)) (cs : List AVal) (A : Array Value) (out : List AVal),
    afillP place cs (parts.map fun p => (p.1, acells p.2)) = some out → vals.length = parts.length → (∀ (i : Nat) p q, parts[i]? = some p → vals[i]? = some q → q.1 = p.1 ∧ VR own M p.2 q.2) →
    A.size = cs.length → (∀ c ∈ cs, c.sc = true) → (∀ (i : Nat) c, cs[i]? = some c → VR own M c (A.getD i undef)) →
    ∃ B : Array Value, Instr.fill place A vals = some B ∧ B.size = out.length ∧ (∀ c ∈ out, c.sc = true) ∧ ∀ (i : Nat) c, out[i]? = some c → VR own M c (B.getD i undef)
  | [], [], cs, A, out, h, _, _, hA, hs, hc => by
    simp only [List.map_nil, afillP, Option.some.injEq] at h
    subst h
    exact ⟨A, rfl, hA, hs, hc⟩
  | [], _ :: _, _, _, _, _, hl, _, _, _, _ => by simp at hl
  | _ :: _, [], _, _, _, _, hl, _, _, _, _ => by simp at hl
  | (i, c) :: parts, (i', v) :: vals, cs, A, out, h, hl, hv, hA, hs, hc => by
    obtain ⟨e1, hcv⟩ := hv 0 _ _ rfl rfl
    simp only at e1 hcv
    subst e1
    simp only [List.map_cons, afillP] at h
    split at h
    · rename_i o z hp
      split at h
      · rename_i hh
        obtain ⟨h1, h2, h3⟩ := hh
        obtain ⟨g1, g2⟩ := vr_cells hcv h3
        obtain ⟨f1, f2⟩ := fold_set o v.cells.toList 0 A
        have hsz : v.cells.zipIdx.foldl (fun cs p => cs.setIfInBounds (o + p.2) p.1) A = (v.cells.toList.zipIdx 0).foldl (fun cs p => cs.setIfInBounds (o + p.2) p.1) A := by
          rw [← Array.foldl_toList, Array.toList_zipIdx]
        have f2 := f2 (by simp; omega)
        have key := fill_sound parts vals (cs.take o ++ acells c ++ cs.drop (o + (acells c).length)) ((v.cells.toList.zipIdx 0).foldl (fun cs p => cs.setIfInBounds (o + p.2) p.1) A) out h (by simpa using hl)
          (fun j p q hj hq => hv (j + 1) p q (by simpa using hj) (by simpa using hq)) (by rw [f1]; simp; omega) (fun d hd => by
            rw [List.mem_append, List.mem_append] at hd
            rcases hd with (hd | hd) | hd
            · exact hs d (List.mem_of_mem_take hd)
            · exact List.all_eq_true.1 h3 d hd
            · exact hs d (List.mem_of_mem_drop hd)) (fun q d hq => by
            rw [f2 q]
            rcases Nat.lt_or_ge q o with k1 | k1
            · rw [if_neg (by omega)]
              rw [List.append_assoc, List.getElem?_append_left (by simp; omega), List.getElem?_take, if_pos k1] at hq
              exact hc q d hq
            · rcases Nat.lt_or_ge q (o + (acells c).length) with k2 | k2
              · rw [if_pos (by simp; omega)]
                rw [List.append_assoc, List.getElem?_append_right (by simp; omega), List.getElem?_append_left (by simp; omega)] at hq
                have e : q - (List.take o cs).length = q - o := by simp; omega
                rw [e] at hq
                have := g2 _ _ hq
                have e2 : v.cells.toList.getD (q - (o + 0)) undef = v.cells.getD (q - o) undef := by simp [Array.getD_eq_getD_getElem?]
                rw [e2]; exact this
              · rw [if_neg (by simp; omega)]
                rw [List.getElem?_append_right (by simp; omega), List.getElem?_drop] at hq
                refine hc q d ?_
                rw [← hq]; congr 1; simp; omega)
        obtain ⟨B, k1, k2, k3, k4⟩ := key
        refine ⟨B, ?_, k2, k3, k4⟩
        unfold Instr.fill
        simp only [hp]
        rw [if_neg (by simp; omega), hsz]
        exact k1
      · cases h
    · cases h
end
end Go.Proofs.YtbomkomipaipmaaGreat
namespace Go.Proofs.YtbomkomipaipmaaGreat

section
variable {P : Program} {own : Own} {M : Mem} {η : AHeap} {n : Nat} {w : World}

theorem places_run (w : World) : ∀ (fs : List Field) (pl : List (Nat × Nat)), (fs.mapM fun f => (tsize P f.type).map fun n => (f.offset, n)) = some pl →
    (fs.mapM fun f => (do pure (f.offset, ← sizeOf f.type) : Sem (Nat × Nat))).run P w = .ok pl w
  | [], pl, h => by
    simp at h; subst h; simp
  | f :: fs, pl, h => by
    simp only [List.mapM_cons] at h ⊢
    cases hz : tsize P f.type with
    | none => rw [hz] at h; simp at h
    | some z =>
      rw [hz] at h
      cases hr : (fs.mapM fun f => (tsize P f.type).map fun n => (f.offset, n)) with
      | none => rw [hr] at h; simp at h
      | some rest =>
        rw [hr] at h
        simp at h
        subst h
        have ih := places_run w fs rest hr
        have hs := tsize_run hz w
        simp only [Sem.run_bind, hs, Result.andThen_ok, Sem.run_pure, ih]
theorem zero_run {t : TypeId} {cs : List AVal} (h : tzero P t = some cs) (w : World) : ∃ v, (zeroValue t).run P w = .ok v w ∧ v.cells.size = cs.length ∧ (∀ c ∈ cs, c.sc = true) ∧ (∀ (i : Nat) c, cs[i]? = some c → VR own M c (v.cells.getD i undef)) ∧
    tsize P t = some cs.length := by
  unfold tzero at h
  split at h
  · rename_i i hi
    split at h
    · rename_i v hv
      split at h
      · rename_i hh
        cases h
        simp only [Bool.and_eq_true, decide_eq_true_eq] at hh
        refine ⟨v, ?_, by simp, fun c hc => List.all_eq_true.1 hh.1 c hc, fun j c hj => ?_, ?_⟩
        · unfold zeroValue typeInfo
          simp only [Sem.run_bind, run_program, Result.andThen_ok, hi, Sem.run_pure, hv]
        · rw [List.getElem?_map] at hj
          cases hx : v.cells.toList[j]? with
          | none => rw [hx] at hj; simp at hj
          | some x =>
            rw [hx] at hj; simp at hj; subst hj
            rw [Array.getElem?_toList] at hx
            have : v.cells.getD j undef = x := by simp [Array.getD_eq_getD_getElem?, hx]
            rw [this]; exact vr_abs1 own M x
        · unfold tsize; rw [hi]; simp [hh.2]
      · cases h
    · cases h
  · cases h

theorem build_sound {t : TypeId} {parts : List (Nat × AVal)} {vals : Array (Nat × Value)} {v : AVal} (h : abuild P t (parts.map fun p => (p.1, acells p.2)) = some v) (hl : vals.size = parts.length)
    (hv : ∀ (i : Nat) p q, parts[i]? = some p → vals[i]? = some q → q.1 = p.1 ∧ VR own M p.2 q.2) : ∃ y, (Instr.build t vals).run P w = .ok y w ∧ VR own M v y := by
  unfold abuild at h
  split at h
  · rename_i z pl hz hpl
    obtain ⟨zv, z1, z2, z3, z4, _⟩ := zero_run (own := own) (M := M) hz w
    cases hf : afillP pl z (parts.map fun p => (p.1, acells p.2)) with
    | none => rw [hf] at h; simp at h
    | some out =>
      rw [hf] at h
      simp at h
      subst h
      have fs : ∀ place : Nat → Option (Nat × Nat), place = pl → ∃ B, Instr.fill place zv.cells vals.toList = some B ∧ B.size = out.length ∧ (∀ c ∈ out, c.sc = true) ∧ ∀ (i : Nat) c, out[i]? = some c → VR own M c (B.getD i undef) := fun place e => by
        subst e
        exact fill_sound parts vals.toList z zv.cells out hf (by simpa using hl) (fun i p q hp hq => hv i p q hp (by simpa using hq)) z2 z3 z4
      unfold aplace at hpl
      split at hpl
      · rename_i m e hta
        have hu := tarr_run hta
        cases hz2 : tsize P e with
        | none => rw [hz2] at hpl; simp at hpl
        | some q =>
          rw [hz2] at hpl; simp at hpl
          obtain ⟨B, k1, k2, k3, k4⟩ := fs _ hpl
          refine ⟨.agg B, ?_, .agg _ B k2 k3 k4⟩
          have hs := tsize_run hz2 w
          unfold Instr.build underlying
          simp only [Sem.run_bind, run_program, Result.andThen_ok, z1, hu, Sem.run_pure, hs, k1]
      · cases hpp : tplaces P t with
        | none => rw [hpp] at hpl; simp at hpl
        | some q =>
          rw [hpp] at hpl; simp at hpl
          unfold tplaces at hpp
          split at hpp
          · rename_i fl hu
            obtain ⟨B, k1, k2, k3, k4⟩ := fs (fun i => q.toArray[i]?) (by rw [← hpl]; funext i; simp)
            refine ⟨.agg B, ?_, .agg _ B k2 k3 k4⟩
            have hm := places_run (P := P) w fl.toList q hpp
            have hm2 : (fl.mapM fun f => (do pure (f.offset, ← sizeOf f.type) : Sem (Nat × Nat))).run P w = .ok q.toArray w := by
              rw [Array.mapM_eq_mapM_toList]
              simp only [Sem.run_map, hm, Result.andThen_ok]
            unfold Instr.build underlying
            simp only [Sem.run_bind, run_program, Result.andThen_ok, z1, hu, Sem.run_pure, hm2, k1]
          · cases hpp
  · cases h

theorem plainV_eq {x : AVal} {v u : Value} (h : plainV x = some v) (hx : VR own M x u) : u = v := by
  cases hx <;> simp [plainV] at h <;> exact h
theorem abinP_sound {op : BinOp} {t : TypeId} {u v : Value} {r : AVal} (h : abinP op t u v = some r) : ∃ y, (Go.binOp op t u v).run P w = .ok y w ∧ VR own M r y := by
  unfold abinP at h
  split at h
  · rename_i y hy
    cases h
    exact ⟨y, by rw [hy]; rfl, vr_abs1 own M y⟩
  · cases h
def ng : Value → Bool
  | .nilIface | .agg _ => false
  | _ => true
theorem guard_plain {op : BinOp} (t : TypeId) (x y : Operand) (u v : Value) (h : ng u = true) : (eqGuard op t x y u v).run P w = .ok () w := by
  unfold eqGuard
  cases op <;> simp <;> cases u <;> simp_all [ng]

theorem aeqN_sound {t : TypeId} {x y : AVal} {u v : Value} {b : Bool} (hx : VR own M x u) (hy : VR own M y v) (h : aeqB P t x y = some b) :
    (Op.equal t u v).run P w = .ok b w ∧ ng u = true := by
  unfold aeqB at h
  unfold Op.equal
  have e : ∃ d, Op.maxDepth = d + 1 := ⟨9999, rfl⟩
  obtain ⟨d, hd⟩ := e
  rw [hd]
  unfold Op.equalIn underlying
  split at h
  · rename_i a b' hu
    cases h; cases hx; cases hy
    simp only [Sem.run_bind, run_program, Result.andThen_ok, hu, Sem.run_pure]
    exact ⟨trivial, rfl⟩
  · split at h
    · rename_i ht
      unfold aeqT at ht
      cases hU : P.underlying t with
      | none => rw [hU] at ht; simp at ht
      | some D =>
        rw [hU] at ht
        simp only [Sem.run_bind, run_program, Result.andThen_ok, hU, Sem.run_pure]
        cases D <;> cases hx <;> simp at ht <;> cases hy <;> simp [aeqN] at h <;> subst h <;> exact ⟨rfl, rfl⟩
    · cases h

theorem SEq.unique {t : TypeId} {cs ds : List AVal} {b b' : Bool} {A B : Array Value} (h : SEq P t cs ds b) (h' : SEq P t cs ds b') (hA : ∀ own M, VR own M (.agg cs) (.agg A)) (hB : ∀ own M, VR own M (.agg ds) (.agg B)) : b = b' := by
  have h1 := (h A B default hA hB (.global 0) (.global 0)).2
  have h2 := (h' A B default hA hB (.global 0) (.global 0)).2
  rw [h1] at h2; cases h2; rfl

theorem plain_any {cs : List AVal} {A : Array Value} (h : VR own M (.agg cs) (.agg A)) (hp : cs.all isPlain = true) : ∀ own' M', VR own' M' (.agg cs) (.agg A) := fun own' M' => by
  cases h with
  | agg _ _ hA hs hc =>
    refine .agg cs A hA hs fun i c hi => ?_
    have := hc i c hi
    have hpl := List.all_eq_true.1 hp c (List.mem_of_getElem? hi)
    generalize A.getD i undef = z at this
    cases this <;> simp [isPlain] at hpl <;> constructor

theorem binOp_eq {op : BinOp} {t : TypeId} {u v : Value} {b : Bool} (hop : op = .eql ∨ op = .neq) (h1 : (match u with | .bool _ | .pointer _ | .func _ _ _ | .nilFunc | .slice _ _ _ | .map _ | .agg _ => true | _ => false) = true)
    (hb : (Op.equal t u v).run P w = .ok b w) : (Go.binOp op t u v).run P w = .ok (.bool (if op = .eql then b else !b)) w := by
  rcases hop with rfl | rfl <;> cases u <;> simp at h1 <;> unfold Go.binOp <;> simp only [Sem.run_bind, hb, Result.andThen_ok, Sem.run_pure] <;> rfl

theorem abinA_sound {op : BinOp} {t : TypeId} {x y r : AVal} {u v : Value} (xo yo : Operand) (hx : VR own M x u) (hy : VR own M y v) (h : abinA P op t x y = some r) :
    ∃ z, (do eqGuard op t xo yo u v; Go.binOp op t u v : Sem Value).run P w = .ok z w ∧ VR own M r z := by
  have plain : ∀ (op : BinOp) r, abin op t x y = some r → ∃ z, (do eqGuard op t xo yo u v; Go.binOp op t u v : Sem Value).run P w = .ok z w ∧ VR own M r z := fun op r h => by
    unfold abin at h
    split at h
    · rename_i u' v' h1 h2
      have e1 := plainV_eq h1 hx
      have e2 := plainV_eq h2 hy
      subst e1 e2
      obtain ⟨z, k1, k2⟩ := abinP_sound (P := P) (w := w) (own := own) (M := M) h
      refine ⟨z, ?_, k2⟩
      have hg : (eqGuard op t xo yo u v).run P w = .ok () w := guard_plain t xo yo u v (by cases hx <;> simp [plainV] at h1 <;> rfl)
      simp only [Sem.run_bind, hg, Result.andThen_ok, k1]
    · cases h
  have sEq : ∀ (cs ds : List AVal) (b : Bool), x = .agg cs → y = .agg ds → aeqS P t cs ds = some b → ∀ op', (op' = .eql ∨ op' = .neq) → (do eqGuard op' t xo yo u v; Go.binOp op' t u v : Sem Value).run P w = .ok (.bool (if op' = .eql then b else !b)) w := fun cs ds b ex ey hb op' hop => by
    subst ex ey
    unfold aeqS at hb
    split at hb
    · rename_i hh
      have hs := Classical.choose_spec hh.2
      simp only [Option.some.injEq] at hb
      rw [hb] at hs
      have hpl := hh.1
      simp only [Bool.and_eq_true] at hpl
      have hx0 := hx; have hy0 := hy
      cases hx with
      | agg _ A hA hsA hcA =>
        cases hy with
        | agg _ B hB hsB hcB =>
          obtain ⟨g1, g2⟩ := hs A B w (plain_any hx0 hpl.1) (plain_any hy0 hpl.2) xo yo
          have g : (eqGuard op' t xo yo (.agg A) (.agg B)).run P w = .ok () w := by
            rcases hop with rfl | rfl
            · exact g1
            · exact g1
          simp only [Sem.run_bind, g, Result.andThen_ok]
          exact binOp_eq hop rfl g2
    · cases hb
  have nEq : ∀ b, aeqB P t x y = some b → ∀ op', (op' = .eql ∨ op' = .neq) → (do eqGuard op' t xo yo u v; Go.binOp op' t u v : Sem Value).run P w = .ok (.bool (if op' = .eql then b else !b)) w := fun b hb op' hop => by
    obtain ⟨k1, k2⟩ := aeqN_sound (w := w) hx hy hb
    have hg : (eqGuard op' t xo yo u v).run P w = .ok () w := guard_plain t xo yo u v k2
    simp only [Sem.run_bind, hg, Result.andThen_ok]
    refine binOp_eq hop ?_ k1
    unfold aeqB at hb
    split at hb
    · cases hx; rfl
    · split at hb
      · rename_i ht
        unfold aeqT at ht
        cases hx <;> simp at ht <;> first | rfl | (cases hU : P.underlying t <;> rw [hU] at ht <;> simp at ht <;> rename_i D <;> cases D <;> simp at ht)
      · cases hb
  unfold abinA at h
  split at h
  · split at h
    · cases ha : aeqS P t _ _ with
      | none => rw [ha] at h; simp at h
      | some b =>
        rw [ha] at h; simp at h; subst h
        exact ⟨_, sEq _ _ b rfl rfl ha .eql (Or.inl rfl), .bool _⟩
    · exact plain _ _ h
    · exact plain _ _ h
    · cases ha : aeqB P t x y with
      | none => rw [ha] at h; simp at h
      | some b =>
        rw [ha] at h; simp at h; subst h
        exact ⟨_, nEq b ha .eql (Or.inl rfl), .bool _⟩
  · split at h
    · cases ha : aeqS P t _ _ with
      | none => rw [ha] at h; simp at h
      | some b =>
        rw [ha] at h; simp at h; subst h
        exact ⟨_, sEq _ _ b rfl rfl ha .neq (Or.inr rfl), .bool _⟩
    · exact plain _ _ h
    · exact plain _ _ h
    · cases ha : aeqB P t x y with
      | none => rw [ha] at h; simp at h
      | some b =>
        rw [ha] at h; simp at h; subst h
        exact ⟨_, nEq b ha .neq (Or.inr rfl), .bool _⟩
  · exact plain _ _ h

theorem eval_map {ρ : Operand → AVal} {ρ' : Operand → Value} (hρ : ∀ x, VR own M (ρ x) (ρ' x)) (l : Array Operand) : (l.map ρ').size = (l.toList.map ρ).length ∧ ∀ (i : Nat) c, (l.toList.map ρ)[i]? = some c → VR own M c ((l.map ρ').getD i undef) := by
  refine ⟨by simp, fun i c hi => ?_⟩
  rw [List.getElem?_map] at hi
  cases hx : l.toList[i]? with
  | none => rw [hx] at hi; simp at hi
  | some x =>
    rw [hx] at hi; simp at hi; subst hi
    rw [Array.getElem?_toList] at hx
    have : (l.map ρ').getD i undef = ρ' x := by simp [Array.getD_eq_getD_getElem?, hx]
    rw [this]; exact hρ x
theorem opt_map {ρ : Operand → AVal} {ρ' : Operand → Value} (hρ : ∀ x, VR own M (ρ x) (ρ' x)) (x : Option Operand) : OptR own M (x.map ρ) (x.map ρ') := by
  cases x with
  | none => exact ⟨fun x h => by simp at h, fun _ => rfl⟩
  | some x => exact ⟨fun y h => by simp at h; subst h; exact ⟨_, rfl, hρ x⟩, fun h => by simp at h⟩

/-- The model yields what 'aval' says. -/
theorem aval_sound (hst : St own M η n w) {o : Oper} {ρ : Operand → AVal} {ρ' : Operand → Value} (hρ : ∀ x, VR own M (ρ x) (ρ' x)) {v : AVal} (h : aval P o ρ η = some v) :
    ∃ u, (execOp ρ' o).run P w = .ok (.value u) w ∧ VR own M v u := by
  have wrap : ∀ (s : Sem Value), (∃ y, s.run P w = .ok y w ∧ VR own M v y) → ∃ u, (do pure (.value (← s)) : Sem Next).run P w = .ok (.value u) w ∧ VR own M v u := fun s ⟨y, k1, k2⟩ =>
    ⟨y, by simp only [Sem.run_bind, k1, Result.andThen_ok, Sem.run_pure], k2⟩
  unfold aval at h
  unfold execOp
  cases hop : o.op <;> rw [hop] at h <;> simp only [reduceCtorEq] at h ⊢
  case move x => cases h; exact ⟨_, rfl, hρ x⟩
  case assign x => cases h; exact ⟨_, rfl, hρ x⟩
  case pick c a b =>
    have hc := hρ c
    split at h
    · rename_i t ht
      rw [ht] at hc
      cases h
      generalize ρ' c = cv at hc
      cases hc
      refine ⟨if t then ρ' a else ρ' b, by unfold asBool; simp, ?_⟩
      cases t
      · exact hρ b
      · exact hρ a
    · cases h
  case build t parts =>
    refine wrap _ (build_sound (parts := parts.toList.map fun p => (p.1, ρ p.2)) ?_ (by simp) fun i p q hp hq => ?_)
    · rw [← h]; congr 1; simp
    · rw [List.getElem?_map] at hp
      rw [Array.getElem?_map] at hq
      cases hx : parts[i]? with
      | none => rw [hx] at hq; simp at hq
      | some x =>
        rw [Array.getElem?_toList, hx] at hp
        rw [hx] at hq
        simp at hp hq; subst hp hq
        exact ⟨rfl, hρ x.2⟩
  case load t a => exact wrap _ (aload_sound hst (hρ a) h)
  case nilCheck x =>
    have hx := hρ x
    split at h
    · rename_i r i j e; cases h; rw [e] at hx; generalize ρ' x = u at hx; cases hx with | ptr _ _ _ p hr => exact ⟨_, rfl, .ptr r i j p hr⟩
    · rename_i cs j e; cases h; rw [e] at hx; generalize ρ' x = u at hx; cases hx with | ro _ _ b o arr hb hl hc => exact ⟨_, rfl, .ro cs j b o arr hb hl hc⟩
    · rename_i f a b e; cases h; rw [e] at hx; generalize ρ' x = u at hx; cases hx with | func _ _ _ F C hF hC hf hc => exact ⟨_, rfl, .func f a b F C hF hC hf hc⟩
    · cases h
  case binOp op t x y ty => exact wrap _ (abinA_sound x y (hρ x) (hρ y) h)
  case unOp op t x =>
    have hx := hρ x
    unfold aun at h
    split at h
    · rename_i b e; cases h; rw [e] at hx; generalize ρ' x = u at hx; cases hx; exact ⟨_, rfl, .bool _⟩
    · rename_i k m e; cases h; rw [e] at hx; generalize ρ' x = u at hx; cases hx; exact ⟨_, rfl, .int _ _⟩
    · rename_i k m e; cases h; rw [e] at hx; generalize ρ' x = u at hx; cases hx; exact ⟨_, rfl, .int _ _⟩
    · cases h
  case convert src dst x =>
    have hx := hρ x
    split at h
    · rename_i hs
      obtain ⟨d, hd⟩ := Option.isSome_iff_exists.1 hs
      unfold aconv at h
      split at h
      · rename_i k kk m hk e
        cases h
        rw [e] at hx; generalize ρ' x = u at hx; cases hx
        unfold tint at hk
        split at hk
        · rename_i q hq
          cases hk
          refine wrap _ ⟨.int k (k.wrap m), ?_, .int _ _⟩
          unfold convert underlying
          simp only [Sem.run_bind, run_program, Result.andThen_ok, hd, hq, Sem.run_pure]
          unfold Conv.intToInt
          rfl
        · cases hk
      · cases h
    · cases h
  case makeFunc fn first caps =>
    cases fn with
    | func f =>
      cases h
      obtain ⟨f1, f2⟩ := eval_map hρ first
      obtain ⟨c1, c2⟩ := eval_map hρ caps
      exact ⟨_, rfl, .func f _ _ _ _ f1 c1 f2 c2⟩
    | _ => cases h
  case slice t x lo hi mx => exact wrap _ (aslice_sound hst (hρ x) (opt_map hρ lo) (opt_map hρ hi) (opt_map hρ mx) h)
  case fieldAddr s x f => exact wrap _ (afield_sound (hρ x) h)
  case lookup t x k ok => exact wrap _ (lookup_sound hst (hρ x) (hρ k) h)
  case field s x f => exact wrap _ (afldv_sound (hρ x) h)
  case indexAddr t x ix => exact wrap _ (aindex_sound hst (hρ x) (hρ ix) h)
  case index t x ix => exact wrap _ (aindexv_sound (hρ x) (hρ ix) h)
  case extract t ix =>
    have hx := hρ t
    unfold aextract at h
    split at h
    · rename_i vs e
      rw [e] at hx; generalize ρ' t = u at hx
      cases hx with
      | tup _ A hA hc =>
        have hl := (List.getElem?_eq_some_iff.1 h).1
        refine wrap _ ⟨A.getD ix undef, ?_, hc ix v h⟩
        have e : A[ix]? = some (A.getD ix undef) := by rw [Array.getD_eq_getD_getElem?, Array.getElem?_eq_getElem (by omega)]; rfl
        unfold Instr.extract
        simp only [e]; rfl
    · cases h
  case call c =>
    unfold acallV at h
    obtain ⟨callee, args, argTypes⟩ := c
    simp only at h
    cases callee with
    | builtin b =>
      simp only at h
      have toA : ∀ {α : Type} {l : Array α} {m : List α}, l.toList = m → l = m.toArray := fun {α l m} e => by rw [← e]
      split at h
      · rename_i x t ea et
        have ea := toA ea; have et := toA et; subst ea et
        cases hl : alenT P t (ρ x) η with
        | none => rw [hl] at h; simp at h
        | some m =>
          rw [hl] at h; simp at h; subst h
          refine ⟨_, ?_, .int .i64 m⟩
          unfold resolve invoke builtin
          simp only [Sem.run_bind, Sem.run_pure, Result.andThen_ok]
          have := alen_sound hst (hρ x) hl o.type
          simp only [List.map_toArray, List.map_cons, List.map_nil, this, Result.andThen_ok]
      · rename_i x t ea et
        have ea := toA ea; have et := toA et; subst ea et
        cases hl : acapT P t (ρ x) with
        | none => rw [hl] at h; simp at h
        | some m =>
          rw [hl] at h; simp at h; subst h
          refine ⟨_, ?_, .int .i64 m⟩
          unfold resolve invoke builtin
          simp only [Sem.run_bind, Sem.run_pure, Result.andThen_ok]
          have := acap_sound (w := w) (hρ x) hl o.type
          simp only [List.map_toArray, List.map_cons, List.map_nil, this, Result.andThen_ok]
      · rename_i x y ea
        have ea := toA ea; subst ea
        have hx := hρ x; have hy := hρ y
        unfold aminmax at h
        split at h
        · rename_i k a k' b e1 e2
          rw [e1] at hx; rw [e2] at hy
          generalize hu : ρ' x = u at hx; generalize hv : ρ' y = z at hy
          cases hx; cases hy
          split at h
          · rename_i hk
            cases h
            refine ⟨_, ?_, .int _ _⟩
            unfold resolve invoke builtin Builtin.min_
            simp only [Sem.run_bind, Sem.run_pure, Result.andThen_ok, List.map_toArray, List.map_cons, List.map_nil, hu, hv]
            subst hk
            have : (if b < a then b else a) = min a b := by omega
            simp [Builtin.min2, this]
          · cases h
        · cases h
      · rename_i x y ea
        have ea := toA ea; subst ea
        have hx := hρ x; have hy := hρ y
        unfold aminmax at h
        split at h
        · rename_i k a k' b e1 e2
          rw [e1] at hx; rw [e2] at hy
          generalize hu : ρ' x = u at hx; generalize hv : ρ' y = z at hy
          cases hx; cases hy
          split at h
          · rename_i hk
            cases h
            refine ⟨_, ?_, .int _ _⟩
            unfold resolve invoke builtin Builtin.max_
            simp only [Sem.run_bind, Sem.run_pure, Result.andThen_ok, List.map_toArray, List.map_cons, List.map_nil, hu, hv]
            subst hk
            have : (if b > a then b else a) = max a b := by omega
            simp [Builtin.max2, ← this]
          · cases h
        · cases h
      · cases h
    | _ => cases h
end
end Go.Proofs.YtbomkomipaipmaaGreat
namespace Go.Proofs.YtbomkomipaipmaaGreat

def arange (P : Program) (t : TypeId) (x : AVal) (η : AHeap) (n : Nat) (K : AVal → AHeap → Nat → Prop) : Prop :=
  match P.underlying t, x with
  | some (.map _ _), .nilm => K (.ptr n 0 0) (upd η n (some (.iter none []))) (n + 1)
  | some (.map _ _), .mp r => match η r with
    | some (.map es) => ∀ (E : Array MapEntry) (clk : Nat), E.size = es.length → K (.ptr n 0 0) (upd (upd η r (some (.mapR E clk es))) n (some (.iter (some (r, E, clk)) []))) (n + 1)
    | _ => False
  | _, _ => False
def anext (x : AVal) (str : Bool) (η : AHeap) (n : Nat) (K : AVal → AHeap → Nat → Prop) : Prop :=
  str = false ∧ match x with
  | .ptr q 0 0 => match η q with
    | some (.iter none _) => K (.tup [.bool false]) η n
    | some (.iter (some (r, E, clk)) seen) => match η r with
      | some (.mapR E' clk' es) => E' = E ∧ clk' = clk ∧ (∀ (i : Nat) (e : AVal × AVal), es[i]? = some e → ¬ i ∈ seen → K (.tup [.bool true, e.1, e.2]) (upd η q (some (.iter (some (r, E, clk)) (seen ++ [i])))) n) ∧
          ((∀ i, i < es.length → i ∈ seen) → K (.tup [.bool false]) η n)
      | _ => False
    | _ => False
  | _ => False
def aentry (x : AVal) (η : AHeap) (n : Nat) (K : AVal → AHeap → Nat → Prop) : Prop :=
  match x with
  | .ptr q 0 0 => match η q with
    | some (.iter (some (r, E, clk)) seen) => match η r with
      | some (.mapR E' clk' es) => E' = E ∧ clk' = clk ∧ ∃ (i : Nat) (e : AVal × AVal), seen.getLast? = some i ∧ es[i]? = some e ∧ K (.tup [e.1, e.2]) η n
      | _ => False
    | _ => False
  | _ => False

section
variable {P : Program} {own : Own} {M : Mem} {η : AHeap} {n : Nat} {w : World}

/-- a new block that is no cells -/
theorem St.fresh1 (hst : St own M η n w) {o : AObj} {b : Obj} (hor : OR (own.put n ⟨w.heap.size, 0, 1, 1⟩) M (w.alloc b) ⟨w.heap.size, 0, 1, 1⟩ o) :
    St (own.put n ⟨w.heap.size, 0, 1, 1⟩) M (upd η n (some o)) (n + 1) (w.alloc b) ∧ Fr (OB own η) w (w.alloc b) ∧ (∀ x, OB (own.put n ⟨w.heap.size, 0, 1, 1⟩) (upd η n (some o)) x → OB own η x ∨ w.heap.size ≤ x) := by
  have hfn := hst.fresh n (Nat.le_refl _)
  have hold : ∀ x, x < w.heap.size → (w.alloc b).heap[x]? = w.heap[x]? := fun x hx => Go.RowKit.Below.heap_alloc _ _ _ hx
  refine ⟨hst.add hor (fun _ r q o hr hq hs => ?_) (fun x hx => hold x (OB.lt hst hx)) (fun x a hM => hold x (hst.mem_lt hM)), Fr.alloc _ _ _, fun x hx => ?_⟩
  · obtain ⟨q', g1, g2⟩ := hst.obj r o hr
    rw [hq] at g1; cases g1
    have := g2.lt hs
    simp only; omega
  · rcases OB.add hfn hx with h | h
    · exact Or.inl h
    · exact Or.inr (by rw [h]; exact Nat.le_refl _)
theorem noMem_size (hst : St own M η n w) : M w.heap.size = none := by
  cases hM : M w.heap.size with
  | none => rfl
  | some a => have := hst.mem_lt hM; omega

theorem arange_sound (hst : St own M η n w) {t : TypeId} {x : AVal} {u : Value} {K : AVal → AHeap → Nat → Prop} (hx : VR own M x u) (h : arange P t x η n K) :
    ∃ v w' a η' n' own' M', (Instr.range t u).run P w = .ok v w' ∧ K a η' n' ∧ n ≤ n' ∧ St own' M' η' n' w' ∧ VR own' M' a v ∧ own.le own' ∧ M.le M' ∧ Fr (OB own η) w w' ∧ (∀ b, OB own' η' b → OB own η b ∨ w.heap.size ≤ b) ∧ ∀ b, M' b ≠ none → M b ≠ none := by
  have hfn := hst.fresh n (Nat.le_refl _)
  have hle := Own.le_put hfn ⟨w.heap.size, 0, 1, 1⟩
  have hnew : ∀ b, (w.alloc b).heap[w.heap.size]? = some b := fun b => by show (w.heap.push b)[w.heap.size]? = some b; simp
  have hvr : VR (own.put n ⟨w.heap.size, 0, 1, 1⟩) M (.ptr n 0 0) (.pointer (some ⟨w.heap.size, 0, none⟩)) := .ptr n 0 0 ⟨w.heap.size, 0, 1, 1⟩ (by simp [Own.put])
  unfold arange at h
  split at h
  · rename_i k v hu
    cases hx
    obtain ⟨s1, s2, s3⟩ := hst.fresh1 (o := .iter none []) (b := .mapIter none 0 #[] 0) ⟨by simp, rfl, noMem_size hst, 0, #[], 0, hnew _⟩
    refine ⟨_, w.alloc (.mapIter none 0 #[] 0), _, _, _, _, M, ?_, h, Nat.le_succ _, s1, hvr, hle, Mem.le_refl _, s2, s3, fun _ h => h⟩
    unfold Instr.range
    simp only [Sem.run_bind, run_underlying hu w, Result.andThen_ok, Sem.run_pure, run_newObj]
    rfl
  · rename_i k v r hu
    split at h
    · rename_i es hη
      obtain ⟨p, hp, h1, h2, E, clk, h3, h4, h5, h6⟩ := hst.obj r _ hη
      cases hx with
      | mp _ p' hp' =>
      rw [hp] at hp'; cases hp'
      have hst1 : St own M (upd η r (some (.mapR E clk es))) n w := hst.turn hη hp ⟨h1, h2, h3, h4, h5, h6⟩ (fun _ _ => rfl) h1
      have hq : own.put n ⟨w.heap.size, 0, 1, 1⟩ r = some p := hle _ _ hp
      obtain ⟨s1, s2, s3⟩ := hst1.fresh1 (o := .iter (some (r, E, clk)) []) (b := .mapIter (some p.b) clk #[] clk) ⟨by simp, rfl, noMem_size hst, by simp, p, hq, hnew _⟩
      have hob : ∀ b, OB own (upd η r (some (.mapR E clk es))) b → OB own η b := fun b hb => OB.turn hη hb
      refine ⟨_, w.alloc (.mapIter (some p.b) clk #[] clk), _, _, _, _, M, ?_, h E clk h4, Nat.le_succ _, s1, hvr, hle, Mem.le_refl _, s2.weaken hob, fun b hb => (s3 b hb).imp (hob b) _root_.id, fun _ h => h⟩
      unfold Instr.range
      simp only [Sem.run_bind, run_underlying hu w, Result.andThen_ok, Sem.run_pure, run_newObj, getMap_run h3]
      rfl
    · exact h.elim
  · exact h.elim

theorem born_inj {E : Array MapEntry} (h : (E.toList.map (·.born)).Nodup) {i j : Nat} (hi : i < E.size) (hj : j < E.size) (e : (E.getD i default).born = (E.getD j default).born) : i = j := by
  have e1 : (E.getD i default) = E[i] := by simp [Array.getD_eq_getD_getElem?, hi]
  have e2 : (E.getD j default) = E[j] := by simp [Array.getD_eq_getD_getElem?, hj]
  rw [e1, e2] at e
  have := (List.getElem_inj (h₀ := by simpa using hi) (h₁ := by simpa using hj) h).1 (by simpa using e)
  exact this

theorem getIter_run {b : Nat} {m : Option Nat} {a c : Nat} {s : Array Nat} (h : w.heap[b]? = some (.mapIter m a s c)) : (getObj b).run P w = .ok (.mapIter m a s c) w := by
  simp [getObj, Sem.run, h]
theorem setIter_run {b : Nat} {m m' : Option Nat} {a c a' c' : Nat} {s s' : Array Nat} (h : w.heap[b]? = some (.mapIter m a s c)) (d : Nat) : (setObj b (.mapIter m' a' s' c')).run P { w with drawn := d } = .ok () { w with heap := w.heap.setIfInBounds b (.mapIter m' a' s' c'), drawn := d } := by
  simp [setObj, Sem.run, h]

theorem choose_run (k : Nat) (h : 0 < k) : ∃ i d, i < k ∧ (choose (.mapNext k)).run P w = .ok i { w with drawn := d } := by
  unfold choose
  simp only [Sem.run]
  split
  · exact ⟨0, w.drawn, h, rfl⟩
  · exact ⟨_, w.drawn + 1, Nat.mod_lt _ h, rfl⟩

theorem anext_sound (hst : St own M η n w) {t : TypeId} {x : AVal} {str : Bool} {u : Value} {K : AVal → AHeap → Nat → Prop} (hx : VR own M x u) (h : anext x str η n K) :
    ∃ v w' a η', (Instr.next u str t).run P w = .ok v w' ∧ K a η' n ∧ St own M η' n w' ∧ VR own M a v ∧ Fr (OB own η) w w' ∧ ∀ b, OB own η' b → OB own η b := by
  obtain ⟨rfl, h⟩ := h
  split at h
  rotate_left
  · exact h.elim
  rename_i q
  have over : VR own M (.tup [.bool false]) (.tuple #[.bool false]) := .tup _ _ rfl fun i c hi => by
    match i, hi with
    | 0, hi => simp at hi; subst hi; exact .bool _
    | i + 1, hi => simp at hi
  split at h
  · rename_i sn hη
    obtain ⟨p, hp, h1, h0, h2, c, sn, d, h3⟩ := hst.obj q _ hη
    cases hx with
    | ptr _ _ _ p' hp' =>
    rw [hp] at hp'; cases hp'
    refine ⟨_, w, _, η, ?_, h, hst, over, Fr.refl _ _, fun _ h => h⟩
    unfold Instr.next
    simp only [h0, Nat.zero_mul, Nat.add_zero]
    simp only [Sem.run_bind, getIter_run h3, Result.andThen_ok, Sem.run_pure]
  · rename_i r E clk seen hη
    split at h
    · rename_i E' clk' es hr
      obtain ⟨rfl, rfl, hy, hn⟩ := h
      obtain ⟨p, hp, h1, h0, h2, hsn, m, hm, h3⟩ := hst.obj q _ hη
      obtain ⟨m', hm', g1, g2, g3, g4, ⟨g5, g6⟩, g7⟩ := hst.obj r _ hr
      rw [hm] at hm'; cases hm'
      cases hx with
      | ptr _ _ _ p' hp' =>
      rw [hp] at hp'; cases hp'
      have hlt := blk_lt' h3
      have hob : OB own η p.b := ⟨q, p, _, hη, hp, h1, rfl⟩
      have hns : ¬ ((!(seen.map fun i => (E'.getD i default).born).toArray.isEmpty && !E'.isEmpty && E'.all (·.born ≥ clk')) = true) := fun hh => by
        simp only [Bool.and_eq_true, Bool.not_eq_true', Array.all_eq_true] at hh
        obtain ⟨⟨_, hne⟩, hall⟩ := hh
        have hs : 0 < E'.size := by
          rcases Nat.eq_zero_or_pos E'.size with h | h
          · rw [Array.isEmpty] at hne; simp [h] at hne
          · exact h
        have h5 := hall 0 hs
        have h6 := g5 E'[0] (by simp)
        simp at h5
        omega
      obtain ⟨B, hB⟩ : ∃ B, B = (seen.map fun i => (E'.getD i default).born).toArray := ⟨_, rfl⟩
      have hBc : ∀ i (hi : i < E'.size), B.contains E'[i].born = true ↔ i ∈ seen := fun i hi => by
        rw [hB, List.contains_toArray, List.contains_iff_mem, List.mem_map]
        constructor
        · rintro ⟨j, hj, e⟩
          have hj' := hsn j hj
          have : j = i := born_inj g6 hj' hi (by rw [e]; simp [Array.getD_eq_getD_getElem?, hi])
          exact this ▸ hj
        · intro h; exact ⟨i, h, by simp [Array.getD_eq_getD_getElem?, hi]⟩
      have ho : (E'.filter fun e => !B.contains e.born).filter (·.born < clk') = E'.filter fun e => !B.contains e.born := by
        rw [Array.filter_eq_self]
        intro e he
        have := g5 e (by simpa using (Array.mem_filter.1 he).1)
        simpa using this
      have hw : (E'.filter fun e => !B.contains e.born).filter (·.born ≥ clk') = #[] := by
        rw [Array.filter_eq_empty_iff]
        intro e he
        have := g5 e (by simpa using (Array.mem_filter.1 he).1)
        simpa using this
      have hrun : (Instr.next (.pointer (some ⟨p.b, p.s + 0 * p.k + 0, none⟩)) false t).run P w = (do
          let candidates := (if (E'.filter fun e => !B.contains e.born).isEmpty then #[none] else #[]) ++ (E'.filter fun e => !B.contains e.born).map some
          match candidates[← choose (.mapNext candidates.size)]? with
          | some (some e) =>
            setObj p.b (.mapIter (some m.b) clk' (B.push e.born) clk')
            pure (.tuple #[.bool true, e.key, e.val])
          | some none => pure (.tuple #[.bool false])
          | none => stuck "Next: no such candidate" : Sem Value).run P w := by
        unfold Instr.next
        simp only [h0, Nat.zero_mul, Nat.add_zero]
        rw [← hB] at h3 hns
        simp only [Sem.run_bind, getIter_run h3, Result.andThen_ok, getMap_run g3]
        rw [if_neg hns]
        simp only [Sem.run_bind, ho, hw, Array.append_empty]
        rfl
      cases hl : (E'.filter fun e => !B.contains e.born).isEmpty with
      | true =>
        have hl0 : (E'.filter fun e => !B.contains e.born) = #[] := by simpa using hl
        obtain ⟨i, d, hi, hc⟩ := choose_run (P := P) (w := w) 1 (by decide)
        have hi0 : i = 0 := by omega
        subst hi0
        refine ⟨.tuple #[.bool false], { w with drawn := d }, .tup [.bool false], η, ?_, hn fun i hi => ?_, hst.drawn d, over, Fr.drewN _ _ _, fun _ h => h⟩
        · rw [hrun, hl0]
          simp only [Array.isEmpty_empty, if_true, Array.map_empty, Array.append_empty, List.size_toArray, List.length_cons, List.length_nil, Sem.run_bind, hc, Result.andThen_ok]
          rfl
        · have hi' : i < E'.size := by omega
          have : ¬ E'[i] ∈ E'.filter fun e => !B.contains e.born := by rw [hl0]; simp
          rw [Array.mem_filter] at this
          refine (hBc i hi').1 ?_
          have h2 : E'[i] ∈ E' := Array.getElem_mem hi'
          simpa [h2] using this
      | false =>
        obtain ⟨L, hL⟩ : ∃ L, L = (E'.filter fun e => !B.contains e.born) := ⟨_, rfl⟩
        rw [← hL] at hl hrun
        have hpos : 0 < L.size := by
          rcases Nat.eq_zero_or_pos L.size with h | h
          · rw [Array.isEmpty] at hl; simp [h] at hl
          · exact h
        obtain ⟨i, d, hi, hc⟩ := choose_run (P := P) (w := w) L.size hpos
        have hmem : L[i] ∈ E'.filter fun e => !B.contains e.born := by rw [← hL]; exact Array.getElem_mem hi
        obtain ⟨hm1, hm2⟩ := Array.mem_filter.1 hmem
        obtain ⟨j, hj, ej⟩ := Array.getElem_of_mem hm1
        have hjs : ¬ j ∈ seen := fun h => by
          have := (hBc j hj).2 h
          rw [ej] at this
          simp at hm2
          exact hm2 (by simpa using this)
        have hje : j < es.length := by omega
        obtain ⟨k1, k2⟩ := g7 j es[j] E'[j] (List.getElem?_eq_getElem hje) (Array.getElem?_eq_getElem hj)
        refine ⟨.tuple #[.bool true, L[i].key, L[i].val], { w with heap := w.heap.setIfInBounds p.b (.mapIter (some m.b) clk' (B.push L[i].born) clk'), drawn := d }, _, _, ?_, hy j es[j] (List.getElem?_eq_getElem hje) hjs, ?_, ?_, ?_, fun b hb => OB.turn hη hb⟩
        · rw [hrun]
          simp only [hl, Bool.false_eq_true, if_false, Array.empty_append, Array.size_map, Sem.run_bind, hc, Result.andThen_ok, Array.getElem?_map, Array.getElem?_eq_getElem hi, Option.map_some]
          simp only [setIter_run h3 d, Result.andThen_ok, Sem.run_pure]
        · refine hst.turn hη hp ⟨h1, h0, h2, fun x hx => ?_, m, hm, ?_⟩ (fun b hb => by simp [Array.getElem?_setIfInBounds_ne (Ne.symm hb)]) h1
          · rcases List.mem_append.1 hx with h | h
            · exact hsn x h
            · simp at h; subst h; exact hj
          · simp only [Array.getElem?_setIfInBounds_self, hlt, if_true]
            rw [hB]
            simp [← ej, Array.getD_eq_getD_getElem?, hj]
        · rw [← ej]
          refine .tup _ _ rfl fun i c hi => ?_
          match i, hi with
          | 0, hi => simp at hi; subst hi; exact .bool _
          | 1, hi => simp at hi; subst hi; exact k1
          | 2, hi => simp at hi; subst hi; exact k2
          | i + 3, hi => simp at hi
        · exact ⟨rfl, rfl, rfl, by simp, fun b _ hd => by
            have : b ≠ p.b := fun e => hd (e ▸ hob)
            simp [Array.getElem?_setIfInBounds_ne (Ne.symm this)]⟩
    · exact h.elim
  · exact h.elim

theorem aentry_sound (hst : St own M η n w) {x : AVal} {u : Value} {K : AVal → AHeap → Nat → Prop} (hx : VR own M x u) (h : aentry x η n K) :
    ∃ v a, (Instr.entry u).run P w = .ok v w ∧ K a η n ∧ VR own M a v := by
  unfold aentry at h
  split at h
  rotate_left
  · exact h.elim
  rename_i q
  split at h
  · rename_i r E clk seen hη
    split at h
    · rename_i E' clk' es hr
      obtain ⟨rfl, rfl, i, e, hi, he, hK⟩ := h
      obtain ⟨p, hp, h1, h0, h2, hsn, m, hm, h3⟩ := hst.obj q _ hη
      obtain ⟨m', hm', g1, g2, g3, g4, ⟨g5, g6⟩, g7⟩ := hst.obj r _ hr
      rw [hm] at hm'; cases hm'
      cases hx with
      | ptr _ _ _ p' hp' =>
      rw [hp] at hp'; cases hp'
      have hie : i < E'.size := hsn i (List.mem_of_getLast? hi)
      obtain ⟨k1, k2⟩ := g7 i e E'[i] he (Array.getElem?_eq_getElem hie)
      have hb : (seen.map fun i => (E'.getD i default).born).toArray.back? = some E'[i].born := by
        rw [List.back?_toArray, List.getLast?_map, hi]
        simp [Array.getD_eq_getD_getElem?, hie]
      have hf : E'.find? (·.born == E'[i].born) = some E'[i] := by
        rw [← Array.find?_toList]
        rw [List.find?_eq_some_iff_getElem]
        refine ⟨by simp, i, by simpa using hie, by simp, fun j hj => ?_⟩
        simp only [Array.getElem_toList, Bool.not_eq_true', beq_eq_false_iff_ne, ne_eq]
        intro e
        have hj' : j < E'.size := by omega
        have : j = i := born_inj g6 hj' hie (by simpa [Array.getD_eq_getD_getElem?, hie, hj'] using e)
        omega
      refine ⟨.tuple #[E'[i].key, E'[i].val], _, ?_, hK, ?_⟩
      · unfold Instr.entry
        simp only [h0, Nat.zero_mul, Nat.add_zero]
        simp only [Sem.run_bind, getIter_run h3, Result.andThen_ok, hb, getMap_run g3]
        simp only [bne_self_eq_false, Bool.false_eq_true, if_false, Sem.run_pure, hf]
      · refine .tup _ _ rfl fun i c hi => ?_
        match i, hi with
        | 0, hi => simp at hi; subst hi; exact k1
        | 1, hi => simp at hi; subst hi; exact k2
        | i + 2, hi => simp at hi
    · exact h.elim
  · exact h.elim
end
end Go.Proofs.YtbomkomipaipmaaGreat
namespace Go.Proofs.YtbomkomipaipmaaGreat

/-- no block that lay there and that nobody knew is known behind -/
def Kn (own : Own) (M : Mem) (η : AHeap) (size : Nat) (own' : Own) (M' : Mem) (η' : AHeap) : Prop :=
  (∀ b, OB own' η' b → OB own η b ∨ size ≤ b) ∧ ∀ b, M' b ≠ none → M b ≠ none ∨ OB own η b ∨ size ≤ b
/-- what comes out, from where one stood -/
def Out (own : Own) (M : Mem) (η : AHeap) (n : Nat) (w : World) (K : AVal → AHeap → Nat → Prop) (u : Value) (w' : World) : Prop :=
  ∃ v η' n' own' M', K v η' n' ∧ n ≤ n' ∧ St own' M' η' n' w' ∧ VR own' M' v u ∧ own.le own' ∧ M.le M' ∧ Fr (OB own η) w w' ∧ Kn own M η w.heap.size own' M' η'

/-- a function's contract -/
def AC (P : Program) (f : FuncId) (args : List AVal) (η : AHeap) (n : Nat) (K : AVal → AHeap → Nat → Prop) : Prop :=
  ∀ (own : Own) (M : Mem) (w : World) (vals : Array Value), St own M η n w → vals.size = args.length → (∀ (i : Nat) c, args[i]? = some c → VR own M c (vals.getD i undef)) →
    Calls P f vals w fun e w' => ∃ u, e = .returned u ∧ Out own M η n w K u w'

theorem AC.mono {P : Program} {f : FuncId} {args : List AVal} {η : AHeap} {n : Nat} {K K' : AVal → AHeap → Nat → Prop} (h : AC P f args η n K) (hk : ∀ v η' n', K v η' n' → K' v η' n') : AC P f args η n K' :=
  fun own M w vals h1 h2 h3 => (h own M w vals h1 h2 h3).mono fun _ _ ⟨u, e, v, η', n', own', M', k, r⟩ => ⟨u, e, v, η', n', own', M', hk _ _ _ k, r⟩

section
variable (P : Program)
def chunk (z : Nat) : Nat → List AVal → List (List AVal)
  | 0, _ => []
  | n + 1, cs => cs.take z :: chunk z n (cs.drop z)
/-- a slice's rows of k cells -/
def arows (k : Nat) (x : AVal) (η : AHeap) : Option (List (List AVal)) :=
  match x with
  | .nils | .e0 => some []
  | .rs k' rows => if k' = k ∧ 0 < k then some rows else none
  | .sl r o n => match η r with
    | some (.cells k' rows) => if k' = k ∧ o + n ≤ rows.length then some ((rows.drop o).take n) else none
    | _ => none
  | .slc r o n _ => match η r with
    | some (.cells k' rows) => if k' = k ∧ o + n ≤ rows.length then some ((rows.drop o).take n) else none
    | _ => none
  | .arr r i j n z => match η r with
    | some (.cells _ rows) => match rows[i]? with
      | some row => if z = k ∧ 0 < k ∧ j + n * z ≤ row.length then some (chunk z n ((row.drop j).take (n * z))) else none
      | none => none
    | _ => none
  | _ => none
def astore (t : TypeId) (p x : AVal) (η : AHeap) : Option AHeap :=
  match p with
  | .ptr r i j => match η r, tsize P t with
    | some (.cells k rows), some z => match rows[i]? with
      | some row => if (acells x).length = z ∧ (acells x).all AVal.sc = true ∧ j + z ≤ k ∧ 0 < z then some (upd η r (some (.cells k (rows.set i (row.take j ++ acells x ++ row.drop (j + z)))))) else none
      | none => none
    | _, _ => none
  | _ => none
def aappend (t t2 : TypeId) (d x : AVal) (η : AHeap) (n : Nat) (K : AVal → AHeap → Nat → Prop) : Prop :=
  match telem P t with
  | some e => match tzero P e, tbytes P e, P.underlying t2 with
    | some zs, some b, some (.int .i64) => match d, x with
      | .nils, .int .i64 m => 0 < zs.length ∧ 0 ≤ m ∧ m * b ≤ 140737488355328 ∧ m ≤ lenMax ∧ K (.sl n 0 m.toNat) (upd η n (some (.cells zs.length (List.replicate m.toNat zs)))) (n + 1)
      | _, _ => False
    | some zs, some b, some (.slice _) => t2 = t ∧ 0 < zs.length ∧
      (match arows zs.length x η with
      | some news => (∀ r ∈ news, ∀ c ∈ r, c.sc = true) ∧
        (match d with
        | .nils | .e0 => news.length * b ≤ 140737488355328 ∧ news.length ≤ lenMax ∧ K (.sl n 0 news.length) (upd η n (some (.cells zs.length news))) (n + 1)
        | .sl r o m => match η r with
          | some (.cells k rows) => k = zs.length ∧ o + m ≤ rows.length ∧ (m + news.length) * b ≤ 140737488355328 ∧ m + news.length ≤ lenMax ∧
              K (.sl n 0 (m + news.length)) (upd (upd η r none) n (some (.cells zs.length ((rows.drop o).take m ++ news)))) (n + 1)
          | _ => False
        | .slc r o m c => match η r with
          | some (.cells k rows) => k = zs.length ∧ o + c ≤ rows.length ∧ m + news.length ≤ c ∧ K (.slc r o (m + news.length) c) (upd η r (some (.cells k (rows.take (o + m) ++ news ++ rows.drop (o + m + news.length))))) n
          | _ => False
        | _ => False)
      | none => False)
    | _, _, _ => False
  | none => False
/-- rows written over others, as many as there is room for -/
def acopy (t t2 : TypeId) (d x : AVal) (η : AHeap) (n : Nat) (K : AVal → AHeap → Nat → Prop) : Prop :=
  match telem P t with
  | some e => match tsize P e, P.underlying t2 with
    | some z, some (.slice _) => 0 < z ∧ (match arows z x η with
      | some news => (∀ r ∈ news, ∀ c ∈ r, c.sc = true) ∧ (match d with
        | .nils | .e0 => K (.int .i64 0) η n
        | .sl r o m => match η r with
          | some (.cells k rows) => k = z ∧ o + m ≤ rows.length ∧
              K (.int .i64 (min news.length m : Nat)) (upd η r (some (.cells k (rows.take o ++ news.take (min news.length m) ++ rows.drop (o + min news.length m))))) n
          | _ => False
        | _ => False)
      | none => False)
    | _, _ => False
  | none => False
/-- rows made zero -/
def aclear (t : TypeId) (x : AVal) (η : AHeap) : Option AHeap :=
  match telem P t, x with
  | some e, .slc r o m _ => match tzero P e, η r with
    | some zs, some (.cells k rows) => if k = zs.length ∧ o + m ≤ rows.length ∧ zs.all AVal.sc = true then some (upd η r (some (.cells k (rows.take o ++ List.replicate m zs ++ rows.drop (o + m))))) else none
    | _, _ => none
  | _, _ => none
/-- is a slice nil? -/
def anil (x : AVal) (K : Bool → Prop) : Prop :=
  match x with
  | .rs _ rows => K false ∧ (rows = [] → K true)
  | .sl _ _ n => K false ∧ (n = 0 → K true)
  | .e0 => K false ∧ K true
  | .nils => K true
  | .arr _ _ _ _ _ => K false
  | _ => False
def achg (o : Oper) (ρ : Operand → AVal) (η : AHeap) (n : Nat) (K : AVal → AHeap → Nat → Prop) : Prop :=
  match o.op with
  | .alloc t => match tzero P t with
    | some cs => cs ≠ [] ∧ K (.ptr n 0 0) (upd η n (some (.cells cs.length [cs]))) (n + 1)
    | none => False
  | .box t x => match tsize P t with
    | some z => (acells (ρ x)).length = z ∧ (acells (ρ x)).all AVal.sc = true ∧ 0 < z ∧ K (.ptr n 0 0) (upd η n (some (.cells z [acells (ρ x)]))) (n + 1)
    | none => False
  | .buildSlice t len parts => match telem P t with
    | some e => match tzero P e with
      | some zs => match afillP (fun i => some (i * zs.length, zs.length)) (List.replicate len zs).flatten (parts.toList.map fun p => (p.1, acells (ρ p.2))) with
        | some cs => 0 < zs.length ∧ len * zs.length ≤ 16777216 ∧ K (.sl n 0 len) (upd η n (some (.cells zs.length (chunk zs.length len cs)))) (n + 1)
        | none => False
      | none => False
    | none => False
  | .makeSlice t l c => match telem P t, ρ l, ρ c with
    | some e, .int _ l, .int _ c => match tzero P e, tbytes P e with
      | some zs, some b => 0 < zs.length ∧ 0 ≤ l ∧ l ≤ c ∧ b * c ≤ 281474976710656 ∧ c ≤ 9223372036854775807 ∧ K (.sl n 0 l.toNat) (upd η n (some (.cells zs.length (List.replicate l.toNat zs)))) (n + 1)
      | _, _ => False
    | _, _, _ => False
  | .store t p x => match astore P t (ρ p) (ρ x) η with
    | some η' => K .undef η' n
    | none => False
  | .makeMap _ none => K (.mp n) (upd η n (some (.map []))) (n + 1)
  | .range t x => arange P t (ρ x) η n K
  | .next x str => anext (ρ x) str η n K
  | .entry x => aentry (ρ x) η n K
  | .insert t m k v | .mapUpdate t m k v => match ainsert P t (ρ m) (ρ k) (ρ v) η with
    | some η' => K .undef η' n
    | none => False
  | .binOp .eql t x y _ => match P.underlying t, ρ y with
    | some (.slice _), .nils => anil (ρ x) fun b => K (.bool b) η n
    | _, _ => False
  | .binOp .neq t x y _ => match P.underlying t, ρ y with
    | some (.slice _), .nils => anil (ρ x) fun b => K (.bool !b) η n
    | _, _ => False
  | .call c => match c.callee with
    | .builtin b => match b, c.args.toList, c.argTypes.toList with
      | .append, [d, x], [t, t2] => aappend P t t2 (ρ d) (ρ x) η n K
      | .copy, [d, x], [t, t2] => acopy P t t2 (ρ d) (ρ x) η n K
      | .clear, [x], [t] => (match aclear P t (ρ x) η with
        | some η' => K .undef η' n
        | none => False)
      | .delete, [m, k], [t, _] => (match adelete P t (ρ m) (ρ k) η with
        | some η' => K .undef η' n
        | none => False)
      | _, _, _ => False
    | .value f => match ρ f with
      | .func fid first caps => (P.funcs[fid]?.any fun fn => fn.body.isSome && !(fn.name == "runtime.NumGoroutine")) = true ∧ AC P fid (first ++ c.args.toList.map ρ ++ caps) η n K
      | _ => False
    | _ => False
  | _ => False
end

section
variable {P : Program} {own : Own} {M : Mem} {η : AHeap} {n : Nat} {w : World} {K : AVal → AHeap → Nat → Prop}

/-- a new object, in a new block -/
theorem Out.new (hst : St own M η n w) {k : Nat} {rows : List (List AVal)} {arr : Array Value} {T : TypeId} {v : AVal} {u : Value} {w1 : World} (hk : 0 < k) (hr : ∀ row ∈ rows, row.length = k) (hsz : rows.length * k ≤ arr.size)
    (hc : ∀ (i j : Nat) (row : List AVal) (c : AVal), rows[i]? = some row → row[j]? = some c → VR own M c (arr.getD (i * k + j) undef)) (hw : w1.heap = w.heap ∧ w1.os = w.os ∧ w1.tape = w.tape ∧ w1.output = w.output)
    (hv : VR (own.put n ⟨w.heap.size, 0, arr.size, k⟩) M v u) (hK : K v (upd η n (some (.cells k rows))) (n + 1)) : Out own M η n w K u (w1.alloc (.cells arr T)) := by
  obtain ⟨e1, e2, e3, e4⟩ := hw
  have hfn := hst.fresh n (Nat.le_refl _)
  have hle := Own.le_put hfn ⟨w.heap.size, 0, arr.size, k⟩
  have hold : ∀ b, b < w.heap.size → (w1.alloc (.cells arr T)).heap[b]? = w.heap[b]? := fun b hb => by
    rw [Go.RowKit.Below.heap_alloc _ _ _ (by rw [e1]; exact hb), e1]
  have hnew : (w1.alloc (.cells arr T)).heap[w.heap.size]? = some (.cells arr T (0, 0)) := by
    show (w1.heap.push _)[w.heap.size]? = _
    rw [e1]; simp
  refine ⟨v, _, n + 1, _, M, hK, Nat.le_succ _, hst.add (p := ⟨w.heap.size, 0, arr.size, k⟩) ?_ (fun _ r q o hr hq hs => ?_) (fun b hb => hold b (OB.lt hst hb)) (fun b a hM => hold b (hst.mem_lt hM)), hv, hle, Mem.le_refl _, ?_, ⟨fun b hb => ?_, fun b hb => Or.inl hb⟩⟩
  · refine ⟨rfl, hk, hr, by simpa using hsz, fun _ => ⟨?_, arr, T, hnew, Nat.le_refl _⟩, fun i j row c hi hj => ?_⟩
    · cases hM : M w.heap.size with
      | none => rfl
      | some a => have := hst.mem_lt hM; omega
    · have hil := (List.getElem?_eq_some_iff.1 hi).1
      have hjl := (List.getElem?_eq_some_iff.1 hj).1
      have hrl := hr row (List.mem_of_getElem? hi)
      have h1 : (i + 1) * k ≤ rows.length * k := Nat.mul_le_mul_right k hil
      rw [Nat.succ_mul] at h1
      have hlt : i * k + j < arr.size := by omega
      refine ⟨arr.getD (i * k + j) undef, ?_, (hc i j row c hi hj).mono hle (Mem.le_refl _)⟩
      simp [World.cell?, hnew, hlt, Array.getD_eq_getD_getElem?]
  · obtain ⟨q', g1, g2⟩ := hst.obj r o hr
    rw [hq] at g1; cases g1
    have := g2.lt hs
    simp only; omega
  · exact ⟨e2, e3, e4, by simp [e1], fun b hb _ => hold b hb⟩
  · rcases OB.add hfn hb with h | h
    · exact Or.inl h
    · exact Or.inr (by rw [h]; exact Nat.le_refl _)

theorem getD_mid {α : Type} (l : List α) (vs : List α) (o q : Nat) (d : α) (h : o + vs.length ≤ l.length) :
    (l.take o ++ vs ++ l.drop (o + vs.length)).getD q d = if o ≤ q ∧ q < o + vs.length then vs.getD (q - o) d else l.getD q d := by
  have t1 : (l.take o).length = o := by simp; omega
  have t2 : (l.take o ++ vs).length = o + vs.length := by simp; omega
  simp only [List.getD_eq_getElem?_getD]
  rcases Nat.lt_or_ge q o with k1 | k1
  · rw [if_neg (by omega), List.append_assoc, List.getElem?_append_left (by omega), List.getElem?_take, if_pos k1]
  · rcases Nat.lt_or_ge q (o + vs.length) with k2 | k2
    · rw [if_pos ⟨k1, k2⟩, List.append_assoc, List.getElem?_append_right (by omega), List.getElem?_append_left (by omega), t1]
    · rw [if_neg (by omega), List.getElem?_append_right (by omega), List.getElem?_drop, t2]
      congr 2; omega

/-- cells written into an object's block -/
theorem store_cells (hst : St own M η n w) {r i j : Nat} {k : Nat} {rows : List (List AVal)} {row cs : List AVal} {p : Spot} {A : Array Value} (hη : η r = some (.cells k rows)) (hp : own r = some p) (hi : rows[i]? = some row) (hj : j + cs.length ≤ k) (hcs : 0 < cs.length)
    (hA : A.size = cs.length) (h1 : ∀ v ∈ A.toList, v.oneCell' = true) (hc : ∀ (q : Nat) c, cs[q]? = some c → VR own M c (A.getD q undef)) :
    ∃ w', (storeCells ⟨p.b, p.s + i * p.k + j, none⟩ A.toList).run P w = .ok () w' ∧ St own M (upd η r (some (.cells k (rows.set i (row.take j ++ cs ++ row.drop (j + cs.length)))))) n w' ∧ Fr (OB own η) w w' := by
  obtain ⟨p', g1, g2⟩ := hst.obj r _ hη
  rw [hp] at g1; cases g1
  obtain ⟨e1, hk, hrows, hle, hreal, hcell⟩ := g2
  have hil := (List.getElem?_eq_some_iff.1 hi).1
  have hrl := hrows row (List.mem_of_getElem? hi)
  have hik : (i + 1) * k ≤ rows.length * k := Nat.mul_le_mul_right k hil
  rw [Nat.succ_mul] at hik
  have hre : p.s < p.e := by omega
  obtain ⟨hM, arr, T, hh, hea⟩ := hreal hre
  have hrun := run_storeCells_at P p.b (p.s + i * p.k + j) T A.toList 0 arr w hh (by simp only [Array.length_toList, e1]; omega) h1
  have hrun' := hrun
  simp only [Nat.add_zero] at hrun'
  refine ⟨_, hrun', ?_, ?_⟩
  · refine hst.turn hη hp ?_ (fun b hb => setRow_other w p.b b _ hb) hre
    have hheap := setRow_heap w p.b arr (arr.toList.take (p.s + i * p.k + j) ++ A.toList ++ arr.toList.drop (p.s + i * p.k + j + A.toList.length)).toArray T (0, 0) hh
    have hlen2 : (row.take j ++ cs ++ row.drop (j + cs.length)).length = k := by simp; omega
    refine ⟨e1, hk, fun row' hr' => ?_, by simpa using hle, fun _ => ⟨hM, _, T, hheap, ?_⟩, fun i' j' row' c hi' hj' => ?_⟩
    · rcases List.mem_or_eq_of_mem_set hr' with h | h
      · exact hrows row' h
      · rw [h]; exact hlen2
    · simp only [List.size_toArray, List.length_append, List.length_take, List.length_drop, Array.length_toList]; omega
    · have hi'l : i' < rows.length := by
        have := (List.getElem?_eq_some_iff.1 hi').1; simpa using this
      have hik' : (i' + 1) * k ≤ rows.length * k := Nat.mul_le_mul_right k hi'l
      rw [Nat.succ_mul] at hik'
      have hrow'k : row'.length = k := by
        rcases List.mem_or_eq_of_mem_set (List.mem_of_getElem? hi') with h | h
        · exact hrows row' h
        · rw [h]; exact hlen2
      have hj'l := (List.getElem?_eq_some_iff.1 hj').1
      have hq : p.s + i' * k + j' < arr.size := by omega
      have hget : (w.setRow p.b (arr.toList.take (p.s + i * p.k + j) ++ A.toList ++ arr.toList.drop (p.s + i * p.k + j + A.toList.length)).toArray).cell? ⟨p.b, p.s + i' * k + j', none⟩ =
          some (if p.s + i * k + j ≤ p.s + i' * k + j' ∧ p.s + i' * k + j' < p.s + i * k + j + A.toList.length then A.toList.getD (p.s + i' * k + j' - (p.s + i * k + j)) undef else arr.toList.getD (p.s + i' * k + j') undef) := by
        rw [World.cell?, hheap]
        simp only [Option.isSome_none, Bool.false_eq_true, if_false]
        rw [← getD_mid arr.toList A.toList (p.s + i * k + j) _ undef (by simp; omega), e1]
        rw [List.getElem?_toArray, List.getD_eq_getElem?_getD, List.getElem?_eq_getElem]
        · rfl
        · simp only [List.length_append, List.length_take, List.length_drop, Array.length_toList]; omega
      refine ⟨_, hget, ?_⟩
      by_cases hii : i = i'
      · subst hii
        rw [List.getElem?_set_self hil] at hi'
        simp only [Option.some.injEq] at hi'
        subst hi'
        have hg : (row.take j ++ cs ++ row.drop (j + cs.length)).getD j' .undef = c := by rw [List.getD_eq_getElem?_getD, hj']; rfl
        rw [getD_mid row cs j j' .undef (by omega)] at hg
        by_cases hm : j ≤ j' ∧ j' < j + cs.length
        · rw [if_pos hm] at hg
          rw [if_pos (by simp; omega)]
          have e2 : p.s + i * k + j' - (p.s + i * k + j) = j' - j := by omega
          rw [e2]
          have hcq : cs[j' - j]? = some c := by rw [List.getElem?_eq_getElem (by omega)]; rw [List.getD_eq_getElem?_getD, List.getElem?_eq_getElem (by omega)] at hg; simpa using hg
          have := hc _ c hcq
          have e3 : A.toList.getD (j' - j) undef = A.getD (j' - j) undef := by simp [Array.getD_eq_getD_getElem?]
          rw [e3]; exact this
        · rw [if_neg hm] at hg
          rw [if_neg (by simp; omega)]
          have hcq : row[j']? = some c := by rw [List.getElem?_eq_getElem (by omega)]; rw [List.getD_eq_getElem?_getD, List.getElem?_eq_getElem (by omega)] at hg; simpa using hg
          obtain ⟨v, k1, k2⟩ := hcell i j' row c hi hcq
          have e3 : arr.toList.getD (p.s + i * k + j') undef = v := by
            rw [World.cell?, hh] at k1
            simp at k1
            simp [List.getD_eq_getElem?_getD, k1]
          rw [e3]; exact k2
      · rw [List.getElem?_set_ne hii] at hi'
        obtain ⟨v, k1, k2⟩ := hcell i' j' row' c hi' hj'
        rw [if_neg (by
          simp only [Array.length_toList, hA]
          rcases Nat.lt_or_ge i i' with h | h
          · have : (i + 1) * k ≤ i' * k := Nat.mul_le_mul_right k h
            rw [Nat.succ_mul] at this; omega
          · have : (i' + 1) * k ≤ i * k := Nat.mul_le_mul_right k (by omega)
            rw [Nat.succ_mul] at this; omega)]
        have e3 : arr.toList.getD (p.s + i' * k + j') undef = v := by
          rw [World.cell?, hh] at k1
          simp at k1
          simp [List.getD_eq_getElem?_getD, k1]
        rw [e3]; exact k2
  · exact ⟨rfl, rfl, rfl, by simp [World.setRow], fun b hb hd => setRow_other w p.b b _ fun e => hd ⟨r, p, _, hη, hp, hre, e.symm⟩⟩
end
end Go.Proofs.YtbomkomipaipmaaGreat
