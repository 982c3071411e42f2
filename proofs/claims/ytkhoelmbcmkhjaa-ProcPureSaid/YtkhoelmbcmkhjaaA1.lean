/- Abstract Go, 1: values, heaps, and how they stand to the model's worlds. No program in sight. -/
import Derived.WalkKit
import Derived.WalkLawsBesides
import Derived.Lib.Hide
import Derived.Orders
namespace Go.Proofs.Ytkhoelmbcmkhjaa

inductive AVal where
  | undef
  | int (k : IntKind) (n : Int)
  | bool (b : Bool)
  | str (s : ByteArray)
  | nilp
  | ptr (r i j : Nat)
  | ro (cs : List AVal) (j : Nat)
  | nils
  | e0
  | sl (r o n : Nat)
  | rs (k : Nat) (rows : List (List AVal))
  | func (f : FuncId) (first caps : List AVal)
  | nilf
  | nilm
  | mp (r : Nat)
  | agg (cs : List AVal)
  | tup (vs : List AVal)
  | arr (r i j n z : Nat)
  deriving Inhabited

/-- one cell, and known -/
def AVal.sc : AVal → Bool
  | .undef | .agg _ | .tup _ => false
  | _ => true

inductive AObj where
  | cells (k : Nat) (rows : List (List AVal))
  | map (es : List (AVal × AVal))
abbrev AHeap := Nat → Option AObj
def upd (η : AHeap) (r : Nat) (o : Option AObj) : AHeap := fun x => if x = r then o else η x
theorem upd_eq (η : AHeap) (r : Nat) (o : Option AObj) : upd η r o r = o := by simp [upd]
theorem upd_ne {η : AHeap} {r x : Nat} {o : Option AObj} (h : x ≠ r) : upd η r o x = η x := by simp [upd, h]
theorem upd_upd (η : AHeap) (r : Nat) (o o' : Option AObj) : upd (upd η r o) r o' = upd η r o' := by
  funext x; simp only [upd]; split <;> rfl
def AHeap.le (η' η : AHeap) : Prop := ∀ r o, η' r = some o → η r = some o

/-- where an object lies: its block, its first cell, its end, a row's cells -/
structure Spot where
  b : Nat
  s : Nat
  e : Nat
  k : Nat
abbrev Own := Nat → Option Spot
abbrev Mem := Nat → Option (Array Value)
def Own.le (o o' : Own) : Prop := ∀ r p, o r = some p → o' r = some p
def Mem.le (M M' : Mem) : Prop := ∀ b a, M b = some a → M' b = some a
theorem Own.le_refl (o : Own) : o.le o := fun _ _ h => h
theorem Mem.le_refl (o : Mem) : o.le o := fun _ _ h => h
theorem Own.le_trans {a b c : Own} (h : a.le b) (k : b.le c) : a.le c := fun r p e => k r p (h r p e)
theorem Mem.le_trans {a b c : Mem} (h : a.le b) (k : b.le c) : a.le c := fun r p e => k r p (h r p e)

def lenMax : Nat := 17592186044416

inductive VR (own : Own) (M : Mem) : AVal → Value → Prop
  | undef (v : Value) : VR own M .undef v
  | int (k : IntKind) (n : Int) : VR own M (.int k n) (.int k n)
  | bool (b : Bool) : VR own M (.bool b) (.bool b)
  | str (s : ByteArray) : VR own M (.str s) (.string s)
  | nilp : VR own M .nilp (.pointer none)
  | ptr (r i j : Nat) (p : Spot) (h : own r = some p) : VR own M (.ptr r i j) (.pointer (some ⟨p.b, p.s + i * p.k + j, none⟩))
  | ro (cs : List AVal) (j b o : Nat) (arr : Array Value) (hb : M b = some arr) (hl : ∀ (i : Nat) (c : AVal), cs[i]? = some c → o + i < arr.size) (hc : ∀ (i : Nat) (c : AVal), cs[i]? = some c → VR own M c (arr.getD (o + i) undef)) :
      VR own M (.ro cs j) (.pointer (some ⟨b, o + j, none⟩))
  | nils : VR own M .nils (.slice none 0 0)
  | e0 (a : Option Addr) : VR own M .e0 (.slice a 0 0)
  | sl (r o n : Nat) (p : Spot) (a : Option Addr) (cap : Nat) (h : own r = some p) (hn : n ≤ cap) (hm : cap ≤ 9223372036854775807) (hc : 0 < cap → a = some ⟨p.b, p.s + o * p.k, none⟩ ∧ p.s + (o + cap) * p.k ≤ p.e) :
      VR own M (.sl r o n) (.slice a n cap)
  | rs (k : Nat) (rows : List (List AVal)) (a : Option Addr) (cap b o : Nat) (arr : Array Value) (hn : rows.length ≤ cap) (hm : cap ≤ 9223372036854775807) (hx : rows.length ≤ lenMax)
      (ha : 0 < rows.length → a = some ⟨b, o, none⟩) (hb : 0 < rows.length → M b = some arr) (hk : ∀ (i : Nat) (row : List AVal), rows[i]? = some row → row.length = k)
      (hl : ∀ (i j : Nat) (row : List AVal) (c : AVal), rows[i]? = some row → row[j]? = some c → o + i * k + j < arr.size) (hc : ∀ (i j : Nat) (row : List AVal) (c : AVal), rows[i]? = some row → row[j]? = some c → VR own M c (arr.getD (o + i * k + j) undef)) :
      VR own M (.rs k rows) (.slice a rows.length cap)
  | func (f : FuncId) (fs cs : List AVal) (F C : Array Value) (hF : F.size = fs.length) (hC : C.size = cs.length) (hf : ∀ (i : Nat) (c : AVal), fs[i]? = some c → VR own M c (F.getD i undef))
      (hc : ∀ (i : Nat) (c : AVal), cs[i]? = some c → VR own M c (C.getD i undef)) : VR own M (.func f fs cs) (.func (.func f) F C)
  | nilf : VR own M .nilf .nilFunc
  | nilm : VR own M .nilm (.map none)
  | mp (r : Nat) (p : Spot) (h : own r = some p) : VR own M (.mp r) (.map (some p.b))
  | agg (cs : List AVal) (A : Array Value) (hA : A.size = cs.length) (hs : ∀ c ∈ cs, c.sc = true) (hc : ∀ (i : Nat) (c : AVal), cs[i]? = some c → VR own M c (A.getD i undef)) : VR own M (.agg cs) (.agg A)
  | tup (cs : List AVal) (A : Array Value) (hA : A.size = cs.length) (hc : ∀ (i : Nat) (c : AVal), cs[i]? = some c → VR own M c (A.getD i undef)) : VR own M (.tup cs) (.tuple A)
  | arr (r i j n z : Nat) (p : Spot) (a : Addr) (cap : Nat) (h : own r = some p) (hn : n ≤ cap) (hm : cap ≤ 9223372036854775807) (hc : 0 < cap → a = ⟨p.b, p.s + i * p.k + j, none⟩ ∧ j + cap * z ≤ p.k) : VR own M (.arr r i j n z) (.slice (some a) n cap)

theorem VR.mono {own own' : Own} {M M' : Mem} (ho : own.le own') (hM : M.le M') {c : AVal} {v : Value} (h : VR own M c v) : VR own' M' c v := by
  induction h with
  | undef v => exact .undef v
  | int k n => exact .int k n
  | bool b => exact .bool b
  | str s => exact .str s
  | nilp => exact .nilp
  | ptr r i j p h => exact .ptr r i j p (ho _ _ h)
  | ro cs j b o arr hb hl _ ih => exact .ro cs j b o arr (hM _ _ hb) hl ih
  | nils => exact .nils
  | e0 a => exact .e0 a
  | sl r o n p a cap h hn hm hc => exact .sl r o n p a cap (ho _ _ h) hn hm hc
  | rs k rows a cap b o arr hn hm hx ha hb hk hl _ ih => exact .rs k rows a cap b o arr hn hm hx ha (fun h => hM _ _ (hb h)) hk hl ih
  | func f fs cs F C hF hC _ _ ih1 ih2 => exact .func f fs cs F C hF hC ih1 ih2
  | nilf => exact .nilf
  | nilm => exact .nilm
  | mp r p h => exact .mp r p (ho _ _ h)
  | agg cs A hA hs _ ih => exact .agg cs A hA hs ih
  | tup cs A hA _ ih => exact .tup cs A hA ih
  | arr r i j n z p a cap h hn hm hc => exact .arr r i j n z p a cap (ho _ _ h) hn hm hc

theorem VR.oneCell {own : Own} {M : Mem} {c : AVal} {v : Value} (h : VR own M c v) (hs : c.sc = true) : v.oneCell' = true := by
  cases h <;> first | rfl | (simp [AVal.sc] at hs)

/-- an object in a world -/
def OR (own : Own) (M : Mem) (w : World) (p : Spot) : AObj → Prop
  | .cells k rows => p.k = k ∧ 0 < k ∧ (∀ row ∈ rows, row.length = k) ∧ p.s + rows.length * k ≤ p.e ∧ (p.s < p.e → M p.b = none ∧ ∃ arr T, w.heap[p.b]? = some (.cells arr T (0, 0)) ∧ p.e ≤ arr.size) ∧
      ∀ (i j : Nat) (row : List AVal) (c : AVal), rows[i]? = some row → row[j]? = some c → ∃ v, w.cell? ⟨p.b, p.s + i * k + j, none⟩ = some v ∧ VR own M c v
  | .map es => p.s < p.e ∧ M p.b = none ∧ ∃ (E : Array MapEntry) (clk : Nat), w.heap[p.b]? = some (.map E clk) ∧ E.size = es.length ∧ (∀ e ∈ E.toList, e.born < clk) ∧
      ∀ (i : Nat) (e : AVal × AVal) (x : MapEntry), es[i]? = some e → E[i]? = some x → VR own M e.1 x.key ∧ VR own M e.2 x.val

structure St (own : Own) (M : Mem) (η : AHeap) (n : Nat) (w : World) : Prop where
  fresh : ∀ r, n ≤ r → own r = none
  obj : ∀ r o, η r = some o → ∃ p, own r = some p ∧ OR own M w p o
  inj : ∀ r r' p p' o o', r ≠ r' → η r = some o → η r' = some o' → own r = some p → own r' = some p' → p.s < p.e → p'.s < p'.e → p.b ≠ p'.b
  mem : ∀ b arr, M b = some arr → ∃ T z, w.heap[b]? = some (.cells arr T z)

/-- the blocks that the objects lie in -/
def OB (own : Own) (η : AHeap) (b : Nat) : Prop := ∃ r p o, η r = some o ∧ own r = some p ∧ p.s < p.e ∧ p.b = b

/-- but for some blocks, what was there is as it was -/
structure Fr (D : Nat → Prop) (w w' : World) : Prop where
  os : w'.os = w.os
  tape : w'.tape = w.tape
  output : w'.output = w.output
  size : w.heap.size ≤ w'.heap.size
  block : ∀ b, b < w.heap.size → ¬ D b → w'.heap[b]? = w.heap[b]?

theorem Fr.refl (D : Nat → Prop) (w : World) : Fr D w w := ⟨rfl, rfl, rfl, Nat.le_refl _, fun _ _ _ => rfl⟩
theorem Fr.trans {D D' : Nat → Prop} {a b c : World} (h : Fr D a b) (k : Fr D' b c) (hD : ∀ x, x < a.heap.size → D' x → D x) : Fr D a c :=
  ⟨k.os.trans h.os, k.tape.trans h.tape, k.output.trans h.output, Nat.le_trans h.size k.size, fun x hx hd => (k.block x (Nat.lt_of_lt_of_le hx h.size) fun h' => hd (hD x hx h')).trans (h.block x hx hd)⟩
theorem Fr.weaken {D D' : Nat → Prop} {a b : World} (h : Fr D a b) (hD : ∀ x, D x → D' x) : Fr D' a b := ⟨h.os, h.tape, h.output, h.size, fun x hx hd => h.block x hx fun h' => hd (hD x h')⟩
theorem Fr.alloc (D : Nat → Prop) (w : World) (o : Obj) : Fr D w (w.alloc o) := ⟨rfl, rfl, rfl, by simp, fun b hb _ => Go.RowKit.Below.heap_alloc _ _ _ hb⟩
theorem Fr.setCell {D : Nat → Prop} (w : World) (a : Addr) (v : Value) (h : D a.block) : Fr D w (w.setCell a v) :=
  ⟨rfl, rfl, rfl, by simp, fun b _ hd => Go.RowKit.Below.heap_setCell _ _ _ _ fun e => hd (e ▸ h)⟩
theorem Fr.drewN (D : Nat → Prop) (w : World) (n : Nat) : Fr D w { w with drawn := n } := ⟨rfl, rfl, rfl, Nat.le_refl _, fun _ _ _ => rfl⟩

section
variable {own own' : Own} {M M' : Mem} {η η' : AHeap} {n n' : Nat} {w w' : World}

theorem blk_lt' {b : Nat} {o : Obj} (h : w.heap[b]? = some o) : b < w.heap.size := (Array.getElem?_eq_some_iff.1 h).1
theorem cell_of_heap {a : Addr} (h : ∀ b, b = a.block → w'.heap[b]? = w.heap[b]?) : w'.cell? a = w.cell? a := by
  unfold World.cell?; rw [h _ rfl]

theorem OR.lt {p : Spot} {o : AObj} (h : OR own M w p o) (hr : p.s < p.e) : p.b < w.heap.size := by
  cases o with
  | cells k rows => obtain ⟨_, _, _, _, h5, _⟩ := h; obtain ⟨_, arr, T, h6, _⟩ := h5 hr; exact blk_lt' h6
  | map es => obtain ⟨_, _, E, clk, h1, _⟩ := h; exact blk_lt' h1
theorem OR.noMem {p : Spot} {o : AObj} (h : OR own M w p o) (hr : p.s < p.e) : M p.b = none := by
  cases o with
  | cells k rows => obtain ⟨_, _, _, _, h5, _⟩ := h; exact (h5 hr).1
  | map es => exact h.2.1

/-- an object stays, where its block does, and the values' places are kept -/
theorem OR.keep {p : Spot} {o : AObj} (h : OR own M w p o) (ho : own.le own') (hM : M.le M') (hb : p.s < p.e → w'.heap[p.b]? = w.heap[p.b]?) (hm : p.s < p.e → M' p.b = none) : OR own' M' w' p o := by
  cases o with
  | cells k rows =>
    obtain ⟨h1, h2, h3, h4, h5, h6⟩ := h
    refine ⟨h1, h2, h3, h4, fun hr => ⟨hm hr, ?_⟩, fun i j row c hi hj => ?_⟩
    · obtain ⟨_, arr, T, g1, g2⟩ := h5 hr
      exact ⟨arr, T, (hb hr).trans g1, g2⟩
    · obtain ⟨v, g1, g2⟩ := h6 i j row c hi hj
      have hil := (List.getElem?_eq_some_iff.1 hi).1
      have hr : p.s < p.e := by
        have : 1 * k ≤ rows.length * k := Nat.mul_le_mul_right k (by omega)
        omega
      exact ⟨v, (cell_of_heap (a := ⟨p.b, _, none⟩) (fun b e => by subst e; exact hb hr)).trans g1, g2.mono ho hM⟩
  | map es =>
    obtain ⟨h1, h2, E, clk, h3, h4, h5, h6⟩ := h
    exact ⟨h1, hm h1, E, clk, (hb h1).trans h3, h4, h5, fun i e x hi hx => ⟨((h6 i e x hi hx).1).mono ho hM, ((h6 i e x hi hx).2).mono ho hM⟩⟩

theorem OB.lt (h : St own M η n w) {b : Nat} (hb : OB own η b) : b < w.heap.size := by
  obtain ⟨r, p, o, h1, h2, h3, rfl⟩ := hb
  obtain ⟨p', g1, g2⟩ := h.obj r o h1
  rw [h2] at g1; cases g1
  exact g2.lt h3
theorem St.mem_lt (h : St own M η n w) {b : Nat} {arr : Array Value} (hb : M b = some arr) : b < w.heap.size := by
  obtain ⟨T, z, g⟩ := h.mem b arr hb; exact blk_lt' g
theorem St.own_lt (h : St own M η n w) {r : Nat} {p : Spot} (hr : own r = some p) : r < n := by
  rcases Nat.lt_or_ge r n with h' | h'
  · exact h'
  · rw [h.fresh r h'] at hr; cases hr
theorem St.lt (h : St own M η n w) {r : Nat} {o : AObj} (hr : η r = some o) : r < n := by
  obtain ⟨p, g, _⟩ := h.obj r o hr; exact h.own_lt g

/-- less is known -/
theorem St.less (h : St own M η n w) (hη : η'.le η) (hn : n ≤ n') : St own M η' n' w :=
  ⟨fun r hr => h.fresh r (Nat.le_trans hn hr), fun r o hr => h.obj r o (hη r o hr), fun r r' p p' o o' hne hr hr' => h.inj r r' p p' o o' hne (hη r o hr) (hη r' o' hr'), h.mem⟩
theorem OB.less {b : Nat} (hη : η'.le η) (h : OB own η' b) : OB own η b := by
  obtain ⟨r, p, o, h1, h2⟩ := h; exact ⟨r, p, o, hη _ _ h1, h2⟩

/-- another world, alike where it matters -/
theorem St.world (h : St own M η n w) (hb : ∀ b, OB own η b → w'.heap[b]? = w.heap[b]?) (hm : ∀ b arr, M b = some arr → w'.heap[b]? = w.heap[b]?) : St own M η n w' := by
  refine ⟨h.fresh, fun r o hr => ?_, h.inj, fun b arr hM => ?_⟩
  · obtain ⟨p, g1, g2⟩ := h.obj r o hr
    exact ⟨p, g1, g2.keep (Own.le_refl _) (Mem.le_refl _) (fun hre => hb _ ⟨r, p, o, hr, g1, hre, rfl⟩) (fun hre => g2.noMem hre)⟩
  · obtain ⟨T, z, g⟩ := h.mem b arr hM
    exact ⟨T, z, (hm b arr hM).trans g⟩
theorem St.drawn (h : St own M η n w) (k : Nat) : St own M η n { w with drawn := k } := h.world (fun _ _ => rfl) (fun _ _ _ => rfl)

def Own.put (own : Own) (r : Nat) (p : Spot) : Own := fun x => if x = r then some p else own x
theorem Own.le_put {r : Nat} (h : own r = none) (p : Spot) : own.le (own.put r p) := fun x q hx => by
  unfold Own.put; split
  · rename_i e; subst e; rw [h] at hx; cases hx
  · exact hx

/-- a new object, in whatever spot that nobody else has -/
theorem St.add (h : St own M η n w) {o : AObj} {p : Spot} (hor : OR (own.put n p) M w' p o) (hnew : p.s < p.e → ∀ r q o, η r = some o → own r = some q → q.s < q.e → q.b ≠ p.b)
    (hb : ∀ b, OB own η b → w'.heap[b]? = w.heap[b]?) (hm : ∀ b arr, M b = some arr → w'.heap[b]? = w.heap[b]?) : St (own.put n p) M (upd η n (some o)) (n + 1) w' := by
  have hfn := h.fresh n (Nat.le_refl _)
  have hle := Own.le_put hfn p
  have hnn : ∀ r o', η r = some o' → r ≠ n := fun r o' hr e => by have := h.lt hr; omega
  refine ⟨fun r hr => ?_, fun r o' hr => ?_, fun r r' q q' o1 o2 hne hr hr' hq hq' hs hs' => ?_, fun b arr hM => ?_⟩
  · unfold Own.put; rw [if_neg (by omega)]; exact h.fresh r (by omega)
  · by_cases e : r = n
    · subst e
      rw [upd_eq] at hr; cases hr
      exact ⟨p, by simp [Own.put], hor⟩
    · rw [upd_ne e] at hr
      obtain ⟨q, g1, g2⟩ := h.obj r o' hr
      exact ⟨q, hle _ _ g1, g2.keep hle (Mem.le_refl _) (fun hre => hb _ ⟨r, q, o', hr, g1, hre, rfl⟩) (fun hre => g2.noMem hre)⟩
  · have key : ∀ r q o1, upd η n (some o) r = some o1 → own.put n p r = some q → r ≠ n → η r = some o1 ∧ own r = some q := fun r q o1 h1 h2 e => by
      rw [upd_ne e] at h1; simp only [Own.put, if_neg e] at h2; exact ⟨h1, h2⟩
    by_cases e : r = n
    · have e' : r' ≠ n := fun e2 => hne (e.trans e2.symm)
      obtain ⟨k1, k2⟩ := key _ _ _ hr' hq' e'
      subst e
      simp only [Own.put, if_true, Option.some.injEq] at hq
      subst hq
      exact (hnew hs r' q' o2 k1 k2 hs').symm
    · obtain ⟨k1, k2⟩ := key _ _ _ hr hq e
      by_cases e' : r' = n
      · subst e'
        simp only [Own.put, if_true, Option.some.injEq] at hq'
        subst hq'
        exact hnew hs' r q o1 k1 k2 hs
      · obtain ⟨k3, k4⟩ := key _ _ _ hr' hq' e'
        exact h.inj r r' q q' o1 o2 hne k1 k3 k2 k4 hs hs'
  · obtain ⟨T, z, g⟩ := h.mem b arr hM
    exact ⟨T, z, (hm b arr hM).trans g⟩

theorem OB.add {o : AObj} {p : Spot} {b : Nat} (hfn : own n = none) (h : OB (own.put n p) (upd η n (some o)) b) : OB own η b ∨ b = p.b := by
  obtain ⟨r, q, o', h1, h2, h3, h4⟩ := h
  by_cases e : r = n
  · subst e
    simp only [Own.put, if_true, Option.some.injEq] at h2
    subst h2; exact Or.inr h4.symm
  · rw [upd_ne e] at h1; simp only [Own.put, if_neg e] at h2
    exact Or.inl ⟨r, q, o', h1, h2, h3, h4⟩

/-- an object is turned into another one at its place -/
theorem St.turn (h : St own M η n w) {r : Nat} {o o' : AObj} {p : Spot} (hr : η r = some o) (hp : own r = some p) (hor : OR own M w' p o') (hb : ∀ b, b ≠ p.b → w'.heap[b]? = w.heap[b]?) (hre : p.s < p.e) :
    St own M (upd η r (some o')) n w' := by
  obtain ⟨p', g1, g2⟩ := h.obj r o hr
  rw [hp] at g1; cases g1
  refine ⟨h.fresh, fun x o1 hx => ?_, fun x x' q q' o1 o2 hne hx hx' hq hq' hs hs' => ?_, fun b arr hM => ?_⟩
  · by_cases e : x = r
    · subst e; rw [upd_eq] at hx; cases hx; exact ⟨p, hp, hor⟩
    · rw [upd_ne e] at hx
      obtain ⟨q, k1, k2⟩ := h.obj x o1 hx
      exact ⟨q, k1, k2.keep (Own.le_refl _) (Mem.le_refl _) (fun hq => hb _ (h.inj x r q p o1 o e hx hr k1 hp hq hre)) (fun hq => k2.noMem hq)⟩
  · have key : ∀ x o1, upd η r (some o') x = some o1 → ∃ o2, η x = some o2 := fun x o1 hx => by
      by_cases e : x = r
      · subst e; exact ⟨o, hr⟩
      · rw [upd_ne e] at hx; exact ⟨o1, hx⟩
    obtain ⟨a1, k1⟩ := key x o1 hx
    obtain ⟨a2, k2⟩ := key x' o2 hx'
    exact h.inj x x' q q' a1 a2 hne k1 k2 hq hq' hs hs'
  · obtain ⟨T, z, g⟩ := h.mem b arr hM
    have : b ≠ p.b := fun e => by subst e; rw [g2.noMem hre] at hM; cases hM
    exact ⟨T, z, (hb b this).trans g⟩
theorem OB.turn {r : Nat} {o o' : AObj} {b : Nat} (hr : η r = some o) (h : OB own (upd η r (some o')) b) : OB own η b := by
  obtain ⟨x, q, o1, h1, h2⟩ := h
  by_cases e : x = r
  · subst e; exact ⟨x, q, o, hr, h2⟩
  · rw [upd_ne e] at h1; exact ⟨x, q, o1, h1, h2⟩
end
end Go.Proofs.Ytkhoelmbcmkhjaa
