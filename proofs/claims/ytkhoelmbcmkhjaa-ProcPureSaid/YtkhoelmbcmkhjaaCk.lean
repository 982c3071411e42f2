/- Layer 6 (check): what its functions compute; the look's block. -/
import Derived.Test.YtkhoelmbcmkhjaaCg
namespace Go.Proofs.Ytkhoelmbcmkhjaa
set_option maxRecDepth 100000

structure Lc where
  m : List Actr
  k : Nat
  own : Actr
structure Lx where
  shapes : List (List Int)
  has : List Bool
  todo : List Bool
def bools (l : List Bool) : List AVal := l.map .bool
def lookC (c : Lc) (shv : AVal) (has todo : List Bool) : List AVal :=
  .rs 5 (actsC c.m) :: .int .i64 c.k :: .rs 1 (ints c.own.params) :: .rs 1 (ints c.own.regs) :: .rs 1 (ints c.own.msgs) :: .rs 2 (pairs c.own.code) :: .rs 2 (tblsC c.own.tabs) :: shv :: (bools has ++ bools todo)
section
variable (c : Lc) (v : AVal) (hs td : List Bool)
@[simp] theorem lookC_0 : (lookC c v hs td)[0]? = some (.rs 5 (actsC c.m)) := rfl
@[simp] theorem lookC_1 : (lookC c v hs td)[1]? = some (.int .i64 c.k) := rfl
@[simp] theorem lookC_2 : (lookC c v hs td)[2]? = some (.rs 1 (ints c.own.params)) := rfl
@[simp] theorem lookC_3 : (lookC c v hs td)[3]? = some (.rs 1 (ints c.own.regs)) := rfl
@[simp] theorem lookC_4 : (lookC c v hs td)[4]? = some (.rs 1 (ints c.own.msgs)) := rfl
@[simp] theorem lookC_5 : (lookC c v hs td)[5]? = some (.rs 2 (pairs c.own.code)) := rfl
@[simp] theorem lookC_6 : (lookC c v hs td)[6]? = some (.rs 2 (tblsC c.own.tabs)) := rfl
@[simp] theorem lookC_7 : (lookC c v hs td)[7]? = some v := rfl
theorem lookC_tail (i : Nat) : (lookC c v hs td)[8 + i]? = (bools hs ++ bools td)[i]? := by
  rw [show 8 + i = i + 8 by omega]; rfl
theorem lookC_has (h : hs.length = 200) (i : Nat) (hi : i < 200) : (lookC c v hs td)[8 + i]? = some (.bool (hs.getD i false)) := by
  rw [lookC_tail, List.getElem?_append_left (by simp [bools]; omega)]
  simp [bools, List.getD_eq_getElem?_getD, h, hi]
theorem lookC_todo (h : hs.length = 200) (h' : td.length = 200) (i : Nat) (hi : i < 200) : (lookC c v hs td)[208 + i]? = some (.bool (td.getD i false)) := by
  rw [show 208 + i = 8 + (200 + i) by omega, lookC_tail, List.getElem?_append_right (by simp [bools]; omega)]
  have : 200 + i - (bools hs).length = i := by simp [bools]; omega
  rw [this]
  simp [bools, List.getD_eq_getElem?_getD, h', hi]
theorem lookC_len (h : hs.length = 200) (h' : td.length = 200) : (lookC c v hs td).length = 408 := by simp [lookC, bools, h, h']
theorem set_mid {α : Type} (l : List α) (i : Nat) (x : α) (h : i < l.length) : l.take i ++ x :: l.drop (i + 1) = l.set i x := by
  rw [List.set_eq_take_append_cons_drop, if_pos h]
theorem lookC_set (i : Nat) (x : AVal) : (lookC c v hs td).set (8 + i) x = (lookC c v hs td).take 8 ++ (bools hs ++ bools td).set i x := by
  rw [show 8 + i = i + 8 by omega]; rfl
theorem lookC_setHas (h : hs.length = 200) (i : Nat) (hi : i < 200) (b : Bool) : (lookC c v hs td).set (8 + i) (.bool b) = lookC c v (hs.set i b) td := by
  rw [lookC_set, List.set_append_left _ _ (by simp [bools]; omega)]
  simp [lookC, bools, List.map_set]
theorem lookC_setTodo (h : hs.length = 200) (i : Nat) (hi : i < 200) (b : Bool) : (lookC c v hs td).set (208 + i) (.bool b) = lookC c v hs (td.set i b) := by
  rw [show 208 + i = 8 + (200 + i) by omega, lookC_set, List.set_append_right _ _ (by simp [bools]; omega)]
  have : 200 + i - (bools hs).length = i := by simp [bools]; omega
  rw [this]
  simp [lookC, bools, List.map_set]
theorem lookC_setShapes (v' : AVal) : (lookC c v hs td).set 7 v' = lookC c v' hs td := rfl
end
/-- one cell of one row -/
theorem astore_cell {P : Program} {t : TypeId} {r j k : Nat} {x : AVal} {η : AHeap} {row : List AVal} (h1 : η r = some (.cells k [row])) (h2 : tsize P t = some 1) (h3 : acells x = [x]) (h4 : x.sc = true) (h5 : j < k) (h6 : row.length = k) :
    astore P t (.ptr r 0 j) x η = some (upd η r (some (.cells k [row.set j x]))) := by
  have : row.take j ++ x :: row.drop (j + 1) = row.set j x := set_mid _ _ _ (by omega)
  unfold astore
  simp [h1, h2, h3, h4, this]
  omega
/-- one cell of a list of cells -/
theorem astore_row {P : Program} {t : TypeId} {r i : Nat} {x : AVal} {η : AHeap} {vs : List AVal} (h1 : η r = some (.cells 1 (vs.map fun v => [v]))) (h2 : tsize P t = some 1) (h3 : acells x = [x]) (h4 : x.sc = true) (h5 : i < vs.length) :
    astore P t (.ptr r i 0) x η = some (upd η r (some (.cells 1 ((vs.set i x).map fun v => [v])))) := by
  have e : (vs.map fun v => [v])[i]? = some [vs[i]] := by simp [h5]
  unfold astore
  simp only [h1, h2, e, h3]
  simp [h4, List.map_set]

def namesL (c : Lc) (i : Int × Int) : Bool :=
  if i.1 = 4 ∨ i.1 = 5 then decide (i.2 < c.own.regs.length) else if i.1 = 19 then decide (i.2 < c.m.length) else if i.1 = 21 then decide (i.2 < c.own.tabs.length) else true
def popL (s w : List Int) : List Int × Int := if s.length < w.length then ([], 12) else if s.drop (s.length - w.length) = w then (s.take (s.length - w.length), 0) else ([], 10)
def effL (c : Lc) (i : Int × Int) : List Int × List Int :=
  if i.1 = 1 then ([], [1]) else if i.1 = 2 ∨ i.1 = 3 then ([], [2]) else if i.1 = 4 then ([], [c.own.regs.getD i.2.toNat 0]) else if i.1 = 5 then ([c.own.regs.getD i.2.toNat 0], [])
  else if 6 ≤ i.1 ∧ i.1 ≤ 10 then ([1, 1], [1]) else if i.1 = 11 ∨ i.1 = 12 then ([1, 1], [2]) else if i.1 = 13 then ([2], [2]) else if i.1 = 14 ∨ i.1 = 15 then ([2, 2], [2]) else if i.1 = 17 then ([2], [])
  else if i.1 = 18 then ([], [16 + (c.k : Int)]) else if i.1 = 19 then ((actr c.m i.2).params, [16 + i.2]) else if i.1 = 23 ∨ i.1 = 24 ∨ (i.1 = 21 ∧ 0 ≤ (tbl c.own i.2).tmo) then ([1], []) else ([], [])
def sendL (c : Lc) (a : Int) (s : List Int) : List Int × Int :=
  if s.length < 2 then ([], 12) else if (actT (s.getD (s.length - 2) 0)).2 = false then ([], 10)
  else if a < (actr c.m (actT (s.getD (s.length - 2) 0)).1).msgs.length then (s.take (s.length - 2), if s.drop (s.length - 1) = [(actr c.m (actT (s.getD (s.length - 2) 0)).1).msgs.getD a.toNat 0] then 0 else 10)
  else ([], 6)
def high (o : List Int) (e : Int) : List Int × Int := (o, if e = 0 ∧ 16 < o.length then 12 else e)
def behL (c : Lc) (i : Int × Int) (s : List Int) : List Int × Int :=
  if namesL c i = false then ([], 6) else if i.1 = 20 then sendL c i.2 s
  else if i.1 = 22 ∨ i.1 = 25 ∨ i.1 = 26 then
    if s = [] then ([], 12) else if i.1 = 22 ∧ (actT (s.getLastD 0)).2 = false then ([], 10) else high (if i.1 = 26 then s ++ [s.getLastD 0] else s.dropLast) 0
  else high ((popL s (effL c i).1).1 ++ (effL c i).2) (popL s (effL c i).1).2
def goesL (c : Lc) (x : Lx) (to : Nat) (s : List Int) : Lx × Int :=
  if c.own.code.length ≤ to then (x, 11) else if x.has.getD to false = false then (⟨x.shapes.set to s, x.has.set to true, x.todo.set to true⟩, 0) else if x.shapes.getD to [] = s then (x, 0) else (x, 10)
def recvL (c : Lc) (tmo : Int) (s : List Int) : List (Int × Int) → Lx → Lx × Int
  | [], x => if tmo < 0 then (x, 0) else goesL c x tmo.toNat s
  | cl :: r, x => if (c.own.msgs.length : Int) ≤ cl.1 then (x, 6) else if 16 < s.length + 1 then (x, 12)
    else if (goesL c x cl.2.toNat (s ++ [c.own.msgs.getD cl.1.toNat 0])).2 = 0 then recvL c tmo s r (goesL c x cl.2.toNat (s ++ [c.own.msgs.getD cl.1.toNat 0])).1 else goesL c x cl.2.toNat (s ++ [c.own.msgs.getD cl.1.toNat 0])
def atL (c : Lc) (x : Lx) (p : Nat) : Lx × Int :=
  let i := c.own.code.getD p (0, 0)
  let b := behL c i (x.shapes.getD p [])
  if b.2 ≠ 0 then (x, b.2) else if i.1 = 0 ∨ i.1 = 23 then (x, 0) else if i.1 = 16 then goesL c x i.2.toNat b.1
  else if i.1 = 21 then recvL c (tbl c.own i.2).tmo b.1 (tbl c.own i.2).cls x
  else if i.1 = 17 then (if (goesL c x i.2.toNat b.1).2 = 0 then goesL c (goesL c x i.2.toNat b.1).1 (p + 1) b.1 else goesL c x i.2.toNat b.1)
  else goesL c x (p + 1) b.1
end Go.Proofs.Ytkhoelmbcmkhjaa
