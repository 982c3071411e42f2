/- Abstract Go, 2: states, types, and the operations that only yield a value. -/
import Derived.Test.YtkhoelmbcmkhjaaA1
namespace Go.Proofs.Ytkhoelmbcmkhjaa

def setf (fr : Nat → AVal) (d : Nat) (v : AVal) : Nat → AVal := fun t => if t = d then v else fr t
theorem setf_eq (fr : Nat → AVal) (d : Nat) (v : AVal) : setf fr d v d = v := by simp [setf]
theorem setf_ne {fr : Nat → AVal} {d t : Nat} {v : AVal} (h : t ≠ d) : setf fr d v t = fr t := by simp [setf, h]

structure AState where
  fr : Nat → AVal
  nt : Nat
  η : AHeap
  n : Nat

def AState.put (s : AState) (d : Option Tmp) (v : AVal) : AState :=
  match d with
  | some d => if d < s.nt then { s with fr := setf s.fr d v } else s
  | none => s

def abs1 : Value → AVal
  | .int k n => .int k n
  | .bool b => .bool b
  | .string s => .str s
  | .pointer none => .nilp
  | .slice none 0 0 => .nils
  | .map none => .nilm
  | .nilFunc => .nilf
  | .func (.func f) F C => if F.size = 0 ∧ C.size = 0 then .func f [] [] else .undef
  | _ => .undef
def abs : Value → AVal
  | .agg A => if (A.toList.map abs1).all AVal.sc then .agg (A.toList.map abs1) else .undef
  | v => abs1 v

theorem vr_abs1 (own : Own) (M : Mem) (v : Value) : VR own M (abs1 v) v := by
  unfold abs1
  split <;> first | constructor | skip
  rename_i f F C
  split
  · rename_i h
    exact .func f [] [] F C (by simpa using h.1) (by simpa using h.2) (fun i c h => by simp at h) (fun i c h => by simp at h)
  · exact .undef _
theorem vr_abs (own : Own) (M : Mem) (v : Value) : VR own M (abs v) v := by
  unfold abs
  split
  · rename_i A
    split
    · rename_i h
      refine .agg _ A (by simp) (fun c hc => List.all_eq_true.1 h c hc) fun i c hc => ?_
      rw [List.getElem?_map] at hc
      cases hx : A.toList[i]? with
      | none => rw [hx] at hc; simp at hc
      | some x =>
        rw [hx] at hc; simp at hc
        rw [Array.getElem?_toList] at hx
        subst hc
        have : A.getD i undef = x := by simp [Array.getD_eq_getD_getElem?, hx]
        rw [this]; exact vr_abs1 own M x
    · exact .undef _
  · exact vr_abs1 own M v

def aev (fr : Nat → AVal) : Operand → AVal
  | .tmp t => fr t
  | .const v => abs v
  | .func f => .func f [] []
  | .global _ => .undef

theorem aev_sound {own : Own} {M : Mem} {fr : Nat → AVal} {a : Act} (h : ∀ t, VR own M (fr t) (a.tmps.getD t undef)) (x : Operand) : VR own M (aev fr x) (a.eval x) := by
  cases x with
  | tmp t => exact h t
  | const v => exact vr_abs own M v
  | func f => exact .func f [] [] #[] #[] rfl rfl (fun i c h => by simp at h) (fun i c h => by simp at h)
  | global g => exact .undef _

/-! ### Types -/
section
variable (P : Program)
def isAggD : TypeDesc → Bool
  | .struct _ | .array _ _ => true
  | _ => false
/-- a type's shape: struct or array? and its cells -/
def tsh (t : TypeId) : Option (Bool × Nat) :=
  match P.underlying t, P.info? t with
  | some d, some i => some (isAggD d, i.size)
  | _, _ => none
def tzero (t : TypeId) : Option (List AVal) :=
  match P.info? t with
  | some i => match i.zero with
    | some v => if (v.cells.toList.map abs1).all AVal.sc && decide (v.cells.size = i.size) then some (v.cells.toList.map abs1) else none
    | none => none
  | none => none
def telem (t : TypeId) : Option TypeId :=
  match P.underlying t with
  | some (.slice e) => some e
  | _ => none
def tarr (t : TypeId) : Option (Nat × TypeId) :=
  match P.underlying t with
  | some (.array n e) => some (n, e)
  | _ => none
def tsize (t : TypeId) : Option Nat := (P.info? t).map (·.size)
/-- a field's first cell, its type, its cells -/
def tfld (t : TypeId) (f : Nat) : Option (Nat × TypeId × Nat) :=
  match P.underlying t with
  | some (.struct fs) => match fs[f]? with
    | some x => match tsize P x.type with
      | some n => if n = 0 then none else some (x.offset, x.type, n)
      | none => none
    | none => none
  | _ => none
def tint (t : TypeId) : Option IntKind :=
  match P.underlying t with
  | some (.int k) => some k
  | _ => none
def tbytes (t : TypeId) : Option Nat := (P.info? t).map (·.bytes)

/-! ### Values of operations that leave memory alone -/
def asNatI : AVal → Option Int
  | .int _ n => some n
  | _ => none

/-- n cells from j on, as one value of a type -/
def apart (agg : Bool) (n : Nat) (cs : List AVal) (j : Nat) : Option AVal :=
  if agg then (if j + n ≤ cs.length ∧ ((cs.drop j).take n).all AVal.sc = true then some (.agg ((cs.drop j).take n)) else none)
  else cs[j]?

def aload (t : TypeId) (p : AVal) (η : AHeap) : Option AVal :=
  match tsh P t with
  | none => none
  | some (g, n) =>
    match p with
    | .ro cs j => apart g n cs j
    | .ptr r i j => match η r with
      | some (.cells _ rows) => match rows[i]? with
        | some row => apart g n row j
        | none => none
      | _ => none
    | _ => none

def plainV : AVal → Option Value
  | .int k n => some (.int k n)
  | .bool b => some (.bool b)
  | .str s => some (.string s)
  | _ => none
/-- two plain operands: what the model makes of them -/
def abinP (op : BinOp) (t : TypeId) (x y : Value) : Option AVal :=
  match Go.binOp op t x y with
  | .pure v => some (abs1 v)
  | _ => none
def abin (op : BinOp) (t : TypeId) (x y : AVal) : Option AVal :=
  match plainV x, plainV y with
  | some u, some v => abinP op t u v
  | _, _ => none
def aun (op : UnOp) (x : AVal) : Option AVal :=
  match op, x with
  | .not, .bool b => some (.bool !b)
  | .neg, .int k n => some (.int k (k.wrap (0 - n)))
  | .xor, .int k n => some (.int k (k.wrap (BitVec.ofInt k.bits (if k.signed then -1 else k.max) ^^^ BitVec.ofInt k.bits n).toNat))
  | _, _ => none
def aconv (dst : TypeId) (x : AVal) : Option AVal :=
  match tint P dst, x with
  | some k, .int _ n => some (.int k (k.wrap n))
  | _, _ => none
def afield (s : TypeId) (x : AVal) (f : Nat) : Option AVal :=
  match tfld P s f with
  | none => none
  | some (o, _, _) => match x with
    | .ptr r i j => some (.ptr r i (j + o))
    | .ro cs j => some (.ro cs (j + o))
    | _ => none
def afldv (s : TypeId) (x : AVal) (f : Nat) : Option AVal :=
  match tfld P s f, x with
  | some (o, t, _), .agg cs => match tsh P t with
    | some (g, n) => apart g n cs o
    | none => none
  | _, _ => none
def aindex (t : TypeId) (x ix : AVal) (η : AHeap) : Option AVal :=
  match ix with
  | .int _ i =>
    match telem P t, x with
    | some e, .sl r o n => match η r with
      | some (.cells k _) => if tsize P e = some k ∧ 0 ≤ i ∧ i < n then some (.ptr r (o + i.toNat) 0) else none
      | _ => none
    | some e, .rs k rows => if tsize P e = some k ∧ 0 ≤ i then (match rows[i.toNat]? with | some row => some (.ro row 0) | none => none) else none
    | some e, .arr r ii j n z => if tsize P e = some z ∧ 0 ≤ i ∧ i < n then some (.ptr r ii (j + i.toNat * z)) else none
    | none, x => match tarr P t, x with
      | some (n, e), .ptr r ii j => match tsize P e with
        | some z => if 0 ≤ i ∧ i < n ∧ 2 ≤ n then some (.ptr r ii (j + i.toNat * z)) else none
        | none => none
      | some (n, e), .ro cs j => match tsize P e with
        | some z => if 0 ≤ i ∧ i < n ∧ 2 ≤ n then some (.ro cs (j + i.toNat * z)) else none
        | none => none
      | _, _ => none
    | _, _ => none
  | _ => none
/-- an element of a value: of an array, of a string -/
def aindexv (t : TypeId) (x ix : AVal) : Option AVal :=
  match ix, x with
  | .int _ i, .str s => match P.underlying t with
    | some .string => if 0 ≤ i then (match s[i.toNat]? with | some b => some (.int .u8 b.toNat) | none => none) else none
    | _ => none
  | .int _ i, .agg cs => match tarr P t with
    | some (n, e) => match tsh P e with
      | some (g, z) => if 0 ≤ i ∧ i < n then apart g z cs (i.toNat * z) else none
      | none => none
    | none => none
  | _, _ => none
def aextract (x : AVal) (i : Nat) : Option AVal :=
  match x with
  | .tup vs => vs[i]?
  | _ => none
def alen (x : AVal) : Option Int :=
  match x with
  | .str s => some s.size
  | .sl _ _ n => some n
  | .rs _ rows => some rows.length
  | .nils | .e0 | .nilm => some 0
  | _ => none
/-- the bounds of a reslicing: low, high -/
def abnd (lo hi : Option AVal) (n : Nat) : Option (Nat × Nat) :=
  match (match hi with | none => some (n : Int) | some (.int _ h) => if 0 ≤ h ∧ h ≤ n then some h else none | _ => none) with
  | none => none
  | some h => match (match lo with | none => some (0 : Int) | some (.int _ l) => if 0 ≤ l ∧ l ≤ h then some l else none | _ => none) with
    | none => none
    | some l => some (l.toNat, h.toNat)
def asliceV (t : TypeId) (x : AVal) (lo hi mx : Option AVal) (η : AHeap) : Option AVal :=
  match mx with
  | some _ => none
  | none => match telem P t, x with
    | some e, .rs k rows => if tsize P e = some k then (match abnd lo hi rows.length with | some (l, h) => some (.rs k ((rows.take h).drop l)) | none => none) else none
    | some e, .sl r o n => match η r with
      | some (.cells k _) => if tsize P e = some k then (match abnd lo hi n with | some (l, h) => some (.sl r (o + l) (h - l)) | none => none) else none
      | _ => none
    | some e, .nils => if abnd lo hi 0 = some (0, 0) ∧ (tsize P e).isSome then some .nils else none
    | some e, .e0 => if abnd lo hi 0 = some (0, 0) ∧ (tsize P e).isSome then some .e0 else none
    | some e, .arr r i j n z => if tsize P e = some z then (match abnd lo hi n with | some (l, h) => some (.arr r i (j + l * z) (h - l) z) | none => none) else none
    | none, .ptr r i j => match tarr P t, η r with
      | some (N, e), some (.cells k _) => match tsize P e with
        | some z => if j + N * z ≤ k ∧ N ≤ 9223372036854775807 then (match abnd lo hi N with | some (l, h) => some (.arr r i (j + l * z) (h - l) z) | none => none) else none
        | none => none
      | _, _ => none
    | none, .str s => match P.underlying t with
      | some .string => match abnd lo hi s.size with
        | some (l, h) => some (.str (s.extract l h))
        | none => none
      | _ => none
    | _, _ => none
/-- parts laid into cells: (first cell, cells) -/
def afill (cs : List AVal) : List (Nat × List AVal) → Option (List AVal)
  | [] => some cs
  | (o, ds) :: rest => if o + ds.length ≤ cs.length ∧ ds.all AVal.sc = true then afill (cs.take o ++ ds ++ cs.drop (o + ds.length)) rest else none
def acells : AVal → List AVal
  | .agg cs => cs
  | v => [v]
end
end Go.Proofs.Ytkhoelmbcmkhjaa
