/- How the program's data stand as abstract values. No program in sight. -/
import Derived.Test.YtkhoelmbcmkhjaaAh
namespace Go.Proofs.Ytkhoelmbcmkhjaa

def ints (l : List Int) : List (List AVal) := l.map fun x => [.int .i64 x]
def pairs (l : List (Int × Int)) : List (List AVal) := l.map fun x => [.int .i64 x.1, .int .i64 x.2]
@[simp] theorem ints_length (l : List Int) : (ints l).length = l.length := by simp [ints]
@[simp] theorem pairs_length (l : List (Int × Int)) : (pairs l).length = l.length := by simp [pairs]
theorem ints_get (l : List Int) (i : Nat) : (ints l)[i]? = (l[i]?).map fun x => [.int .i64 x] := by simp [ints]
theorem pairs_get (l : List (Int × Int)) (i : Nat) : (pairs l)[i]? = (l[i]?).map fun x => [.int .i64 x.1, .int .i64 x.2] := by simp [pairs]

structure Tbl where
  cls : List (Int × Int)
  tmo : Int
structure Actr where
  params : List Int
  regs : List Int
  msgs : List Int
  code : List (Int × Int)
  tabs : List Tbl
structure Sta where
  actor : Int
  pc : Int
  stack : List Int
  regs : List Int
  waiting : Bool
  till : Int
structure Eff where
  kind : Int
  dest : Int
  msg : Int × Int
  actor : Int
  args : List Int
  n : Int
  reason : Int × Int
  taken : Int

def tblC (t : Tbl) : List AVal := [.rs 2 (pairs t.cls), .int .i64 t.tmo]
def tblsC (l : List Tbl) : List (List AVal) := l.map tblC
def actC (a : Actr) : List AVal := [.rs 1 (ints a.params), .rs 1 (ints a.regs), .rs 1 (ints a.msgs), .rs 2 (pairs a.code), .rs 2 (tblsC a.tabs)]
def actsC (m : List Actr) : List (List AVal) := m.map actC
def modV (m : List Actr) : AVal := .agg [.rs 5 (actsC m)]
@[simp] theorem tblsC_length (l : List Tbl) : (tblsC l).length = l.length := by simp [tblsC]
@[simp] theorem actsC_length (m : List Actr) : (actsC m).length = m.length := by simp [actsC]
theorem tblsC_get (l : List Tbl) (i : Nat) : (tblsC l)[i]? = (l[i]?).map tblC := by simp [tblsC]
theorem actsC_get (m : List Actr) (i : Nat) : (actsC m)[i]? = (m[i]?).map actC := by simp [actsC]

/-- a state's cells, its lists wherever they lie -/
def stC (s : Sta) (vs vr : AVal) : List AVal := [.int .i64 s.actor, .int .i64 s.pc, vs, vr, .bool s.waiting, .int .i64 s.till]
def effC (e : Eff) (va : AVal) : List AVal := [.int .i64 e.kind, .int .i64 e.dest, .int .i64 e.msg.1, .int .i64 e.msg.2, .int .i64 e.actor, va, .int .i64 e.n, .int .i64 e.reason.1, .int .i64 e.reason.2, .int .i64 e.taken]
@[simp] theorem ints_at (l : List Int) (i : Nat) (h : i < (ints l).length) : (ints l)[i] = [.int .i64 (l[i]'(by simpa using h))] := by simp [ints]
@[simp] theorem pairs_at (l : List (Int × Int)) (i : Nat) (h : i < (pairs l).length) : (pairs l)[i] = [.int .i64 (l[i]'(by simpa using h)).1, .int .i64 (l[i]'(by simpa using h)).2] := by simp [pairs]
@[simp] theorem tblsC_at (l : List Tbl) (i : Nat) (h : i < (tblsC l).length) : (tblsC l)[i] = tblC (l[i]'(by simpa using h)) := by simp [tblsC]
@[simp] theorem actsC_at (l : List Actr) (i : Nat) (h : i < (actsC l).length) : (actsC l)[i] = actC (l[i]'(by simpa using h)) := by simp [actsC]
end Go.Proofs.Ytkhoelmbcmkhjaa
