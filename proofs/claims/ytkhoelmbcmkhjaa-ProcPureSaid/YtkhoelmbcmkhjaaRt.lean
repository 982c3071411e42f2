/- The laws' arguments: lists of messages, modules, states. -/
import Derived.Test.YtkhoelmbcmkhjaaBr
import Derived.Test.YtkhoelmbcmkhjaaP0
import Derived.Test.YtkhoelmbcmkhjaaTy
namespace Go.Proofs.Ytkhoelmbcmkhjaa
set_option maxRecDepth 100000
def Msgs64 (l : List (Int × Int)) : Prop := l.length ≤ 17592186044416 ∧ ∀ x ∈ l, I64 x.1 ∧ I64 x.2
theorem lies_pair {w : World} {t t1 t2 : TypeId} {fs : Array Field} {f1 f2 : Field} (ht : Try.prog.underlying t = some (.struct fs)) (hz : Try.prog.cellsOf t = 2) (hf : fs.toList = [f1, f2]) (o1 : f1.offset = 0) (o2 : f2.offset = 1) (e1 : f1.type = t1) (e2 : f2.type = t2)
    (u1 : Try.prog.underlying t1 = some (.int .i64)) (u2 : Try.prog.underlying t2 = some (.int .i64)) (c1 : Try.prog.cellsOf t1 = 1) (c2 : Try.prog.cellsOf t2 = 1) : Lies Try.prog w t (fun x : Int × Int => [.int .i64 x.1, .int .i64 x.2]) (fun x => I64 x.1 ∧ I64 x.2) := by
  subst e1 e2
  refine lies_struct ht hz ?_
  rw [hf]
  exact liesF_cons o1 c1 (lies_i64 u1) (liesF_one o2 c2 (lies_i64 u2))
theorem lies_msg {w : World} : Lies Try.prog w 34 (fun x : Int × Int => [.int .i64 x.1, .int .i64 x.2]) (fun x => I64 x.1 ∧ I64 x.2) := lies_pair Try.underlying34 (by kernel_rfl) rfl rfl rfl rfl rfl Try.underlying3 Try.underlying2 (by kernel_rfl) (by kernel_rfl)
theorem lies_instr {w : World} : Lies Try.prog w 50 (fun x : Int × Int => [.int .i64 x.1, .int .i64 x.2]) (fun x => I64 x.1 ∧ I64 x.2) := lies_pair Try.underlying50 (by kernel_rfl) rfl rfl rfl rfl rfl Try.underlying3 Try.underlying2 (by kernel_rfl) (by kernel_rfl)
theorem lies_clause {w : World} : Lies Try.prog w 62 (fun x : Int × Int => [.int .i64 x.1, .int .i64 x.2]) (fun x => I64 x.1 ∧ I64 x.2) := lies_pair Try.underlying62 (by kernel_rfl) rfl rfl rfl rfl rfl Try.underlying3 Try.underlying3 (by kernel_rfl) (by kernel_rfl)
theorem by8 {t : TypeId} (h : Try.prog.bytesOf t = 8) : 8 ≤ Try.prog.bytesOf t := by omega
theorem lies_msgs {w : World} : Lies Try.prog w 28 (fun l : List (Int × Int) => [.rs 2 (pairs l)]) Msgs64 := lies_slice Try.underlying28 (by kernel_rfl) (by decide) (of_decide_eq_true (by kernel_rfl)) lies_msg
theorem bytes_msg : Try.prog.bytesOf 34 = 16 := by kernel_rfl
theorem lies_msgs2 {w : World} : Lies Try.prog w 28 (fun l : List (Int × Int) => [.rs 2 (pairs l)]) (fun l => l.length * 16 ≤ 140737488351232 ∧ Msgs64 l) := by
  have h : Lies Try.prog w 28 (fun l : List (Int × Int) => [.rs 2 (pairs l)]) (fun l => l.length * Try.prog.bytesOf 34 ≤ 140737488351232 ∧ Msgs64 l) := lies_sliceB Try.underlying28 (by kernel_rfl) (by decide) (of_decide_eq_true (by kernel_rfl)) lies_msg
  rw [bytes_msg] at h
  exact h
theorem lies_code {w : World} : Lies Try.prog w 51 (fun l : List (Int × Int) => [.rs 2 (pairs l)]) Msgs64 := lies_slice Try.underlying51 (by kernel_rfl) (by decide) (of_decide_eq_true (by kernel_rfl)) lies_instr
theorem lies_clauses {w : World} : Lies Try.prog w 63 (fun l : List (Int × Int) => [.rs 2 (pairs l)]) Msgs64 := lies_slice Try.underlying63 (by kernel_rfl) (by decide) (of_decide_eq_true (by kernel_rfl)) lies_clause
def Ints64 (l : List Int) : Prop := l.length ≤ 17592186044416 ∧ ∀ x ∈ l, I64 x
theorem lies_longs {w : World} : Lies Try.prog w 25 (fun l : List Int => [.rs 1 (ints l)]) Ints64 := lies_slice Try.underlying25 (by kernel_rfl) (by decide) (of_decide_eq_true (by kernel_rfl)) (lies_i64 Try.underlying2)
theorem lies_types {w : World} : Lies Try.prog w 52 (fun l : List Int => [.rs 1 (ints l)]) Ints64 := lies_slice Try.underlying52 (by kernel_rfl) (by decide) (of_decide_eq_true (by kernel_rfl)) (lies_i64 Try.underlying76)
def Tbl64 (t : Tbl) : Prop := Msgs64 t.cls ∧ I64 t.tmo
theorem lies_tbl {w : World} : Lies Try.prog w 65 tblC Tbl64 := by
  refine Lies.map (lies_struct Try.underlying65 (size := 2) (by kernel_rfl) (liesF_cons (z := 1) rfl (by kernel_rfl) lies_clauses (liesF_one (z := 1) rfl (by kernel_rfl) (lies_i64 Try.underlying3)))) (fun p => (⟨p.1, p.2⟩ : Tbl)) tblC Tbl64 ?_
  intro p h
  exact ⟨rfl, h⟩
instance : Inhabited Tbl := ⟨⟨[], 0⟩⟩
instance : Inhabited Actr := ⟨⟨[], [], [], [], []⟩⟩
def Tbls64 (l : List Tbl) : Prop := l.length ≤ 17592186044416 ∧ ∀ x ∈ l, Tbl64 x
theorem lies_tbls {w : World} : Lies Try.prog w 53 (fun l : List Tbl => [.rs 2 (tblsC l)]) Tbls64 := lies_slice Try.underlying53 (by kernel_rfl) (by decide) (of_decide_eq_true (by kernel_rfl)) lies_tbl
structure Act64 (a : Actr) : Prop where
  params : Ints64 a.params
  regs : Ints64 a.regs
  msgs : Ints64 a.msgs
  code : Msgs64 a.code
  tabs : Tbls64 a.tabs
theorem lies_act {w : World} : Lies Try.prog w 55 actC Act64 := by
  refine Lies.map (lies_struct Try.underlying55 (size := 5) (by kernel_rfl) (liesF_cons (z := 1) rfl (by kernel_rfl) lies_types (liesF_cons (z := 1) rfl (by kernel_rfl) lies_types (liesF_cons (z := 1) rfl (by kernel_rfl) lies_types (liesF_cons (z := 1) rfl (by kernel_rfl) lies_code (liesF_one (z := 1) rfl (by kernel_rfl) lies_tbls)))))) (fun p => (⟨p.1, p.2.1, p.2.2.1, p.2.2.2.1, p.2.2.2.2⟩ : Actr)) actC Act64 ?_
  intro p h
  exact ⟨rfl, ⟨h.1, h.2.1, h.2.2.1, h.2.2.2.1, h.2.2.2.2⟩⟩
def Mod64 (m : List Actr) : Prop := m.length ≤ 17592186044416 ∧ ∀ x ∈ m, Act64 x
theorem lies_mod {w : World} : Lies Try.prog w 24 (fun m : List Actr => [.rs 5 (actsC m)]) Mod64 := by
  refine lies_struct Try.underlying24 (size := 1) (by kernel_rfl) (liesF_one (z := 1) rfl (by kernel_rfl) (lies_slice Try.underlying22 (by kernel_rfl) (by decide) (of_decide_eq_true (by kernel_rfl)) lies_act))
structure Sta64 (s : Sta) : Prop where
  actor : I64 s.actor
  pc : I64 s.pc
  stack : Ints64 s.stack
  regs : Ints64 s.regs
  till : I64 s.till
theorem lies_sta {w : World} : Lies Try.prog w 27 (fun s : Sta => stC s (.rs 1 (ints s.stack)) (.rs 1 (ints s.regs))) Sta64 := by
  refine Lies.map (lies_struct Try.underlying27 (size := 6) (by kernel_rfl) (liesF_cons (z := 1) rfl (by kernel_rfl) (lies_i64 Try.underlying3) (liesF_cons (z := 1) rfl (by kernel_rfl) (lies_i64 Try.underlying3) (liesF_cons (z := 1) rfl (by kernel_rfl) lies_longs (liesF_cons (z := 1) rfl (by kernel_rfl) lies_longs (liesF_cons (z := 1) rfl (by kernel_rfl) (lies_bool Try.underlying4) (liesF_one (z := 1) rfl (by kernel_rfl) (lies_i64 Try.underlying2)))))))) (fun p => (⟨p.1, p.2.1, p.2.2.1, p.2.2.2.1, p.2.2.2.2.1, p.2.2.2.2.2⟩ : Sta)) (fun s => stC s (.rs 1 (ints s.stack)) (.rs 1 (ints s.regs))) Sta64 ?_
  intro p h
  exact ⟨rfl, ⟨h.1, h.2.1, h.2.2.1, h.2.2.2.1, h.2.2.2.2.2⟩⟩
end Go.Proofs.Ytkhoelmbcmkhjaa
