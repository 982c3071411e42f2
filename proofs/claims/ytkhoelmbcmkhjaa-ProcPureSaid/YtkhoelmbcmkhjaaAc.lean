/- Abstract Go, 12: rewriting rules that evaluate a body. What stands behind a 'Tag' is not looked at before it is its turn. -/
import Derived.Test.YtkhoelmbcmkhjaaAb
namespace Go.Proofs.Ytkhoelmbcmkhjaa

/-- whatever a type speaks of, simp leaves alone -/
inductive Tag.{u} {α : Sort u} (x : α) : Type
  | mk

section
variable (P : Program)
/-- a test: both ways -/
def CondP (t : Bool) (X Y : Prop) (_ : Tag X) (_ : Tag Y) : Prop := (t = true → X) ∧ (t = false → Y)
def optK (o : Option AVal) (K : AVal → Prop) (f : Prop) (_ : Tag K) (_ : Tag f) : Prop := match o with
  | some v => K v
  | none => f
def boolK (v : AVal) (X Y : Prop) (_ : Tag X) (_ : Tag Y) : Prop := match v with
  | .bool t => CondP t X Y .mk .mk
  | _ => False
def putK (s : AState) (d : Option Tmp) (v : AVal) (K : AState → Prop) (_ : Tag K) : Prop := K (s.put d v)
def heapK (o : Option AHeap) (K : AHeap → Prop) (_ : Tag K) : Prop := match o with
  | some h => K h
  | none => False
def ACK (f : FuncId) (args : List AVal) (η : AHeap) (n : Nat) (K : AVal → AHeap → Nat → Prop) (_ : Tag K) : Prop := AC P f args η n K
def wpK (c : Code) (s : AState) (Q : Exit → AState → Prop) (_ : Tag c) (_ : Tag Q) : Prop := awp P c Q s
def seqK (ops : Array Oper) (l : List Oper) (s : AState) (K : AState → Prop) (_ : Tag ops) (_ : Tag l) (_ : Tag K) : Prop := aseq P ops l K s
def stepK (o : Oper) (s : AState) (K : AState → Prop) (_ : Tag o) (_ : Tag K) : Prop := astep P o K s
/-- a test that may have been passed over -/
def tstK (v : AVal) (b : Bool) (yes no : Prop) (_ : Tag yes) (_ : Tag no) : Prop := match v with
  | .bool t => CondP t (if b then yes else no) (if b then no else yes) .mk .mk
  | .tup [] => no
  | _ => False
def guardK (v : Option Tmp) (fr : Nat → AVal) (b : Bool) (yes no : Prop) (_ : Tag yes) (_ : Tag no) : Prop := match v with
  | some d => tstK (fr d) b yes no .mk .mk
  | none => False
def loopK (c : Code) (s : AState) (Q : Exit → AState → Prop) (_ : Tag c) (_ : Tag Q) : Prop := LoopP (fun Q' s' => awp P c Q' s') Q s
def drawK (id : Nat) (ops : Array Oper) (s : AState) (Q : Exit → AState → Prop) (_ : Tag ops) (_ : Tag Q) : Prop := DrawP P id ops Q s
def HB (f : FuncId) : Bool := (P.funcs[f]?).any fun fn => fn.body.isSome && !(fn.name == "runtime.NumGoroutine")
def callK (v : AVal) (args : List AVal) (η : AHeap) (n : Nat) (K : AVal → AHeap → Nat → Prop) (_ : Tag K) : Prop := match v with
  | .func fid first caps => HB P fid = true ∧ AC P fid (first ++ args ++ caps) η n K
  | _ => False
def nilcmp (op : BinOp) (t : TypeId) (x y : AVal) (K : AVal → Prop) (_ : Tag K) : Prop :=
  match op with
  | .eql => match P.underlying t, y with
    | some (.slice _), .nils => anil x fun b => K (.bool b)
    | _, _ => False
  | .neq => match P.underlying t, y with
    | some (.slice _), .nils => anil x fun b => K (.bool !b)
    | _, _ => False
  | _ => False
def zeroK (o : Option (List AVal)) (K : List AVal → Prop) (_ : Tag K) : Prop := match o with
  | some h => K h
  | none => False
def boxK (o : Option Nat) (cs : List AVal) (K : List AVal → Nat → Prop) (_ : Tag K) : Prop := match o with
  | some z => (decide (cs.length = z) && (cs.all AVal.sc && decide (0 < z))) = true ∧ K cs z
  | none => False
def rowsK (o : Option (List (List AVal))) (K : List (List AVal) → Prop) (_ : Tag K) : Prop := match o with
  | some h => K h
  | none => False
def appK (t t2 : TypeId) (x y : AVal) (η : AHeap) (n : Nat) (K : AVal → AHeap → Nat → Prop) (_ : Tag K) : Prop := aappend P t t2 x y η n K
def cpyK (t t2 : TypeId) (x y : AVal) (η : AHeap) (n : Nat) (K : AVal → AHeap → Nat → Prop) (_ : Tag K) : Prop := acopy P t t2 x y η n K
def makeK (l c : AVal) (t : TypeId) (η : AHeap) (n : Nat) (K : AVal → AHeap → Nat → Prop) (_ : Tag K) : Prop := match telem P t, l, c with
    | some e, .int _ l, .int _ c => match tzero P e, tbytes P e with
      | some zs, some b => 0 < zs.length ∧ 0 ≤ l ∧ l ≤ c ∧ b * c ≤ 281474976710656 ∧ c ≤ 9223372036854775807 ∧ K (.sl n 0 l.toNat) (upd η n (some (.cells zs.length (List.replicate l.toNat zs)))) (n + 1)
      | _, _ => False
    | _, _, _ => False
def resK (o : Option AVal) (s : AState) (K : AVal → AHeap → Nat → Prop) (_ : Tag K) : Prop := match o with
  | some v => ∃ η' n', η'.le s.η ∧ s.n ≤ n' ∧ K v η' n'
  | none => False
end

section
variable {P : Program}
@[simp] theorem CondP_true (X Y : Prop) (g : Tag X) (g' : Tag Y) : CondP true X Y g g' = X := by simp [CondP]
@[simp] theorem CondP_false (X Y : Prop) (g : Tag X) (g' : Tag Y) : CondP false X Y g g' = Y := by simp [CondP]
theorem CondP.intro {t : Bool} {X Y : Prop} {g : Tag X} {g' : Tag Y} (h1 : t = true → X) (h2 : t = false → Y) : CondP t X Y g g' := ⟨h1, h2⟩
theorem CondP.dec {p : Prop} [Decidable p] {X Y : Prop} {g : Tag X} {g' : Tag Y} (h1 : p → X) (h2 : ¬p → Y) : CondP (decide p) X Y g g' := ⟨fun h => h1 (by simpa using h), fun h => h2 (by simpa using h)⟩
theorem CondP.ndec {p : Prop} [Decidable p] {X Y : Prop} {g : Tag X} {g' : Tag Y} (h1 : p → Y) (h2 : ¬p → X) : CondP (!decide p) X Y g g' := ⟨fun h => h2 (by simpa using h), fun h => h1 (by simpa using h)⟩
@[simp] theorem optK_some (v : AVal) (K : AVal → Prop) (f : Prop) (g : Tag K) (g' : Tag f) : optK (some v) K f g g' = K v := _root_.id rfl
@[simp] theorem optK_none (K : AVal → Prop) (f : Prop) (g : Tag K) (g' : Tag f) : optK none K f g g' = f := _root_.id rfl
@[simp] theorem boolK_bool (t : Bool) (X Y : Prop) (g : Tag X) (g' : Tag Y) : boolK (.bool t) X Y g g' = CondP t X Y g g' := _root_.id rfl
@[simp] theorem putK_some (fr : Nat → AVal) (nt : Nat) (η : AHeap) (n : Nat) (d : Tmp) (v : AVal) (K : AState → Prop) (g : Tag K) (h : d < nt) : putK ⟨fr, nt, η, n⟩ (some d) v K g = K ⟨setf fr d v, nt, η, n⟩ := by
  unfold putK AState.put; simp only; rw [if_pos h]
@[simp] theorem putK_none (s : AState) (v : AVal) (K : AState → Prop) (g : Tag K) : putK s none v K g = K s := _root_.id rfl
@[simp] theorem heapK_some (h : AHeap) (K : AHeap → Prop) (g : Tag K) : heapK (some h) K g = K h := _root_.id rfl
@[simp] theorem callK_func (f : FuncId) (a b args : List AVal) (η : AHeap) (n : Nat) (K : AVal → AHeap → Nat → Prop) (g : Tag K) (h : HB P f = true) : callK P (.func f a b) args η n K g = ACK P f (a ++ args ++ b) η n K g := by
  unfold callK ACK; simp [h]
@[simp] theorem zeroK_some (h : List AVal) (K : List AVal → Prop) (g : Tag K) : zeroK (some h) K g = K h := _root_.id rfl
@[simp] theorem boxK_some (z : Nat) (cs : List AVal) (K : List AVal → Nat → Prop) (g : Tag K) (h : (decide (cs.length = z) && (cs.all AVal.sc && decide (0 < z))) = true) : boxK (some z) cs K g = K cs z := by unfold boxK; simp only [h, true_and]
@[simp] theorem rowsK_some (h : List (List AVal)) (K : List (List AVal) → Prop) (g : Tag K) : rowsK (some h) K g = K h := _root_.id rfl
theorem ACK.use {f : FuncId} {args : List AVal} {η : AHeap} {n : Nat} {K K' : AVal → AHeap → Nat → Prop} {g : Tag K} (h : AC P f args η n K') (hk : ∀ v η' n', K' v η' n' → K v η' n') : ACK P f args η n K g := h.mono hk
theorem resK.same {v : AVal} {fr : Nat → AVal} {nt : Nat} {η : AHeap} {n n' : Nat} {K : AVal → AHeap → Nat → Prop} {g : Tag K} (h : K v η n') (hn : n ≤ n') : resK (some v) ⟨fr, nt, η, n⟩ K g := ⟨η, n', fun _ _ h => h, hn, h⟩
theorem resK.of {v : AVal} {fr : Nat → AVal} {nt : Nat} {η η' : AHeap} {n : Nat} {K : AVal → AHeap → Nat → Prop} {g : Tag K} (hη : η'.le η) (n' : Nat) (hn : n ≤ n') (h : K v η' n') : resK (some v) ⟨fr, nt, η, n⟩ K g := ⟨η', n', hη, hn, h⟩
theorem AHeap.le_rfl (η : AHeap) : η.le η := fun _ _ h => h
theorem le_upd {η η' : AHeap} {n : Nat} {o : Option AObj} (h : η'.le η) (hn : η' n = none) : η'.le (upd η n o) := fun r o' hr => by
  by_cases e : r = n
  · subst e; rw [hn] at hr; cases hr
  · rw [upd_ne e]; exact h r o' hr

@[simp ↓] theorem thenP_normal (K : AState → Prop) (Q : Exit → AState → Prop) (s : AState) : thenP K Q .normal s = K s := _root_.id rfl
@[simp ↓] theorem thenP_ret (K : AState → Prop) (Q : Exit → AState → Prop) (s : AState) : thenP K Q .ret s = Q .ret s := _root_.id rfl
@[simp ↓] theorem thenP_exit (K : AState → Prop) (Q : Exit → AState → Prop) (i : Nat) (s : AState) : thenP K Q (.exit i) s = Q (.exit i) s := _root_.id rfl
@[simp ↓] theorem inBlockP_normal (i : Nat) (Q : Exit → AState → Prop) (s : AState) : inBlockP i Q .normal s = Q .normal s := _root_.id rfl
@[simp ↓] theorem inBlockP_ret (i : Nat) (Q : Exit → AState → Prop) (s : AState) : inBlockP i Q .ret s = Q .ret s := _root_.id rfl
@[simp ↓] theorem inBlockP_exit (i j : Nat) (Q : Exit → AState → Prop) (s : AState) : inBlockP i Q (.exit j) s = if j = i then Q .normal s else Q (.exit j) s := _root_.id rfl
@[simp ↓] theorem bodyQ_ret (fn : Func) (K : AVal → AHeap → Nat → Prop) (s : AState) : bodyQ P fn K .ret s = resK (ares P fn s) s K .mk := _root_.id rfl
@[simp ↓] theorem bodyQ_normal (fn : Func) (K : AVal → AHeap → Nat → Prop) (s : AState) : bodyQ P fn K .normal s = resK (ares P fn s) s K .mk := _root_.id rfl

variable (Q : Exit → AState → Prop) (s : AState) (gQ : Tag Q)
@[simp] theorem awp_skip (g : Tag Code.skip) : wpK P .skip s Q g gQ = Q .normal s := _root_.id rfl
@[simp] theorem awp_region (id : Nat) (ops : List Oper) (g : Tag (Code.region id ops.toArray false)) : wpK P (.region id ops.toArray false) s Q g gQ = seqK P ops.toArray ops s (Q .normal) .mk .mk .mk := _root_.id rfl
@[simp] theorem awp_draw (id : Nat) (ops : Array Oper) (g : Tag (Code.region id ops true)) : wpK P (.region id ops true) s Q g gQ = drawK P id ops s Q .mk .mk := _root_.id rfl
@[simp] theorem awp_seq (x y : Code) (g : Tag (Code.seq x y)) : wpK P (.seq x y) s Q g gQ = wpK P x s (thenP (fun s' => wpK P y s' Q .mk .mk) Q) .mk .mk := _root_.id rfl
@[simp] theorem awp_cond (c : Operand) (x y : Code) (g : Tag (Code.cond c x y)) : wpK P (.cond c x y) s Q g gQ = boolK (aev s.fr c) (wpK P x s Q .mk .mk) (wpK P y s Q .mk .mk) .mk .mk := by
  unfold wpK
  simp only [awp]; unfold boolK; split <;> simp_all [CondP]
@[simp] theorem awp_block (id : Nat) (c : Code) (g : Tag (Code.block id c)) : wpK P (.block id c) s Q g gQ = wpK P c s (inBlockP id Q) .mk .mk := _root_.id rfl
@[simp] theorem awp_loop (c : Code) (g : Tag (Code.loop c)) : wpK P (.loop c) s Q g gQ = loopK P c s Q .mk .mk := _root_.id rfl
@[simp] theorem awp_exit (id : Nat) (g : Tag (Code.exit id)) : wpK P (.exit id) s Q g gQ = Q (.exit id) s := _root_.id rfl
@[simp] theorem awp_ret (g : Tag Code.ret) : wpK P .ret s Q g gQ = Q .ret s := _root_.id rfl

variable (K : AState → Prop) (gK : Tag K) (ops : Array Oper) (gops : Tag ops)
@[simp] theorem aseq_nil (g : Tag ([] : List Oper)) : seqK P ops [] s K gops g gK = K s := _root_.id rfl
@[simp] theorem aseq_none (d : Option Tmp) (op : Op) (t : TypeId) (p : String) (a : Array Edge) (l : List Oper) (g : Tag (⟨d, op, t, p, a, none⟩ :: l)) : seqK P ops (⟨d, op, t, p, a, none⟩ :: l) s K gops g gK =
    stepK P ⟨d, op, t, p, a, none⟩ s (fun s' => seqK P ops l s' K .mk .mk .mk) .mk .mk := _root_.id rfl
def dstOf (ops : Array Oper) (j : Nat) (_ : Tag ops) : Option Tmp := (ops[j]?).bind (·.dst)
@[simp] theorem dstOf_zero (o : Oper) (l : List Oper) (g : Tag (o :: l).toArray) : dstOf (o :: l).toArray 0 g = o.dst := by simp [dstOf]
theorem dstOf_succ (o : Oper) (l : List Oper) (j : Nat) (g : Tag (o :: l).toArray) : dstOf (o :: l).toArray (j + 1) g = dstOf l.toArray j .mk := by simp [dstOf]
@[simp] theorem dstOf_lit (o : Oper) (l : List Oper) (j : Nat) [h : NeZero j] (g : Tag (o :: l).toArray) : dstOf (o :: l).toArray j g = dstOf l.toArray (j - 1) .mk := by
  obtain ⟨j, rfl⟩ : ∃ k, j = k + 1 := ⟨j - 1, by have := h.out; omega⟩
  simp [dstOf]
@[simp] theorem aseq_some (d : Option Tmp) (op : Op) (t : TypeId) (p : String) (a : Array Edge) (j : Nat) (b : Bool) (l : List Oper) (g : Tag (⟨d, op, t, p, a, some (j, b)⟩ :: l)) : seqK P ops (⟨d, op, t, p, a, some (j, b)⟩ :: l) s K gops g gK =
    guardK (dstOf ops j .mk) s.fr b (stepK P ⟨d, op, t, p, a, some (j, b)⟩ s (fun s' => seqK P ops l s' K .mk .mk .mk) .mk .mk) (putK s d (.tup []) (fun s' => seqK P ops l s' K .mk .mk .mk) .mk) .mk .mk := by
  unfold seqK guardK dstOf
  simp only [aseq]
  unfold aguard
  simp only
  cases (ops[j]?).bind (·.dst) with
  | none => rfl
  | some d =>
    simp only
    unfold tstK
    cases s.fr d with
    | bool t => cases b <;> cases t <;> simp [stepK, putK, CondP]
    | tup l => cases l <;> rfl
    | _ => rfl
@[simp] theorem guardK_some (d : Tmp) (fr : Nat → AVal) (b : Bool) (yes no : Prop) (g : Tag yes) (g' : Tag no) : guardK (some d) fr b yes no g g' = tstK (fr d) b yes no g g' := _root_.id rfl
@[simp] theorem tstK_true (t : Bool) (yes no : Prop) (g : Tag yes) (g' : Tag no) : tstK (.bool t) true yes no g g' = CondP t yes no g g' := _root_.id rfl
@[simp] theorem tstK_false (t : Bool) (yes no : Prop) (g : Tag yes) (g' : Tag no) : tstK (.bool t) false yes no g g' = CondP t no yes g' g := _root_.id rfl
@[simp] theorem tstK_skip (b : Bool) (yes no : Prop) (g : Tag yes) (g' : Tag no) : tstK (.tup []) b yes no g g' = no := _root_.id rfl

@[simp] theorem setf_apply (fr : Nat → AVal) (d t : Nat) (v : AVal) : setf fr d v t = if t = d then v else fr t := rfl
def argsF : Nat → List AVal → Nat → AVal
  | _, [] => fun _ => .undef
  | k, a :: l => setf (argsF (k + 1) l) k a
theorem args0_eq (l : List AVal) : args0 l = argsF 0 l := by
  have : ∀ (l : List AVal) (k t : Nat), argsF k l (k + t) = l.getD t .undef := by
    intro l
    induction l with
    | nil => intro k t; simp [argsF]
    | cons a l ih =>
      intro k t
      cases t with
      | zero => simp [argsF, setf]
      | succ t =>
        have h := ih (k + 1) t
        have e : k + (t + 1) = k + 1 + t := by omega
        simp only [argsF, setf]
        rw [if_neg (by omega), e, h]; simp
  funext t
  have h := this l 0 t
  rw [Nat.zero_add] at h
  exact h.symm
@[simp] theorem argsF_nil (k t : Nat) : argsF k [] t = .undef := rfl
@[simp] theorem argsF_cons (k : Nat) (a : AVal) (l : List AVal) : argsF k (a :: l) = setf (argsF (k + 1) l) k a := rfl
@[simp] theorem aev_tmp (fr : Nat → AVal) (t : Tmp) : aev fr (.tmp t) = fr t := rfl
@[simp] theorem aev_const (fr : Nat → AVal) (v : Value) : aev fr (.const v) = abs v := rfl
@[simp] theorem aev_func (fr : Nat → AVal) (f : FuncId) : aev fr (.func f) = .func f [] [] := rfl
@[simp] theorem abs_int (k : IntKind) (n : Int) : abs (.int k n) = .int k n := rfl
@[simp] theorem abs_bool (b : Bool) : abs (.bool b) = .bool b := rfl
@[simp] theorem abs_str (b : ByteArray) : abs (.string b) = .str b := rfl
@[simp] theorem abs_nilp : abs (.pointer none) = .nilp := rfl
@[simp] theorem abs_nils : abs (.slice none 0 0) = .nils := rfl
@[simp] theorem abs_nilm : abs (.map none) = .nilm := rfl
@[simp] theorem abs_nilf : abs .nilFunc = .nilf := rfl
/-- Into a body. -/
theorem AC.enter {f : FuncId} {fn : Func} {c : Code} {args : List AVal} {η : AHeap} {n m : Nat} {K : AVal → AHeap → Nat → Prop} (hf : P.funcs[f]? = some fn) (hb : fn.body = some c) (hm : fn.ntmps = m) (hn : args.length ≤ m)
    (h : wpK P c ⟨argsF 0 args, m, η, n⟩ (bodyQ P fn K) .mk .mk) : AC P f args η n K := by
  subst hm
  rw [← args0_eq] at h
  exact AC.of_body hf hb hn h
end
end Go.Proofs.Ytkhoelmbcmkhjaa
