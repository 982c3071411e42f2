/- Abstract Go, 13: the rules of the operations. Abstract Go, 14: a region that draws its order: one order, and what it takes for all others to come to the same. Abstract Go, 15: whatever order is drawn. Abstract Go, 16: rules for a region that draws its order; loops. Abstract Go, 17: what a call has left behind and nobody knows is nothing. Abstract Go, 18: a nil slice as a row of one's own. Abstract Go, 19: rows that nobody writes any more are seen as read only; values seen as less. Abstract Go: ranges over functions whose body goes on: the rule; an iterator's contract. Abstract Go: a call sees only what it needs: the rest stays as it was. How the program's data stand as abstract values. No program in sight. -/
import Derived.Test.YtbomkomipaipmaaGreatVb
namespace Go.Proofs.YtbomkomipaipmaaGreat

section
variable (P : Program)
theorem binA_int (op : BinOp) (t : TypeId) (k k' : IntKind) (a b : Int) : abinA P op t (.int k a) (.int k' b) = abinP op t (.int k a) (.int k' b) := by cases op <;> rfl
@[simp] theorem bin_add (t : TypeId) (k : IntKind) (a b : Int) : abinA P .add t (.int k a) (.int k b) = some (.int k (k.wrap (a + b))) := by rw [binA_int]; simp [abinP, Go.binOp, Op.intArith]; rfl
@[simp] theorem bin_sub (t : TypeId) (k : IntKind) (a b : Int) : abinA P .sub t (.int k a) (.int k b) = some (.int k (k.wrap (a - b))) := by rw [binA_int]; simp [abinP, Go.binOp, Op.intArith]; rfl
@[simp] theorem bin_mul (t : TypeId) (k : IntKind) (a b : Int) : abinA P .mul t (.int k a) (.int k b) = some (.int k (k.wrap (a * b))) := by rw [binA_int]; simp [abinP, Go.binOp, Op.intArith]; rfl
@[simp] theorem bin_eql (t : TypeId) (k : IntKind) (a b : Int) : abinA P .eql t (.int k a) (.int k b) = some (.bool (decide (a = b))) := by rw [binA_int]; simp [abinP, Go.binOp, Op.intCmp]; rfl
@[simp] theorem bin_neq (t : TypeId) (k : IntKind) (a b : Int) : abinA P .neq t (.int k a) (.int k b) = some (.bool (!decide (a = b))) := by rw [binA_int]; simp [abinP, Go.binOp, Op.intCmp]; rfl
@[simp] theorem bin_lss (t : TypeId) (k : IntKind) (a b : Int) : abinA P .lss t (.int k a) (.int k b) = some (.bool (decide (a < b))) := by rw [binA_int]; simp [abinP, Go.binOp, Op.intCmp]; rfl
@[simp] theorem bin_leq (t : TypeId) (k : IntKind) (a b : Int) : abinA P .leq t (.int k a) (.int k b) = some (.bool (decide (a ≤ b))) := by rw [binA_int]; simp [abinP, Go.binOp, Op.intCmp]; rfl
@[simp] theorem bin_gtr (t : TypeId) (k : IntKind) (a b : Int) : abinA P .gtr t (.int k a) (.int k b) = some (.bool (decide (b < a))) := by rw [binA_int]; simp [abinP, Go.binOp, Op.intCmp]; rfl
@[simp] theorem bin_geq (t : TypeId) (k : IntKind) (a b : Int) : abinA P .geq t (.int k a) (.int k b) = some (.bool (decide (b ≤ a))) := by rw [binA_int]; simp [abinP, Go.binOp, Op.intCmp]; rfl
@[simp] theorem bin_quo (t : TypeId) (k : IntKind) (a b : Int) (h : b ≠ 0) : abinA P .quo t (.int k a) (.int k b) = some (.int k (k.wrap (a.tdiv b))) := by rw [binA_int]; simp [abinP, Go.binOp, Op.intDiv, h]; rfl
@[simp] theorem bin_rem (t : TypeId) (k : IntKind) (a b : Int) (h : b ≠ 0) : abinA P .rem t (.int k a) (.int k b) = some (.int k (a.tmod b)) := by rw [binA_int]; simp [abinP, Go.binOp, Op.intDiv, h]; rfl
@[simp] theorem bin_str (op : BinOp) (t : TypeId) (a b : ByteArray) : abinA P op t (.str a) (.str b) = abinP op t (.string a) (.string b) := by cases op <;> rfl
@[simp] theorem bin_eqlB (t : TypeId) (a b : Bool) : abinA P .eql t (.bool a) (.bool b) = (aeqB P t (.bool a) (.bool b)).map .bool := rfl
@[simp] theorem bin_neqB (t : TypeId) (a b : Bool) : abinA P .neq t (.bool a) (.bool b) = (aeqB P t (.bool a) (.bool b)).map fun b => .bool !b := rfl
@[simp] theorem bin_agg (t : TypeId) (a b : List AVal) : abinA P .eql t (.agg a) (.agg b) = (aeqS P t a b).map .bool := rfl
@[simp] theorem bin_aggN (t : TypeId) (a b : List AVal) : abinA P .neq t (.agg a) (.agg b) = (aeqS P t a b).map fun b => .bool !b := rfl
theorem aeqS_of {t : TypeId} {cs ds : List AVal} {b : Bool} (hp : (cs.all isPlain && ds.all isPlain) = true) (h : SEq P t cs ds b) (hA : ∃ A, ∀ own M, VR own M (.agg cs) (.agg A)) (hB : ∃ B, ∀ own M, VR own M (.agg ds) (.agg B)) : aeqS P t cs ds = some b := by
  unfold aeqS
  have hx : (cs.all isPlain && ds.all isPlain) = true ∧ ∃ b, SEq P t cs ds b := ⟨hp, b, h⟩
  rw [dif_pos hx]
  obtain ⟨A, hA⟩ := hA
  obtain ⟨B, hB⟩ := hB
  rw [SEq.unique (Classical.choose_spec hx.2) h hA hB]
@[simp] theorem aun_not (b : Bool) : aun .not (.bool b) = some (.bool !b) := rfl
@[simp] theorem aun_neg (k : IntKind) (n : Int) : aun .neg (.int k n) = some (.int k (k.wrap (0 - n))) := rfl
def bitF (op : BinOp) (k : IntKind) (a b : Int) : Int := match op with
  | .and => k.wrap (BitVec.ofInt k.bits a &&& BitVec.ofInt k.bits b).toNat
  | .or => k.wrap (BitVec.ofInt k.bits a ||| BitVec.ofInt k.bits b).toNat
  | .xor => k.wrap (BitVec.ofInt k.bits a ^^^ BitVec.ofInt k.bits b).toNat
  | _ => 0
@[simp] theorem aun_xor (k : IntKind) (n : Int) : aun .xor (.int k n) = some (.int k (bitF .xor k (if k.signed then -1 else k.max) n)) := rfl
@[simp] theorem bin_or (t : TypeId) (k : IntKind) (a b : Int) : abinA P .or t (.int k a) (.int k b) = some (.int k (bitF .or k a b)) := by rw [binA_int]; simp [abinP, Go.binOp, Op.intBits, bitF]; rfl
@[simp] theorem bin_xor (t : TypeId) (k : IntKind) (a b : Int) : abinA P .xor t (.int k a) (.int k b) = some (.int k (bitF .xor k a b)) := by rw [binA_int]; simp [abinP, Go.binOp, Op.intBits, bitF]; rfl
@[simp] theorem bin_and (t : TypeId) (k : IntKind) (a b : Int) : abinA P .and t (.int k a) (.int k b) = some (.int k (bitF .and k a b)) := by rw [binA_int]; simp [abinP, Go.binOp, Op.intBits, bitF]; rfl
theorem not_neg {b : Int} (h : 0 ≤ b) : ¬ b < 0 := by omega
@[simp] theorem bin_shl (t : TypeId) (k k' : IntKind) (a b : Int) (h : 0 ≤ b) : abinA P .shl t (.int k a) (.int k' b) = some (.int k (k.wrap (a * 2 ^ (min b.toNat k.bits)))) := by rw [binA_int]; simp [abinP, Go.binOp, Op.shift, not_neg h]; rfl
@[simp] theorem bin_shr (t : TypeId) (k k' : IntKind) (a b : Int) (h : 0 ≤ b) : abinA P .shr t (.int k a) (.int k' b) = some (.int k (a.fdiv (2 ^ (min b.toNat k.bits)))) := by rw [binA_int]; simp [abinP, Go.binOp, Op.shift, not_neg h]; rfl
@[simp] theorem aminmax_int (big : Bool) (k : IntKind) (a b : Int) : aminmax big (.int k a) (.int k b) = some (.int k (if big then max a b else min a b)) := by simp [aminmax]
@[simp] theorem aextract_tup (vs : List AVal) (i : Nat) : aextract (.tup vs) i = vs[i]? := rfl


variable (s : AState) (K : AState → Prop) (gK : Tag K) (d : Option Tmp) (ty : TypeId) (ps : String) (af : Array Edge) (gd : Option (Nat × Bool))
@[simp] theorem st_move (x : Operand) (g : Tag (⟨d, .move x, ty, ps, af, gd⟩ : Oper)) : stepK P ⟨d, .move x, ty, ps, af, gd⟩ s K g gK = putK s d (aev s.fr x) K .mk := _root_.id rfl
@[simp] theorem st_assign (x : Operand) (g : Tag (⟨d, .assign x, ty, ps, af, gd⟩ : Oper)) : stepK P ⟨d, .assign x, ty, ps, af, gd⟩ s K g gK = putK s d (aev s.fr x) K .mk := _root_.id rfl
def pickK (c x y : AVal) : Option AVal := match c with
  | .bool t => some (if t then x else y)
  | _ => none
@[simp] theorem pickK_bool (t : Bool) (x y : AVal) : pickK (.bool t) x y = some (if t then x else y) := rfl
def nilK (x : AVal) : Option AVal := match x with
  | .ptr r i j => some (.ptr r i j)
  | .ro cs j => some (.ro cs j)
  | .func f a b => some (.func f a b)
  | _ => none
@[simp] theorem nilK_ptr (r i j : Nat) : nilK (.ptr r i j) = some (.ptr r i j) := rfl
@[simp] theorem nilK_ro (cs : List AVal) (j : Nat) : nilK (.ro cs j) = some (.ro cs j) := rfl
@[simp] theorem nilK_func (f : FuncId) (a b : List AVal) : nilK (.func f a b) = some (.func f a b) := rfl
@[simp] theorem st_pick (c x y : Operand) (g : Tag (⟨d, .pick c x y, ty, ps, af, gd⟩ : Oper)) : stepK P ⟨d, .pick c x y, ty, ps, af, gd⟩ s K g gK = optK (pickK (aev s.fr c) (aev s.fr x) (aev s.fr y)) (fun v => putK s d v K .mk) False .mk .mk := by
  unfold stepK putK astep aval optK pickK
  simp only
  cases aev s.fr c <;> simp [achg, ayld]
@[simp] theorem st_nilCheck (x : Operand) (g : Tag (⟨d, .nilCheck x, ty, ps, af, gd⟩ : Oper)) : stepK P ⟨d, .nilCheck x, ty, ps, af, gd⟩ s K g gK = optK (nilK (aev s.fr x)) (fun v => putK s d v K .mk) False .mk .mk := by
  unfold stepK putK astep aval optK nilK
  simp only
  cases aev s.fr x <;> simp [achg, ayld]
@[simp] theorem st_load (t : TypeId) (x : Operand) (g : Tag (⟨d, .load t x, ty, ps, af, gd⟩ : Oper)) : stepK P ⟨d, .load t x, ty, ps, af, gd⟩ s K g gK = optK (aload P t (aev s.fr x) s.η) (fun v => putK s d v K .mk) False .mk .mk := by
  unfold stepK putK astep aval optK
  simp only
  cases aload P t (aev s.fr x) s.η <;> simp [achg, ayld]
@[simp] theorem st_unOp (op : UnOp) (t : TypeId) (x : Operand) (g : Tag (⟨d, .unOp op t x, ty, ps, af, gd⟩ : Oper)) : stepK P ⟨d, .unOp op t x, ty, ps, af, gd⟩ s K g gK = optK (aun op (aev s.fr x)) (fun v => putK s d v K .mk) False .mk .mk := by
  unfold stepK putK astep aval optK
  simp only
  cases aun op (aev s.fr x) <;> simp [achg, ayld]
@[simp] theorem st_convert (a b : TypeId) (x : Operand) (g : Tag (⟨d, .convert a b x, ty, ps, af, gd⟩ : Oper)) : stepK P ⟨d, .convert a b x, ty, ps, af, gd⟩ s K g gK = optK (if (P.underlying a).isSome then aconv P b (aev s.fr x) else none) (fun v => putK s d v K .mk) False .mk .mk := by
  unfold stepK putK astep aval optK
  simp only
  cases (if (P.underlying a).isSome then aconv P b (aev s.fr x) else none) <;> simp [achg, ayld]
@[simp] theorem st_slice (t : TypeId) (x : Operand) (lo hi mx : Option Operand) (g : Tag (⟨d, .slice t x lo hi mx, ty, ps, af, gd⟩ : Oper)) : stepK P ⟨d, .slice t x lo hi mx, ty, ps, af, gd⟩ s K g gK = optK (asliceV P t (aev s.fr x) (lo.map (aev s.fr)) (hi.map (aev s.fr)) (mx.map (aev s.fr)) s.η) (fun v => putK s d v K .mk) False .mk .mk := by
  unfold stepK putK astep aval optK
  simp only
  cases asliceV P t (aev s.fr x) (lo.map (aev s.fr)) (hi.map (aev s.fr)) (mx.map (aev s.fr)) s.η <;> simp [achg, ayld]
@[simp] theorem st_fieldAddr (t : TypeId) (x : Operand) (f : Nat) (g : Tag (⟨d, .fieldAddr t x f, ty, ps, af, gd⟩ : Oper)) : stepK P ⟨d, .fieldAddr t x f, ty, ps, af, gd⟩ s K g gK = optK (afield P t (aev s.fr x) f) (fun v => putK s d v K .mk) False .mk .mk := by
  unfold stepK putK astep aval optK
  simp only
  cases afield P t (aev s.fr x) f <;> simp [achg, ayld]
@[simp] theorem st_field (t : TypeId) (x : Operand) (f : Nat) (g : Tag (⟨d, .field t x f, ty, ps, af, gd⟩ : Oper)) : stepK P ⟨d, .field t x f, ty, ps, af, gd⟩ s K g gK = optK (afldv P t (aev s.fr x) f) (fun v => putK s d v K .mk) False .mk .mk := by
  unfold stepK putK astep aval optK
  simp only
  cases afldv P t (aev s.fr x) f <;> simp [achg, ayld]
@[simp] theorem st_indexAddr (t : TypeId) (x y : Operand) (g : Tag (⟨d, .indexAddr t x y, ty, ps, af, gd⟩ : Oper)) : stepK P ⟨d, .indexAddr t x y, ty, ps, af, gd⟩ s K g gK = optK (aindex P t (aev s.fr x) (aev s.fr y) s.η) (fun v => putK s d v K .mk) False .mk .mk := by
  unfold stepK putK astep aval optK
  simp only
  cases aindex P t (aev s.fr x) (aev s.fr y) s.η <;> simp [achg, ayld]
@[simp] theorem st_index (t : TypeId) (x y : Operand) (g : Tag (⟨d, .index t x y, ty, ps, af, gd⟩ : Oper)) : stepK P ⟨d, .index t x y, ty, ps, af, gd⟩ s K g gK = optK (aindexv P t (aev s.fr x) (aev s.fr y)) (fun v => putK s d v K .mk) False .mk .mk := by
  unfold stepK putK astep aval optK
  simp only
  cases aindexv P t (aev s.fr x) (aev s.fr y) <;> simp [achg, ayld]
@[simp] theorem st_extract (x : Operand) (i : Nat) (g : Tag (⟨d, .extract x i, ty, ps, af, gd⟩ : Oper)) : stepK P ⟨d, .extract x i, ty, ps, af, gd⟩ s K g gK = optK (aextract (aev s.fr x) i) (fun v => putK s d v K .mk) False .mk .mk := by
  unfold stepK putK astep aval optK
  simp only
  cases aextract (aev s.fr x) i <;> simp [achg, ayld]
@[simp] theorem st_build (t : TypeId) (parts : List (Nat × Operand)) (g : Tag (⟨d, .build t parts.toArray, ty, ps, af, gd⟩ : Oper)) : stepK P ⟨d, .build t parts.toArray, ty, ps, af, gd⟩ s K g gK = optK (abuild P t (parts.map fun p => (p.1, acells (aev s.fr p.2)))) (fun v => putK s d v K .mk) False .mk .mk := by
  unfold stepK putK astep aval optK
  simp only
  cases abuild P t (parts.map fun p => (p.1, acells (aev s.fr p.2))) <;> simp [achg, ayld]
@[simp] theorem st_makeFunc (f : FuncId) (a b : Array Operand) (g : Tag (⟨d, .makeFunc (.func f) a b, ty, ps, af, gd⟩ : Oper)) : stepK P ⟨d, .makeFunc (.func f) a b, ty, ps, af, gd⟩ s K g gK = putK s d (.func f (a.toList.map (aev s.fr)) (b.toList.map (aev s.fr))) K .mk := _root_.id rfl
@[simp] theorem st_len (x : Operand) (t : TypeId) (g : Tag (⟨d, .call ⟨.builtin .len, #[x], #[t]⟩, ty, ps, af, gd⟩ : Oper)) : stepK P ⟨d, .call ⟨.builtin .len, #[x], #[t]⟩, ty, ps, af, gd⟩ s K g gK = optK ((alenT P t (aev s.fr x) s.η).map (.int .i64)) (fun v => putK s d v K .mk) False .mk .mk := by
  unfold stepK putK astep aval acallV optK
  simp only
  cases alenT P t (aev s.fr x) s.η <;> simp [achg, ayld]
@[simp] theorem st_cap (x : Operand) (t : TypeId) (g : Tag (⟨d, .call ⟨.builtin .cap, #[x], #[t]⟩, ty, ps, af, gd⟩ : Oper)) : stepK P ⟨d, .call ⟨.builtin .cap, #[x], #[t]⟩, ty, ps, af, gd⟩ s K g gK = optK ((acapT P t (aev s.fr x)).map (.int .i64)) (fun v => putK s d v K .mk) False .mk .mk := by
  unfold stepK putK astep aval acallV optK
  simp only
  cases acapT P t (aev s.fr x) <;> simp [achg, ayld]
@[simp] theorem st_min (x y : Operand) (ts : Array TypeId) (g : Tag (⟨d, .call ⟨.builtin .min, #[x, y], ts⟩, ty, ps, af, gd⟩ : Oper)) : stepK P ⟨d, .call ⟨.builtin .min, #[x, y], ts⟩, ty, ps, af, gd⟩ s K g gK = optK (aminmax false (aev s.fr x) (aev s.fr y)) (fun v => putK s d v K .mk) False .mk .mk := by
  unfold stepK putK astep aval acallV optK
  simp only
  cases aminmax false (aev s.fr x) (aev s.fr y) <;> simp [achg, ayld]
@[simp] theorem st_max (x y : Operand) (ts : Array TypeId) (g : Tag (⟨d, .call ⟨.builtin .max, #[x, y], ts⟩, ty, ps, af, gd⟩ : Oper)) : stepK P ⟨d, .call ⟨.builtin .max, #[x, y], ts⟩, ty, ps, af, gd⟩ s K g gK = optK (aminmax true (aev s.fr x) (aev s.fr y)) (fun v => putK s d v K .mk) False .mk .mk := by
  unfold stepK putK astep aval acallV optK
  simp only
  cases aminmax true (aev s.fr x) (aev s.fr y) <;> simp [achg, ayld]
@[simp] theorem st_binOp (op : BinOp) (t t' : TypeId) (x y : Operand) (g : Tag (⟨d, .binOp op t x y t', ty, ps, af, gd⟩ : Oper)) : stepK P ⟨d, .binOp op t x y t', ty, ps, af, gd⟩ s K g gK =
    optK (abinA P op t (aev s.fr x) (aev s.fr y)) (fun v => putK s d v K .mk) (nilcmp P op t (aev s.fr x) (aev s.fr y) (fun v => putK s d v K .mk) .mk) .mk .mk := by
  unfold stepK putK astep aval optK nilcmp
  simp only
  cases abinA P op t (aev s.fr x) (aev s.fr y) <;> simp only [achg, ayld]
  cases op <;> simp only
  all_goals
    cases P.underlying t with
    | none => rfl
    | some D => cases D <;> first | rfl | (cases aev s.fr y <;> rfl)
@[simp] theorem st_lookup (t : TypeId) (x k : Operand) (ok : Bool) (g : Tag (⟨d, .lookup t x k ok, ty, ps, af, gd⟩ : Oper)) : stepK P ⟨d, .lookup t x k ok, ty, ps, af, gd⟩ s K g gK = optK (alookup P t (aev s.fr x) (aev s.fr k) ok s.η) (fun v => putK s d v K .mk) False .mk .mk := by
  unfold stepK putK astep aval optK
  simp only
  cases alookup P t (aev s.fr x) (aev s.fr k) ok s.η <;> simp [achg, ayld]
@[simp] theorem st_makeMap (t : TypeId) (g : Tag (⟨d, .makeMap t none, ty, ps, af, gd⟩ : Oper)) : stepK P ⟨d, .makeMap t none, ty, ps, af, gd⟩ s K g gK = putK ⟨s.fr, s.nt, upd s.η s.n (some (.map [])), s.n + 1⟩ d (.mp s.n) K .mk := by
  unfold stepK putK astep aval
  simp only [achg, ayld]
@[simp] theorem st_insert (t : TypeId) (m k x : Operand) (g : Tag (⟨d, .insert t m k x, ty, ps, af, gd⟩ : Oper)) : stepK P ⟨d, .insert t m k x, ty, ps, af, gd⟩ s K g gK = heapK (ainsert P t (aev s.fr m) (aev s.fr k) (aev s.fr x) s.η) (fun η' => putK ⟨s.fr, s.nt, η', s.n⟩ d .undef K .mk) .mk := by
  unfold stepK putK astep aval heapK
  simp only [achg, ayld]
  cases ainsert P t (aev s.fr m) (aev s.fr k) (aev s.fr x) s.η <;> rfl
@[simp] theorem st_store (t : TypeId) (p x : Operand) (g : Tag (⟨d, .store t p x, ty, ps, af, gd⟩ : Oper)) : stepK P ⟨d, .store t p x, ty, ps, af, gd⟩ s K g gK = heapK (astore P t (aev s.fr p) (aev s.fr x) s.η) (fun η' => putK ⟨s.fr, s.nt, η', s.n⟩ d .undef K .mk) .mk := by
  unfold stepK putK astep aval heapK
  simp only [achg, ayld]
  cases astore P t (aev s.fr p) (aev s.fr x) s.η <;> rfl
@[simp] theorem st_range (t : TypeId) (x : Operand) (g : Tag (⟨d, .range t x, ty, ps, af, gd⟩ : Oper)) : stepK P ⟨d, .range t x, ty, ps, af, gd⟩ s K g gK = rangeK P t (aev s.fr x) s.η s.n (fun v η' n' => putK ⟨s.fr, s.nt, η', n'⟩ d v K .mk) .mk := _root_.id rfl
@[simp] theorem st_next (x : Operand) (b : Bool) (g : Tag (⟨d, .next x b, ty, ps, af, gd⟩ : Oper)) : stepK P ⟨d, .next x b, ty, ps, af, gd⟩ s K g gK = nextK (aev s.fr x) b s.η s.n (fun v η' n' => putK ⟨s.fr, s.nt, η', n'⟩ d v K .mk) .mk := _root_.id rfl
@[simp] theorem st_entry (x : Operand) (g : Tag (⟨d, .entry x, ty, ps, af, gd⟩ : Oper)) : stepK P ⟨d, .entry x, ty, ps, af, gd⟩ s K g gK = entryK (aev s.fr x) s.η s.n (fun v η' n' => putK ⟨s.fr, s.nt, η', n'⟩ d v K .mk) .mk := _root_.id rfl
@[simp] theorem st_delete (x y : Operand) (t t2 : TypeId) (g : Tag (⟨d, .call ⟨.builtin .delete, #[x, y], #[t, t2]⟩, ty, ps, af, gd⟩ : Oper)) : stepK P ⟨d, .call ⟨.builtin .delete, #[x, y], #[t, t2]⟩, ty, ps, af, gd⟩ s K g gK =
    heapK (adelete P t (aev s.fr x) (aev s.fr y) s.η) (fun η' => putK ⟨s.fr, s.nt, η', s.n⟩ d .undef K .mk) .mk := by
  unfold stepK putK astep aval acallV heapK
  simp only [achg, ayld]
  cases adelete P t (aev s.fr x) (aev s.fr y) s.η <;> rfl
@[simp] theorem st_clear (x : Operand) (t : TypeId) (g : Tag (⟨d, .call ⟨.builtin .clear, #[x], #[t]⟩, ty, ps, af, gd⟩ : Oper)) : stepK P ⟨d, .call ⟨.builtin .clear, #[x], #[t]⟩, ty, ps, af, gd⟩ s K g gK =
    heapK (aclear P t (aev s.fr x) s.η) (fun η' => putK ⟨s.fr, s.nt, η', s.n⟩ d .undef K .mk) .mk := by
  unfold stepK putK astep aval acallV heapK
  simp only [achg, ayld]
  cases aclear P t (aev s.fr x) s.η <;> rfl
@[simp] theorem st_callf (f : Operand) (args : Array Operand) (ts : Array TypeId) (g : Tag (⟨d, .call ⟨.value f, args, ts⟩, ty, ps, af, gd⟩ : Oper)) : stepK P ⟨d, .call ⟨.value f, args, ts⟩, ty, ps, af, gd⟩ s K g gK =
    callK P (aev s.fr f) (args.toList.map (aev s.fr)) s.η s.n (fun v η' n' => putK ⟨s.fr, s.nt, η', n'⟩ d v K .mk) .mk := by
  unfold stepK putK astep aval acallV callK
  simp only [achg, ayld]
  cases aev s.fr f <;> rfl
@[simp] theorem st_alloc (t : TypeId) (g : Tag (⟨d, .alloc t, ty, ps, af, gd⟩ : Oper)) : stepK P ⟨d, .alloc t, ty, ps, af, gd⟩ s K g gK = zeroK (tzero P t) (fun cs => cs ≠ [] ∧ putK ⟨s.fr, s.nt, upd s.η s.n (some (.cells cs.length [cs])), s.n + 1⟩ d (.ptr s.n 0 0) K .mk) .mk := by
  unfold stepK putK astep aval zeroK
  simp only [achg, ayld]
  cases tzero P t <;> rfl
@[simp] theorem st_box (t : TypeId) (x : Operand) (g : Tag (⟨d, .box t x, ty, ps, af, gd⟩ : Oper)) : stepK P ⟨d, .box t x, ty, ps, af, gd⟩ s K g gK = boxK (tsize P t) (acells (aev s.fr x)) (fun cs z => putK ⟨s.fr, s.nt, upd s.η s.n (some (.cells z [cs])), s.n + 1⟩ d (.ptr s.n 0 0) K .mk) .mk := by
  unfold stepK putK astep aval boxK
  simp only [achg, ayld]
  cases tsize P t with
  | none => rfl
  | some z => simp [and_assoc]
def abuildS (t : TypeId) (len : Nat) (parts : List (Nat × List AVal)) : Option (List (List AVal)) :=
  match telem P t with
  | some e => match tzero P e with
    | some zs => match afillP (fun i => some (i * zs.length, zs.length)) (List.replicate len zs).flatten parts with
      | some cs => if 0 < zs.length ∧ len * zs.length ≤ 16777216 then some (chunk zs.length len cs) else none
      | none => none
    | none => none
  | none => none
def tek (t : TypeId) : Nat := match telem P t with
  | some e => (tsize P e).getD 0
  | none => 0
theorem zero_len {t : TypeId} {zs : List AVal} (h : tzero P t = some zs) : tsize P t = some zs.length := by
  obtain ⟨_, _, _, _, _, z5⟩ := zero_run (own := fun _ => none) (M := fun _ => none) h (default : World); exact z5
@[simp] theorem st_buildSlice (t : TypeId) (len : Nat) (parts : List (Nat × Operand)) (g : Tag (⟨d, .buildSlice t len parts.toArray, ty, ps, af, gd⟩ : Oper)) : stepK P ⟨d, .buildSlice t len parts.toArray, ty, ps, af, gd⟩ s K g gK =
    rowsK (abuildS P t len (parts.map fun p => (p.1, acells (aev s.fr p.2)))) (fun rows => putK ⟨s.fr, s.nt, upd s.η s.n (some (.cells (tek P t) rows)), s.n + 1⟩ d (.sl s.n 0 len) K .mk) .mk := by
  unfold stepK putK astep aval rowsK abuildS tek
  simp only [achg, ayld]
  cases telem P t with
  | none => rfl
  | some e =>
    simp only
    cases hz : tzero P e with
    | none => rfl
    | some zs =>
      have hs := zero_len P hz
      simp only [hs, Option.getD_some]
      cases afillP (fun i => some (i * zs.length, zs.length)) (List.replicate len zs).flatten (parts.map fun p => (p.1, acells (aev s.fr p.2))) with
      | none => rfl
      | some cs =>
        simp only
        by_cases hh : 0 < zs.length ∧ len * zs.length ≤ 16777216
        · rw [if_pos hh]; simp [hh.1, hh.2]
        · rw [if_neg hh]
          simp only [eq_iff_iff, iff_false]
          exact fun h => hh ⟨h.1, h.2.1⟩
@[simp] theorem st_makeSlice (t : TypeId) (l c : Operand) (g : Tag (⟨d, .makeSlice t l c, ty, ps, af, gd⟩ : Oper)) : stepK P ⟨d, .makeSlice t l c, ty, ps, af, gd⟩ s K g gK = makeK P (aev s.fr l) (aev s.fr c) t s.η s.n (fun v η' n' => putK ⟨s.fr, s.nt, η', n'⟩ d v K .mk) .mk := _root_.id rfl
@[simp] theorem st_append (x y : Operand) (t t2 : TypeId) (g : Tag (⟨d, .call ⟨.builtin .append, #[x, y], #[t, t2]⟩, ty, ps, af, gd⟩ : Oper)) : stepK P ⟨d, .call ⟨.builtin .append, #[x, y], #[t, t2]⟩, ty, ps, af, gd⟩ s K g gK =
    appK P t t2 (aev s.fr x) (aev s.fr y) s.η s.n (fun v η' n' => putK ⟨s.fr, s.nt, η', n'⟩ d v K .mk) .mk := _root_.id rfl
@[simp] theorem st_copy (x y : Operand) (t t2 : TypeId) (g : Tag (⟨d, .call ⟨.builtin .copy, #[x, y], #[t, t2]⟩, ty, ps, af, gd⟩ : Oper)) : stepK P ⟨d, .call ⟨.builtin .copy, #[x, y], #[t, t2]⟩, ty, ps, af, gd⟩ s K g gK =
    cpyK P t t2 (aev s.fr x) (aev s.fr y) s.η s.n (fun v η' n' => putK ⟨s.fr, s.nt, η', n'⟩ d v K .mk) .mk := _root_.id rfl
end
end Go.Proofs.YtbomkomipaipmaaGreat
namespace Go.Proofs.YtbomkomipaipmaaGreat

def isChg : Op → Bool
  | .alloc _ | .box _ _ | .buildSlice _ _ _ | .makeSlice _ _ _ | .store _ _ _ | .makeMap _ _ | .mapUpdate _ _ _ _ | .insert _ _ _ _ => true
  | .call c => match c.callee with
    | .builtin .len | .builtin .cap | .builtin .min | .builtin .max => false
    | _ => true
  | _ => false
def isLd : Op → Bool
  | .load _ _ | .slice _ _ _ _ _ | .indexAddr _ _ _ | .lookup _ _ _ _ => true
  | .call _ => true
  | _ => false
def preT (ops : Array Oper) : Array (List Nat) :=
  ops.foldl (fun T o => T.push (o.after.toList.flatMap fun e => if Region.binds .any e && decide (e.on < T.size) then e.on :: T.getD e.on [] else [])) #[]
def closedT (ops : Array Oper) (T : Array (List Nat)) : Bool :=
  (List.range ops.size).all fun i => match ops[i]? with
    | some o => (T.getD i []).all fun k => o.after.toList.any fun e => Region.binds .any e && (e.on == k || (T.getD e.on []).contains k)
    | none => true
def canonGo (ops : Array Oper) (T : Array (List Nat)) : List Nat → List Nat → Bool
  | _, [] => true
  | ahead, i :: l => (match ops[i]? with
    | some o => !ahead.contains i && (o.after.toList.all fun e => !Region.binds .any e || (ahead.contains e.on && decide (e.on < ops.size))) &&
        ahead.all (fun k => (T.getD i []).contains k || (match ops[k]? with
          | some ok => ok.apart ops o && !isChg ok.op
          | none => false))
    | none => false) && canonGo ops T (i :: ahead) l
def canonOK (ops : Array Oper) (l : List Nat) : Bool := closedT ops (preT ops) && (l.length == ops.size && canonGo ops (preT ops) [] l)

section
variable (P : Program)
def adr (ops : Array Oper) (T : Array (List Nat)) : List Nat → List (Nat × (AHeap → Prop)) → (AState → Prop) → AState → Prop
  | [], _, K, s => K s
  | i :: l, lds, K, s => match ops[i]? with
    | none => False
    | some o => aguard ops o s
        (if isChg o.op then achg P o (aev s.fr) s.η s.n fun v η' n' => (∀ q ∈ lds, (T.getD i []).contains q.1 = false → q.2 η') ∧ adr ops T l lds K ({ s with η := η', n := n' }.put o.dst v)
         else match aval P o (aev s.fr) s.η with
          | some v => adr ops T l (if isLd o.op then (i, fun η => aval P o (aev s.fr) η = some v) :: lds else lds) K (s.put o.dst v)
          | none => False)
        (adr ops T l lds K (s.put o.dst (.tup [])))
end

section
variable {P : Program}
theorem arow_congr {ρ ρ' : Operand → AVal} {l : Array Operand} (h : ∀ x ∈ l, ρ x = ρ' x) : l.toList.map ρ = l.toList.map ρ' := List.map_congr_left fun x hx => h x (by simpa using hx)
theorem acallV_congr {c : Call} {ρ ρ' : Operand → AVal} {η : AHeap} (h : ∀ x ∈ c.args, ρ x = ρ' x) : acallV P c ρ η = acallV P c ρ' η := by
  obtain ⟨callee, args, ts⟩ := c
  unfold acallV
  simp only at h ⊢
  cases callee with
  | builtin b =>
    simp only
    split
    · rename_i x t ea et; rw [h x (by rw [← Array.mem_toList_iff, ea]; simp)]
    · rename_i x t ea et; rw [h x (by rw [← Array.mem_toList_iff, ea]; simp)]
    · rename_i x y ea; rw [h x (by rw [← Array.mem_toList_iff, ea]; simp), h y (by rw [← Array.mem_toList_iff, ea]; simp)]
    · rename_i x y ea; rw [h x (by rw [← Array.mem_toList_iff, ea]; simp), h y (by rw [← Array.mem_toList_iff, ea]; simp)]
    · rfl
  | _ => rfl
theorem parts_congr {ρ ρ' : Operand → AVal} {ps : Array (Nat × Operand)} (h : ∀ x ∈ (ps.toList.map (·.2)).toArray, ρ x = ρ' x) : (ps.toList.map fun p => (p.1, acells (ρ p.2))) = ps.toList.map fun p => (p.1, acells (ρ' p.2)) :=
  List.map_congr_left fun p hp => by rw [h p.2 (by simp only [List.mem_toArray, List.mem_map]; exact ⟨p, hp, rfl⟩)]
theorem opt_congr {ρ ρ' : Operand → AVal} {x : Option Operand} (h : ∀ y ∈ x.toArray, ρ y = ρ' y) : x.map ρ = x.map ρ' := by
  cases x with
  | none => rfl
  | some x => simp [h x (by simp)]
theorem aval_congr {o : Oper} {ρ ρ' : Operand → AVal} {η : AHeap} (h : ∀ x ∈ o.op.operands, ρ x = ρ' x) : aval P o ρ η = aval P o ρ' η := by
  unfold aval
  cases hop : o.op <;> rw [hop] at h <;> simp only [Op.operands] at h ⊢
  case move x => rw [h x (by simp)]
  case assign x => rw [h x (by simp)]
  case pick a b c => rw [h a (by simp), h b (by simp), h c (by simp)]
  case build t ps => rw [parts_congr h]
  case load t x => rw [h x (by simp)]
  case nilCheck x => rw [h x (by simp)]
  case binOp op t x y ty => rw [h x (by simp), h y (by simp)]
  case unOp op t x => rw [h x (by simp)]
  case convert a b x => rw [h x (by simp)]
  case makeFunc fn a b =>
    cases fn <;> simp only
    rw [arow_congr (l := a) (fun x hx => h x (by simp [hx])), arow_congr (l := b) (fun x hx => h x (by simp [hx]))]
  case slice t x lo hi mx =>
    rw [h x (by simp), opt_congr (x := lo) (fun y hy => h y (by simp [hy])), opt_congr (x := hi) (fun y hy => h y (by simp [hy])), opt_congr (x := mx) (fun y hy => h y (by simp [hy]))]
  case fieldAddr s x f => rw [h x (by simp)]
  case field s x f => rw [h x (by simp)]
  case indexAddr t x y => rw [h x (by simp), h y (by simp)]
  case index t x y => rw [h x (by simp), h y (by simp)]
  case extract x i => rw [h x (by simp)]
  case lookup t x k ok => rw [h x (by simp), h k (by simp)]
  case call c => exact acallV_congr fun x hx => h x (by simp [Call.operands, hx])

theorem aval_heap {o : Oper} {ρ : Operand → AVal} {η η' : AHeap} (h : isLd o.op = false) : aval P o ρ η = aval P o ρ η' := by
  unfold aval
  cases hop : o.op <;> rw [hop] at h <;> simp [isLd] at h <;> rfl

theorem aappend_mono {t t2 : TypeId} {x y : AVal} {η : AHeap} {n : Nat} {K K' : AVal → AHeap → Nat → Prop} (hk : ∀ v η n, K v η n → K' v η n) (h : aappend P t t2 x y η n K) : aappend P t t2 x y η n K' := by
  unfold aappend at *
  repeat' split
  all_goals first | (simp_all; done) | (simp_all; exact h.2.2.1) | (simp_all; obtain ⟨_, _, h1, h2, _, _, h3⟩ := h; rw [h2] at h3; exact ⟨h1, hk _ _ _ h3⟩)
theorem acopy_mono {t t2 : TypeId} {x y : AVal} {η : AHeap} {n : Nat} {K K' : AVal → AHeap → Nat → Prop} (hk : ∀ v η n, K v η n → K' v η n) (h : acopy P t t2 x y η n K) : acopy P t t2 x y η n K' := by
  unfold acopy at *
  cases h1 : telem P t with
  | none => simp [h1] at h
  | some e =>
    simp only [h1] at h ⊢
    split at h
    · rename_i z D h2 h3
      refine ⟨h.1, ?_⟩
      have h := h.2
      cases h4 : arows z y η with
      | none => simp [h4] at h
      | some news =>
        simp only [h4] at h ⊢
        refine ⟨h.1, ?_⟩
        have h := h.2
        cases x with
        | nils => exact hk _ _ _ h
        | e0 => exact hk _ _ _ h
        | sl r o m =>
          simp only at h ⊢
          cases h5 : η r with
          | none => simp [h5] at h
          | some ob =>
            cases ob with
            | cells k rows => simp only [h5] at h ⊢; exact ⟨h.1, h.2.1, hk _ _ _ h.2.2⟩
            | _ => simp [h5] at h
        | _ => exact h.elim
    · exact h.elim
theorem anil_mono {x : AVal} {K K' : Bool → Prop} (hk : ∀ b, K b → K' b) (h : anil x K) : anil x K' := by
  unfold anil at *
  split <;> simp_all
theorem arange_mono {P : Program} {t : TypeId} {x : AVal} {η : AHeap} {n : Nat} {K K' : AVal → AHeap → Nat → Prop} (hk : ∀ v η n, K v η n → K' v η n) (h : arange P t x η n K) : arange P t x η n K' := by
  unfold arange at *
  split
  · simp_all
  · split <;> simp_all
  · simp_all
theorem anext_mono {x : AVal} {b : Bool} {η : AHeap} {n : Nat} {K K' : AVal → AHeap → Nat → Prop} (hk : ∀ v η n, K v η n → K' v η n) (h : anext x b η n K) : anext x b η n K' := by
  unfold anext at *
  refine ⟨h.1, ?_⟩
  have h := h.2
  split
  · split
    · simp_all
    · split
      · simp only [*] at h
        exact ⟨h.1, h.2.1, fun i e h1 h2 => hk _ _ _ (h.2.2.1 i e h1 h2), fun h1 => hk _ _ _ (h.2.2.2 h1)⟩
      · simp_all
    · simp_all
  · simp_all
theorem aentry_mono {x : AVal} {η : AHeap} {n : Nat} {K K' : AVal → AHeap → Nat → Prop} (hk : ∀ v η n, K v η n → K' v η n) (h : aentry x η n K) : aentry x η n K' := by
  unfold aentry at *
  split
  · split
    · split
      · simp only [*] at h
        obtain ⟨h1, h2, i, e, h3, h4, h5⟩ := h
        exact ⟨h1, h2, i, e, h3, h4, hk _ _ _ h5⟩
      · simp_all
    · simp_all
  · simp_all
theorem achg_mono {o : Oper} {ρ : Operand → AVal} {η : AHeap} {n : Nat} {K K' : AVal → AHeap → Nat → Prop} (hk : ∀ v η n, K v η n → K' v η n) (h : achg P o ρ η n K) : achg P o ρ η n K' := by
  unfold achg at *
  cases hop : o.op <;> rw [hop] at h <;> simp only at h ⊢
  case alloc t => split <;> simp_all
  case box t x => split <;> simp_all
  case buildSlice t l ps => (repeat' split) <;> simp_all
  case makeSlice t l c => (repeat' split) <;> simp_all
  case store t p x => split <;> simp_all
  case range t x => exact arange_mono hk h
  case next x b => exact anext_mono hk h
  case entry x => exact aentry_mono hk h
  case makeMap t rs => cases rs <;> simp_all
  case insert t m k x => split <;> simp_all
  case mapUpdate t m k x => split <;> simp_all
  case binOp op t x y ty =>
    have key : ∀ (K1 K2 : Bool → Prop), (∀ b, K1 b → K2 b) → (match P.underlying t, ρ y with
      | some (.slice _), .nils => anil (ρ x) K1
      | _, _ => False) → (match P.underlying t, ρ y with
      | some (.slice _), .nils => anil (ρ x) K2
      | _, _ => False) := fun K1 K2 h12 hh => by
      split at hh
      · exact anil_mono h12 hh
      · exact hh.elim
    cases op <;> simp only at h ⊢
    all_goals first | exact key _ _ (fun b hb => hk _ _ _ hb) h | exact h
  case call c =>
    obtain ⟨callee, args, ts⟩ := c
    simp only at h ⊢
    cases callee with
    | builtin b =>
      simp only at h ⊢
      split at h
      · exact aappend_mono hk h
      · exact acopy_mono hk h
      · split <;> simp_all
      · split <;> simp_all
      · exact h
    | value f =>
      simp only at h ⊢
      split at h
      · exact ⟨h.1, h.2.mono hk⟩
      · exact h
    | invoke r m => exact h
theorem achg_congr {o : Oper} {ρ ρ' : Operand → AVal} {η : AHeap} {n : Nat} {K : AVal → AHeap → Nat → Prop} (h : ∀ x ∈ o.op.operands, ρ x = ρ' x) : achg P o ρ η n K = achg P o ρ' η n K := by
  unfold achg
  cases hop : o.op <;> rw [hop] at h <;> simp only [Op.operands] at h ⊢
  case box t x => rw [h x (by simp)]
  case buildSlice t l ps => rw [parts_congr h]
  case makeSlice t l c => rw [h l (by simp), h c (by simp)]
  case store t p x => rw [h p (by simp), h x (by simp)]
  case range t x => rw [h x (by simp)]
  case next x b => rw [h x (by simp)]
  case entry x => rw [h x (by simp)]
  case insert t m k x => rw [h m (by simp), h k (by simp), h x (by simp)]
  case mapUpdate t m k x => rw [h m (by simp), h k (by simp), h x (by simp)]
  case makeMap t rs => cases rs <;> rfl
  case binOp op t x y ty =>
    have e1 := h x (by simp)
    have e2 := h y (by simp)
    cases op <;> simp only [e1, e2]
  case call c =>
    obtain ⟨callee, args, ts⟩ := c
    simp only at h ⊢
    cases callee with
    | builtin b =>
      simp only
      split
      · rename_i x y t t2 ea et
        have ha : ∀ z ∈ args.toList, ρ z = ρ' z := fun z hz => h z (by simp [Call.operands]; simpa using hz)
        rw [ha x (by rw [ea]; simp), ha y (by rw [ea]; simp)]
      · rename_i x y t t2 ea et
        have ha : ∀ z ∈ args.toList, ρ z = ρ' z := fun z hz => h z (by simp [Call.operands]; simpa using hz)
        rw [ha x (by rw [ea]; simp), ha y (by rw [ea]; simp)]
      · rename_i x t ea et
        have ha : ∀ z ∈ args.toList, ρ z = ρ' z := fun z hz => h z (by simp [Call.operands]; simpa using hz)
        rw [ha x (by rw [ea]; simp)]
      · rename_i x y t t2 ea et
        have ha : ∀ z ∈ args.toList, ρ z = ρ' z := fun z hz => h z (by simp [Call.operands]; simpa using hz)
        rw [ha x (by rw [ea]; simp), ha y (by rw [ea]; simp)]
      · rfl
    | value f =>
      simp only
      rw [h f (by simp [Call.operands]), arow_congr (l := args) (fun x hx => h x (by simp [Call.operands, hx]))]
    | invoke r m => rfl

/-- is the operation done? -/
def wantd (ops : Array Oper) (o : Oper) (s : AState) : Option Bool :=
  match o.guard with
  | none => some true
  | some (j, b) => match (ops[j]?).bind (·.dst) with
    | some d => match s.fr d with
      | .bool t => some (t == b)
      | .tup [] => some false
      | _ => none
    | none => none
theorem aguard_iff {ops : Array Oper} {o : Oper} {s : AState} {yes no : Prop} : aguard ops o s yes no ↔ (wantd ops o s = some true ∧ yes) ∨ (wantd ops o s = some false ∧ no) := by
  unfold aguard wantd
  cases hg : o.guard with
  | none => simp
  | some g =>
    obtain ⟨j, b⟩ := g
    simp only
    cases hd : (ops[j]?).bind (·.dst) with
    | none => simp
    | some d =>
      simp only
      cases s.fr d with
      | bool t =>
        simp only [Option.some.injEq]
        cases hb : (t == b) <;> simp
      | tup l => cases l <;> simp
      | _ => simp

theorem AState.fr_put {s : AState} {d : Option Tmp} {v : AVal} {t : Nat} (h : ∀ x, d = some x → x ≠ t) : (s.put d v).fr t = s.fr t := by
  unfold AState.put
  cases d with
  | none => rfl
  | some d =>
    simp only
    split
    · simp only [setf]; rw [if_neg (fun e => h d rfl e.symm)]
    · rfl
theorem AState.put_comm {s : AState} {d d' : Option Tmp} {v v' : AVal} (h : ∀ x, d = some x → d' ≠ some x) : (s.put d v).put d' v' = (s.put d' v').put d v := by
  cases d with
  | none => cases d' <;> rfl
  | some d => cases d' with
    | none => rfl
    | some d' =>
      have hne : d ≠ d' := fun e => h d rfl (by rw [e])
      unfold AState.put
      simp only
      by_cases h1 : d < s.nt <;> by_cases h2 : d' < s.nt <;> simp only [h1, h2, if_true, if_false]
      congr 1
      funext t
      simp only [setf]
      by_cases e1 : t = d <;> by_cases e2 : t = d' <;> simp_all
theorem AState.put_heap {s : AState} {d : Option Tmp} {v : AVal} {η : AHeap} {n : Nat} : ({ s.put d v with η := η, n := n } : AState) = ({ s with η := η, n := n } : AState).put d v := by
  unfold AState.put
  cases d with
  | none => rfl
  | some d => simp only; split <;> rfl
theorem AState.put_η {s : AState} {d : Option Tmp} {v : AVal} : (s.put d v).η = s.η ∧ (s.put d v).n = s.n := by
  unfold AState.put
  cases d with
  | none => exact ⟨rfl, rfl⟩
  | some d => simp only; split <;> exact ⟨rfl, rfl⟩

section
variable {ops : Array Oper} {T : Array (List Nat)} {K : AState → Prop}
theorem ev_put {y : Oper} {s : AState} {d : Option Tmp} {v : AVal} (h : ∀ t, d = some t → t ∉ y.looksAt ops) : ∀ o ∈ y.op.operands, aev (s.put d v).fr o = aev s.fr o := fun o ho => by
  cases o with
  | tmp t =>
    refine AState.fr_put fun z hz e => h z hz ?_
    subst e
    exact List.mem_append_left _ (List.mem_filterMap.2 ⟨.tmp z, by simpa using ho, rfl⟩)
  | _ => rfl
theorem wantd_put {y : Oper} {s : AState} {d : Option Tmp} {v : AVal} (h : ∀ t, d = some t → t ∉ y.looksAt ops) : wantd ops y (s.put d v) = wantd ops y s := by
  unfold wantd
  cases hg : y.guard with
  | none => rfl
  | some g =>
    obtain ⟨j, b⟩ := g
    simp only
    cases hd : (ops[j]?).bind (·.dst) with
    | none => rfl
    | some z =>
      simp only
      rw [AState.fr_put fun x hx e => h x hx ?_]
      subst e
      unfold Oper.looksAt
      refine List.mem_append_right _ ?_
      rw [hg]
      simp [hd]

theorem adr_lds : ∀ (l : List Nat) (lds lds' : List (Nat × (AHeap → Prop))) (s : AState), (∀ q ∈ lds', q ∈ lds) → adr P ops T l lds K s → adr P ops T l lds' K s
  | [], _, _, _, _, h => h
  | i :: l, lds, lds', s, hl, h => by
    unfold adr at h ⊢
    split
    · simp_all
    · rename_i o ho
      simp only [ho] at h
      rw [aguard_iff] at h ⊢
      rcases h with ⟨h1, h2⟩ | ⟨h1, h2⟩
      · refine Or.inl ⟨h1, ?_⟩
        split
        · rename_i hc
          rw [if_pos hc] at h2
          exact achg_mono (fun v η n ⟨k1, k2⟩ => ⟨fun q hq => k1 q (hl q hq), adr_lds l _ _ _ hl k2⟩) h2
        · rename_i hc
          rw [if_neg hc] at h2
          split
          · rename_i v hv
            simp only [hv] at h2
            refine adr_lds l _ _ _ (fun q hq => ?_) h2
            split at hq
            · rename_i hL; rw [if_pos hL]
              rcases List.mem_cons.1 hq with rfl | hq
              · exact List.mem_cons_self
              · exact List.mem_cons_of_mem _ (hl q hq)
            · rename_i hL; rw [if_neg hL]; exact hl q hq
          · rename_i hv; simp only [hv] at h2
      · exact Or.inr ⟨h1, adr_lds l _ _ _ hl h2⟩
end
end
end Go.Proofs.YtbomkomipaipmaaGreat
namespace Go.Proofs.YtbomkomipaipmaaGreat

section
variable {P : Program} {ops : Array Oper} {T : Array (List Nat)} {K : AState → Prop}

/-- an operation that nothing ahead of it hinders comes first -/
theorem adr_front {i : Nat} {oi : Oper} (hi : ops[i]? = some oi) {l2 : List Nat} : ∀ (l1 : List Nat) (lds : List (Nat × (AHeap → Prop))) (s : AState),
    (∀ k ∈ l1, (T.getD i []).contains k = false ∧ ∃ ok, ops[k]? = some ok ∧ ok.apart ops oi = true ∧ isChg ok.op = false) → adr P ops T (l1 ++ i :: l2) lds K s → adr P ops T (i :: (l1 ++ l2)) lds K s
  | [], _, _, _, h => h
  | k :: l1, lds, s, hl, h => by
    obtain ⟨hT, ok, hk, hap, hch⟩ := hl k (by simp)
    obtain ⟨a1, a2, a3⟩ := Oper.apart_spec hap
    have a2' : ∀ d, oi.dst = some d → ok.dst ≠ some d := fun d h1 h2 => a2 d h2 h1
    rw [List.cons_append, adr] at h
    simp only [hk] at h
    rw [aguard_iff] at h
    rw [adr]
    simp only [hi]
    rw [aguard_iff]
    -- what k leaves, and the rest
    have step : ∀ (v : AVal) (lds' : List (Nat × (AHeap → Prop))), wantd ops ok s = some true → aval P ok (aev s.fr) s.η = some v → (∀ q, q ∈ lds' ↔ q ∈ lds ∨ (isLd ok.op = true ∧ q = (k, fun η => aval P ok (aev s.fr) η = some v))) →
        adr P ops T (i :: (l1 ++ l2)) lds' K (s.put ok.dst v) → (wantd ops oi s = some true ∧ (if isChg oi.op then achg P oi (aev s.fr) s.η s.n fun v η' n' => (∀ q ∈ lds, (T.getD i []).contains q.1 = false → q.2 η') ∧ adr P ops T (k :: l1 ++ l2) lds K ({ s with η := η', n := n' }.put oi.dst v)
         else match aval P oi (aev s.fr) s.η with
          | some v => adr P ops T (k :: l1 ++ l2) (if isLd oi.op then (i, fun η => aval P oi (aev s.fr) η = some v) :: lds else lds) K (s.put oi.dst v)
          | none => False)) ∨ (wantd ops oi s = some false ∧ adr P ops T (k :: l1 ++ l2) lds K (s.put oi.dst (.tup []))) := fun v lds' hw hv hlds hh => by
      rw [adr] at hh
      simp only [hi] at hh
      rw [aguard_iff, wantd_put (fun t ht => a1 t ht)] at hh
      have hev := ev_put (y := oi) (s := s) (v := v) (ops := ops) (d := ok.dst) (fun t ht => a1 t ht)
      obtain ⟨pη, pn⟩ := AState.put_η (s := s) (d := ok.dst) (v := v)
      -- k behind i
      have again : ∀ (u : AVal) (η' : AHeap) (n' : Nat) (lds2 : List (Nat × (AHeap → Prop))), aval P ok (aev s.fr) η' = some v → adr P ops T (l1 ++ l2) (if isLd ok.op then (k, fun η => aval P ok (aev s.fr) η = some v) :: lds2 else lds2) K (({ s.put ok.dst v with η := η', n := n' } : AState).put oi.dst u) →
          adr P ops T (k :: l1 ++ l2) lds2 K (({ s with η := η', n := n' } : AState).put oi.dst u) := fun u η' n' lds2 hv' hr => by
        have hev2 := ev_put (y := ok) (s := { s with η := η', n := n' }) (v := u) (ops := ops) (d := oi.dst) (fun t ht => a3 t ht)
        obtain ⟨qη, _⟩ := AState.put_η (s := { s with η := η', n := n' }) (d := oi.dst) (v := u)
        rw [List.cons_append, adr]
        simp only [hk]
        rw [aguard_iff, wantd_put (fun t ht => a3 t ht)]
        refine Or.inl ⟨hw, ?_⟩
        rw [if_neg (by simp [hch])]
        have e1 : ∀ η, aval P ok (aev (({ s with η := η', n := n' } : AState).put oi.dst u).fr) η = aval P ok (aev s.fr) η := fun η => aval_congr hev2
        rw [qη]
        simp only [e1, hv']
        rw [AState.put_comm (fun x hx => a2' x hx)]
        rw [AState.put_heap] at hr
        exact hr
      rcases hh with ⟨h1, h2⟩ | ⟨h1, h2⟩
      · refine Or.inl ⟨h1, ?_⟩
        by_cases hci : isChg oi.op = true
        · rw [if_pos hci] at h2 ⊢
          rw [achg_congr hev, pη, pn] at h2
          refine achg_mono (fun u η' n' ⟨k1, k2⟩ => ⟨fun q hq => k1 q ((hlds q).2 (Or.inl hq)), again u η' n' lds ?_ (adr_lds _ _ _ _ (fun q hq => ?_) k2)⟩) h2
          · by_cases hL : isLd ok.op = true
            · exact k1 _ ((hlds _).2 (Or.inr ⟨hL, rfl⟩)) hT
            · rw [aval_heap (by simpa using hL), hv]
          · split at hq
            · rename_i hL
              rcases List.mem_cons.1 hq with rfl | hq
              · exact (hlds _).2 (Or.inr ⟨hL, rfl⟩)
              · exact (hlds _).2 (Or.inl hq)
            · exact (hlds _).2 (Or.inl hq)
        · rw [if_neg hci] at h2 ⊢
          have e2 : ∀ η, aval P oi (aev (s.put ok.dst v).fr) η = aval P oi (aev s.fr) η := fun η => aval_congr hev
          rw [pη] at h2
          simp only [e2] at h2
          split
          · rename_i u hu
            simp only [hu] at h2
            refine again u s.η s.n _ hv (adr_lds _ _ _ _ (fun q hq => ?_) (by
              have e3 : ({ s.put ok.dst v with η := s.η, n := s.n } : AState) = s.put ok.dst v := by rw [AState.put_heap]
              rw [e3]; exact h2))
            have inl : ∀ q ∈ lds, q ∈ (if isLd oi.op then (i, fun η => aval P oi (aev s.fr) η = some u) :: lds' else lds') := fun q hq => by
              split
              · exact List.mem_cons_of_mem _ ((hlds q).2 (Or.inl hq))
              · exact (hlds q).2 (Or.inl hq)
            have ini : ∀ q, q ∈ (if isLd oi.op then (i, fun η => aval P oi (aev s.fr) η = some u) :: lds else lds) → q ∈ (if isLd oi.op then (i, fun η => aval P oi (aev s.fr) η = some u) :: lds' else lds') := fun q hq => by
              split at hq
              · rename_i hL
                rw [if_pos hL]
                rcases List.mem_cons.1 hq with rfl | hq
                · exact List.mem_cons_self
                · exact List.mem_cons_of_mem _ ((hlds q).2 (Or.inl hq))
              · rename_i hL; rw [if_neg hL]; exact (hlds q).2 (Or.inl hq)
            split at hq
            · rename_i hL
              rcases List.mem_cons.1 hq with rfl | hq
              · have : (k, fun η => aval P ok (aev s.fr) η = some v) ∈ lds' := (hlds _).2 (Or.inr ⟨hL, rfl⟩)
                split
                · exact List.mem_cons_of_mem _ this
                · exact this
              · exact ini q hq
            · exact ini q hq
          · rename_i hu; simp only [hu] at h2
      · refine Or.inr ⟨h1, ?_⟩
        have e3 : ({ s.put ok.dst v with η := s.η, n := s.n } : AState) = s.put ok.dst v := by rw [AState.put_heap]
        refine again (.tup []) s.η s.n lds hv (adr_lds _ _ _ _ (fun q hq => ?_) (by rw [e3]; exact h2))
        split at hq
        · rename_i hL
          rcases List.mem_cons.1 hq with rfl | hq
          · exact (hlds _).2 (Or.inr ⟨hL, rfl⟩)
          · exact (hlds _).2 (Or.inl hq)
        · exact (hlds _).2 (Or.inl hq)
    rcases h with ⟨h1, h2⟩ | ⟨h1, h2⟩
    · rw [if_neg (by simp [hch])] at h2
      split at h2
      · rename_i v hv
        have := adr_front hi l1 _ _ (fun q hq => hl q (by simp [hq])) h2
        refine step v _ h1 hv (fun q => ?_) this
        split
        · rename_i hL; simp [hL, or_comm]
        · rename_i hL; simp [hL]
      · exact h2.elim
    · -- k is passed over
      have hh := adr_front hi l1 _ _ (fun q hq => hl q (by simp [hq])) h2
      rw [adr] at hh
      simp only [hi] at hh
      rw [aguard_iff, wantd_put (fun t ht => a1 t ht)] at hh
      have hev := ev_put (y := oi) (s := s) (v := .tup []) (ops := ops) (d := ok.dst) (fun t ht => a1 t ht)
      obtain ⟨pη, pn⟩ := AState.put_η (s := s) (d := ok.dst) (v := .tup [])
      have again : ∀ (u : AVal) (η' : AHeap) (n' : Nat) (lds2 : List (Nat × (AHeap → Prop))), adr P ops T (l1 ++ l2) lds2 K (({ s.put ok.dst (.tup []) with η := η', n := n' } : AState).put oi.dst u) →
          adr P ops T (k :: l1 ++ l2) lds2 K (({ s with η := η', n := n' } : AState).put oi.dst u) := fun u η' n' lds2 hr => by
        rw [List.cons_append, adr]
        simp only [hk]
        rw [aguard_iff, wantd_put (fun t ht => a3 t ht)]
        refine Or.inr ⟨h1, ?_⟩
        rw [AState.put_comm (fun x hx => a2' x hx)]
        rw [AState.put_heap] at hr
        exact hr
      have e3 : ({ s.put ok.dst (.tup []) with η := s.η, n := s.n } : AState) = s.put ok.dst (.tup []) := by rw [AState.put_heap]
      rcases hh with ⟨g1, g2⟩ | ⟨g1, g2⟩
      · refine Or.inl ⟨g1, ?_⟩
        by_cases hci : isChg oi.op = true
        · rw [if_pos hci] at g2 ⊢
          rw [achg_congr hev, pη, pn] at g2
          exact achg_mono (fun u η' n' ⟨k1, k2⟩ => ⟨k1, again u η' n' lds k2⟩) g2
        · rw [if_neg hci] at g2 ⊢
          have e2 : ∀ η, aval P oi (aev (s.put ok.dst (.tup [])).fr) η = aval P oi (aev s.fr) η := fun η => aval_congr hev
          rw [pη] at g2
          simp only [e2] at g2
          split
          · rename_i u hu
            simp only [hu] at g2
            exact again u s.η s.n _ (by rw [e3]; exact g2)
          · rename_i hu; simp only [hu] at g2
      · exact Or.inr ⟨g1, again (.tup []) s.η s.n lds (by rw [e3]; exact g2)⟩

theorem adr_any {κ : Kap} {Q : Exit → Act → World → Prop} (hQ : ∀ s a w, K s → RelE κ s a w → Q .normal a w) (hcl : closedT ops T = true) : ∀ (m : Nat) (l : List Nat) (listed : Array Bool) (lds : List (Nat × (AHeap → Prop))) (s : AState) (a : Act) (w : World),
    l.length = m → (∀ i, i < ops.size → (i ∈ l ↔ listed.getD i true = false)) → (∀ i ∈ l, i < ops.size) → listed.size = ops.size → (∀ j, j < ops.size → j ∉ l → ∀ k, (T.getD j []).contains k = true → k ∉ l) →
    (∀ l1 i l2, l = l1 ++ i :: l2 → ∃ oi, ops[i]? = some oi ∧ i ∉ l1 ∧ i ∉ l2 ∧ (∀ e ∈ oi.after, Region.binds .any e = true → e.on < ops.size ∧ e.on ∉ i :: l2) ∧ ∀ k ∈ l1, (T.getD i []).contains k = true ∨ ∃ ok, ops[k]? = some ok ∧ ok.apart ops oi = true ∧ isChg ok.op = false) →
    RelE κ s a w → adr P ops T l lds K s → wpAny P .any ops Q m listed a w
  | m, l, listed, lds, s, a, w, hm, hl, hlt, hsz, hD, hC, hr, h => by
    have hready : ∀ i, i ∈ Region.ready .any ops listed → i ∈ l ∧ ∃ o, ops[i]? = some o ∧ ∀ e ∈ o.after, Region.binds .any e = true → listed.getD e.on false = true := fun i hi => by
      obtain ⟨h1, o, ho, h2⟩ := mem_ready.1 hi
      have hio : i < ops.size := (Array.getElem?_eq_some_iff.1 ho).1
      exact ⟨(hl i hio).2 h1, o, ho, h2⟩
    have hfirst : ∀ i l', l = i :: l' → i ∈ Region.ready .any ops listed := fun i l' e => by
      obtain ⟨oi, ho, _, _, h3, _⟩ := hC [] i l' e
      refine mem_ready.2 ⟨(hl i (hlt i (by rw [e]; simp))).1 (by rw [e]; simp), oi, ho, fun ed hed hb => ?_⟩
      obtain ⟨k1, k2⟩ := h3 ed hed hb
      have hnl : ed.on ∉ l := by rw [e]; exact k2
      have hx : ¬ (listed.getD ed.on true = false) := fun hx => hnl ((hl ed.on k1).2 hx)
      have e1 : listed.getD ed.on true = listed.getD ed.on false := by
        rw [Array.getD_eq_getD_getElem?, Array.getD_eq_getD_getElem?, Array.getElem?_eq_getElem (by omega)]; rfl
      rw [← e1]; simpa using hx
    have hnil : Region.ready .any ops listed = [] → Q .normal a w := fun h0 => by
      cases l with
      | nil => exact hQ s a w h hr
      | cons i l' => have := hfirst i l' rfl; rw [h0] at this; simp at this
    cases m with
    | zero =>
      obtain rfl : l = [] := List.eq_nil_of_length_eq_zero hm
      refine ⟨?_, hQ s a w h hr⟩
      cases hrd : Region.ready .any ops listed with
      | nil => rfl
      | cons i r => have := (hready i (by rw [hrd]; simp)).1; simp at this
    | succ m =>
      refine ⟨hnil, fun i hi => ?_⟩
      obtain ⟨hil, o, ho, hpre⟩ := hready i hi
      have hio : i < ops.size := (Array.getElem?_eq_some_iff.1 ho).1
      obtain ⟨l1, l2, e⟩ := List.append_of_mem hil
      obtain ⟨oi, ho', n1, n2, h3, h4⟩ := hC l1 i l2 e
      rw [ho] at ho'; cases ho'
      have hpreT : ∀ k, (T.getD i []).contains k = true → k ∉ l := fun k hk => by
        have hcl' := List.all_eq_true.1 hcl i (List.mem_range.2 hio)
        simp only [ho] at hcl'
        have hc := List.all_eq_true.1 hcl' k (by simpa using hk)
        obtain ⟨ed, hed, hb⟩ := List.any_eq_true.1 hc
        simp only [Bool.and_eq_true, Bool.or_eq_true, beq_iff_eq] at hb
        obtain ⟨hb1, hb2⟩ := hb
        have hlisted := hpre ed (by simpa using hed) hb1
        obtain ⟨k1, _⟩ := h3 ed (by simpa using hed) hb1
        have hon : ed.on ∉ l := fun hin => by
          have := (hl ed.on k1).1 hin
          have e1 : listed.getD ed.on true = listed.getD ed.on false := by
            rw [Array.getD_eq_getD_getElem?, Array.getD_eq_getD_getElem?, Array.getElem?_eq_getElem (by omega)]; rfl
          rw [e1, hlisted] at this; cases this
        rcases hb2 with rfl | hb2
        · exact hon
        · exact hD ed.on k1 hon k hb2
      have hf : adr P ops T (i :: (l1 ++ l2)) lds K s := by
        refine adr_front ho l1 lds s (fun k hk => ?_) (by rw [← e]; exact h)
        have hT : (T.getD i []).contains k = false := by
          cases hc : (T.getD i []).contains k with
          | false => rfl
          | true => exact absurd (by rw [e]; simp [hk]) (hpreT k hc)
        refine ⟨hT, ?_⟩
        rcases h4 k hk with g | g
        · rw [hT] at g; cases g
        · exact g
      rw [adr] at hf
      simp only [ho] at hf
      -- what is left
      have hmem : ∀ j, j ∈ l1 ++ l2 ↔ j ∈ l ∧ j ≠ i := fun j => by
        rw [e]
        simp only [List.mem_append, List.mem_cons]
        constructor
        · rintro (h | h)
          · exact ⟨Or.inl h, fun e => n1 (e ▸ h)⟩
          · exact ⟨Or.inr (Or.inr h), fun e => n2 (e ▸ h)⟩
        · rintro ⟨h | h | h, hne⟩
          · exact Or.inl h
          · exact absurd h hne
          · exact Or.inr h
      have go : ∀ (lds' : List (Nat × (AHeap → Prop))) (s' : AState) (a' : Act) (w' : World), RelE κ s' a' w' → adr P ops T (l1 ++ l2) lds' K s' → wpAny P .any ops Q m (listed.setIfInBounds i true) a' w' := fun lds' s' a' w' hr' hh => by
        refine adr_any hQ hcl m (l1 ++ l2) (listed.setIfInBounds i true) lds' s' a' w' ?_ ?_ ?_ ?_ ?_ ?_ hr' hh
        · rw [e] at hm; simp at hm ⊢; omega
        · intro j hj
          by_cases hji : j = i
          · subst hji
            constructor
            · intro hin; exact absurd rfl ((hmem j).1 hin).2
            · intro hin
              have : (listed.setIfInBounds j true).getD j true = true := by rw [Array.getD_eq_getD_getElem?, Array.getElem?_setIfInBounds]; simp; split <;> rfl
              rw [this] at hin; cases hin
          · rw [hmem, getD_set_ne true (Ne.symm hji), hl j hj]
            exact ⟨fun h => h.1, fun h => ⟨h, hji⟩⟩
        · exact fun j hj => hlt j ((hmem j).1 hj).1
        · simpa using hsz
        · intro j hj hjn k hk hin
          by_cases hji : j = i
          · subst hji; exact hpreT k hk ((hmem k).1 hin).1
          · exact hD j hj (fun h => hjn ((hmem j).2 ⟨h, hji⟩)) k hk ((hmem k).1 hin).1
        · intro m1 j m2 hm12
          rcases List.append_eq_append_iff.1 hm12 with ⟨c, hc1, hc2⟩ | ⟨c, hc1, hc2⟩
          · -- j lies in l2
            subst hc1
            obtain ⟨oj, q1, q2, q3, q4, q5⟩ := hC (l1 ++ i :: c) j m2 (by rw [e, hc2]; simp)
            refine ⟨oj, q1, fun hin => q2 ?_, q3, q4, fun k hk => q5 k ?_⟩
            · rcases List.mem_append.1 hin with h | h
              · simp [h]
              · simp [h]
            · rcases List.mem_append.1 hk with h | h
              · simp [h]
              · simp [h]
          · cases c with
            | nil =>
              simp at hc1 hc2
              subst hc1
              obtain ⟨oj, q1, q2, q3, q4, q5⟩ := hC (l1 ++ [i]) j m2 (by rw [e, ← hc2]; simp)
              exact ⟨oj, q1, fun hin => q2 (by simp [hin]), q3, q4, fun k hk => q5 k (by simp [hk])⟩
            | cons x c =>
              simp only [List.cons_append, List.cons.injEq] at hc2
              obtain ⟨rfl, hc2⟩ := hc2
              subst hc1
              obtain ⟨oj, q1, q2, q3, q4, q5⟩ := hC m1 j (c ++ i :: l2) (by rw [e]; simp)
              refine ⟨oj, q1, q2, fun hin => q3 ?_, fun ed hed hb => ⟨(q4 ed hed hb).1, fun hin => (q4 ed hed hb).2 ?_⟩, q5⟩
              · rw [hc2] at hin
                rcases List.mem_append.1 hin with h | h
                · simp [h]
                · simp [h]
              · rw [hc2] at hin
                rcases List.mem_cons.1 hin with h | h
                · simp [h]
                · rcases List.mem_append.1 h with h | h
                  · simp [h]
                  · simp [h]
      unfold wpOp
      rw [ho]
      simp only
      rcases aguard_sound hr hf with ⟨g1, g2⟩ | ⟨g1, g2⟩
      · rw [if_pos g1]
        refine Or.inl ?_
        obtain ⟨own, M, hR⟩ := hr
        split at g2
        · refine achg_sound hR.st (aev_sound hR.fr) g2 fun u w' ho' => ?_
          obtain ⟨v, η', n', k1, k2⟩ := hR.out ho' o.dst
          exact go _ _ _ w' k2 k1.2
        · split at g2
          · rename_i v hv
            obtain ⟨u, k1, k2⟩ := aval_sound hR.st (aev_sound hR.fr) hv
            unfold Oper.wp
            rw [k1]
            exact go _ _ _ w ⟨own, M, hR.put o.dst k2⟩ g2
          · exact g2.elim
      · rw [if_neg (by rw [g1]; simp)]
        obtain ⟨own, M, hR⟩ := hr
        exact go _ _ _ w ⟨own, M, hR.put _ vr_skip⟩ g2

theorem canonGo_spec : ∀ (l ahead : List Nat), canonGo ops T ahead l = true → (∀ i ∈ l, i < ops.size ∧ i ∉ ahead) ∧ l.Nodup ∧
    ∀ l1 i l2, l = l1 ++ i :: l2 → ∃ oi, ops[i]? = some oi ∧ (∀ e ∈ oi.after, Region.binds .any e = true → e.on < ops.size ∧ (e.on ∈ ahead ∨ e.on ∈ l1)) ∧ ∀ k ∈ l1, (T.getD i []).contains k = true ∨ ∃ ok, ops[k]? = some ok ∧ ok.apart ops oi = true ∧ isChg ok.op = false
  | [], ahead, _ => ⟨by simp, List.nodup_nil, fun l1 i l2 e => by simp at e⟩
  | x :: l, ahead, h => by
    simp only [canonGo, Bool.and_eq_true] at h
    obtain ⟨h1, h2⟩ := h
    obtain ⟨r1, r2, r3⟩ := canonGo_spec l (x :: ahead) h2
    cases hx : ops[x]? with
    | none => rw [hx] at h1; simp at h1
    | some o =>
      rw [hx] at h1
      simp only [Bool.and_eq_true] at h1
      obtain ⟨⟨a1, a2⟩, a3⟩ := h1
      have hxl : x < ops.size := (Array.getElem?_eq_some_iff.1 hx).1
      have hxa : x ∉ ahead := by simpa using a1
      have hpre : ∀ e ∈ o.after, Region.binds .any e = true → e.on < ops.size ∧ e.on ∈ ahead := fun e he hb => by
        have := List.all_eq_true.1 a2 e (by simpa using he)
        simp [hb] at this
        exact ⟨this.2, this.1⟩
      refine ⟨fun i hi => ?_, List.nodup_cons.2 ⟨fun hi => (r1 x hi).2 (by simp), r2⟩, fun l1 i l2 e => ?_⟩
      · rcases List.mem_cons.1 hi with rfl | hi
        · exact ⟨hxl, hxa⟩
        · exact ⟨(r1 i hi).1, fun h => (r1 i hi).2 (by simp [h])⟩
      · cases l1 with
        | nil =>
          simp at e
          obtain ⟨rfl, rfl⟩ := e
          exact ⟨o, hx, fun e he hb => ⟨(hpre e he hb).1, Or.inl (hpre e he hb).2⟩, by simp⟩
        | cons y l1 =>
          simp at e
          obtain ⟨rfl, e⟩ := e
          obtain ⟨oi, q1, q2, q3⟩ := r3 l1 i l2 e
          refine ⟨oi, q1, fun ed hed hb => ⟨(q2 ed hed hb).1, ?_⟩, fun k hk => ?_⟩
          · rcases (q2 ed hed hb).2 with h | h
            · rcases List.mem_cons.1 h with rfl | h
              · exact Or.inr (by simp)
              · exact Or.inl h
            · exact Or.inr (by simp [h])
          · rcases List.mem_cons.1 hk with rfl | hk
            · -- k came up when i was looked at
              have hcg : ∀ (l1 ahead : List Nat), canonGo ops T ahead (l1 ++ i :: l2) = true → k ∈ ahead → (T.getD i []).contains k = true ∨ ∃ ok, ops[k]? = some ok ∧ ok.apart ops oi = true ∧ isChg ok.op = false := by
                intro l1
                induction l1 with
                | nil =>
                  intro ahead hg hk
                  simp only [List.nil_append, canonGo, Bool.and_eq_true, q1] at hg
                  have := List.all_eq_true.1 hg.1.2 k hk
                  simp only [Bool.or_eq_true] at this
                  rcases this with h | h
                  · exact Or.inl h
                  · cases hk2 : ops[k]? with
                    | none => rw [hk2] at h; simp at h
                    | some ok =>
                      rw [hk2] at h
                      simp only [Bool.and_eq_true, Bool.not_eq_true'] at h
                      exact Or.inr ⟨ok, rfl, h.1, h.2⟩
                | cons y l1 ih =>
                  intro ahead hg hk
                  simp only [List.cons_append, canonGo, Bool.and_eq_true] at hg
                  exact ih (y :: ahead) hg.2 (by simp [hk])
              exact hcg l1 (k :: ahead) (by rw [← e]; exact h2) (by simp)
            · exact q3 k hk

theorem nodup_bound : ∀ (n : Nat) (l : List Nat), l.Nodup → (∀ x ∈ l, x < n) → l.length ≤ n
  | 0, l, _, h => by
    cases l with
    | nil => simp
    | cons x l => have := h x (by simp); omega
  | n + 1, l, hn, h => by
    by_cases hm : n ∈ l
    · have := nodup_bound n (l.erase n) (hn.erase n) (fun x hx => by
        have h1 := h x (List.mem_of_mem_erase hx)
        have h2 : x ≠ n := fun e => by subst e; exact (List.Nodup.not_mem_erase hn) hx
        omega)
      rw [List.length_erase_of_mem hm] at this; omega
    · have := nodup_bound n l hn (fun x hx => by
        have h1 := h x hx
        have h2 : x ≠ n := fun e => by subst e; exact hm hx
        omega)
      omega
theorem nodup_all (n : Nat) (l : List Nat) (hn : l.Nodup) (h : ∀ x ∈ l, x < n) (hl : l.length = n) (i : Nat) (hi : i < n) : i ∈ l := by
  by_cases hm : i ∈ l
  · exact hm
  · have := nodup_bound n (i :: l) (List.nodup_cons.2 ⟨hm, hn⟩) (fun x hx => by
      rcases List.mem_cons.1 hx with rfl | hx
      · exact hi
      · exact h x hx)
    simp at this; omega

/-- A region that draws its order, by one order that fits. -/
theorem DrawP.intro {id : Nat} {Q : Exit → AState → Prop} {s : AState} (hm : P.follows .mixedOrders = true) (l : List Nat) (hl : canonOK ops l = true) (h : adr P ops (preT ops) l [] (Q .normal) s) : DrawP P id ops Q s := by
  intro κ a w hr
  unfold canonOK at hl
  simp only [Bool.and_eq_true, beq_iff_eq] at hl
  obtain ⟨hcl, hlen, hgo⟩ := hl
  obtain ⟨c1, c2, c3⟩ := canonGo_spec l [] hgo
  have hall : ∀ i, i < ops.size → i ∈ l := fun i hi => nodup_all ops.size l c2 (fun x hx => (c1 x hx).1) hlen i hi
  refine wp_region_any hm ?_
  obtain ⟨own, M, hR⟩ := hr
  have hr' : RelE κ s a { w with drawn := w.drawn + 1 } := ⟨own, M, hR.st.drawn _, hR.fr, hR.nt, DF.keep (w := w) (w' := { w with drawn := w.drawn + 1 }) (fun _ h => h) hR.df, hR.le, hR.mle, hR.frm.trans (Fr.drewN κ.D w _) fun _ _ h => h, hR.ob, hR.n⟩
  refine adr_any (K := Q .normal) (Q := Lift κ Q) (fun s a w hK hR => ⟨s, hK, hR⟩) hcl ops.size l (Array.replicate ops.size false) [] s a _ hlen (fun i hi => ?_) (fun i hi => (c1 i hi).1) (by simp) (fun j hj hn => absurd (hall j hj) hn) (fun l1 i l2 e => ?_) hr' h
  · have : (Array.replicate ops.size false).getD i true = false := by simp [Array.getD_eq_getD_getElem?, hi]
    simp [this, hall i hi]
  · obtain ⟨oi, q1, q2, q3⟩ := c3 l1 i l2 e
    have hnd := c2
    rw [e] at hnd
    have h1 := List.nodup_append.1 hnd
    have h2 := List.nodup_cons.1 h1.2.1
    refine ⟨oi, q1, fun hin => h1.2.2 i hin i (by simp) rfl, h2.1, fun ed hed hb => ⟨(q2 ed hed hb).1, fun hin => ?_⟩, q3⟩
    rcases (q2 ed hed hb).2 with h | h
    · simp at h
    · exact h1.2.2 ed.on h ed.on hin rfl
end
end Go.Proofs.YtbomkomipaipmaaGreat
namespace Go.Proofs.YtbomkomipaipmaaGreat

section
variable (P : Program)
/-- as 'adr', but each place says which loads ahead of it must not turn -/
def adrU (ops : Array Oper) : List (Nat × List Nat) → List (Nat × (AHeap → Prop)) → (AState → Prop) → AState → Prop
  | [], _, K, s => K s
  | (i, u) :: l, lds, K, s => match ops[i]? with
    | none => False
    | some o => aguard ops o s
        (if isChg o.op then achg P o (aev s.fr) s.η s.n fun v η' n' => (∀ q ∈ lds, u.contains q.1 = true → q.2 η') ∧ adrU ops l lds K ({ s with η := η', n := n' }.put o.dst v)
         else match aval P o (aev s.fr) s.η with
          | some v => adrU ops l (if isLd o.op then (i, fun η => aval P o (aev s.fr) η = some v) :: lds else lds) K (s.put o.dst v)
          | none => False)
        (adrU ops l lds K (s.put o.dst (.tup [])))
end
def atB (ops : Array Oper) (i : Nat) (p : Op → Bool) : Bool := match ops[i]? with
  | some o => p o.op
  | none => false
def canonU (ops : Array Oper) (T : Array (List Nat)) : List Nat → List (Nat × List Nat) → Bool
  | _, [] => true
  | ahead, (i, u) :: l => (!(atB ops i isChg) || ahead.all fun k => !(atB ops k isLd) || (T.getD i []).contains k || u.contains k) && canonU ops T (i :: ahead) l

section
variable {P : Program}
theorem adr_of_U {ops : Array Oper} {T : Array (List Nat)} {K : AState → Prop} : ∀ (l : List (Nat × List Nat)) (ahead : List Nat) (lds : List (Nat × (AHeap → Prop))) (s : AState), canonU ops T ahead l = true → (∀ q ∈ lds, q.1 ∈ ahead ∧ atB ops q.1 isLd = true) → adrU P ops l lds K s → adr P ops T (l.map (·.1)) lds K s
  | [], _, _, _, _, _, h => h
  | (i, u) :: l, ahead, lds, s, hc, hl, h => by
    simp only [canonU, Bool.and_eq_true] at hc
    rw [adrU] at h
    rw [List.map_cons, adr]
    cases ho : ops[i]? with
    | none => simp only [ho] at h
    | some o =>
      simp only [ho] at h ⊢
      rw [aguard_iff] at h ⊢
      rcases h with ⟨h1, h2⟩ | ⟨h1, h2⟩
      · refine Or.inl ⟨h1, ?_⟩
        split
        · rename_i hch
          rw [if_pos hch] at h2
          refine achg_mono (fun v η n ⟨k1, k2⟩ => ⟨fun q hq hT => k1 q hq ?_, adr_of_U l (i :: ahead) lds _ hc.2 (fun q hq => ⟨by simp [(hl q hq).1], (hl q hq).2⟩) k2⟩) h2
          have h3 := hc.1
          have hci : atB ops i isChg = true := by unfold atB; rw [ho]; exact hch
          simp only [hci, Bool.not_true, Bool.false_or] at h3
          have := List.all_eq_true.1 h3 q.1 (hl q hq).1
          rw [hT, (hl q hq).2] at this
          simpa using this
        · rename_i hch
          rw [if_neg hch] at h2
          split
          · rename_i v hv
            simp only [hv] at h2
            refine adr_of_U l (i :: ahead) _ _ hc.2 (fun q hq => ?_) h2
            split at hq
            · rename_i hL
              rcases List.mem_cons.1 hq with rfl | hq
              · exact ⟨by simp, by unfold atB; rw [ho]; exact hL⟩
              · exact ⟨by simp [(hl q hq).1], (hl q hq).2⟩
            · exact ⟨by simp [(hl q hq).1], (hl q hq).2⟩
          · rename_i hv; simp only [hv] at h2
      · exact Or.inr ⟨h1, adr_of_U l (i :: ahead) lds _ hc.2 (fun q hq => ⟨by simp [(hl q hq).1], (hl q hq).2⟩) h2⟩

def canonA (ops : Array Oper) (l : List (Nat × List Nat)) : Bool := canonOK ops (l.map (·.1)) && canonU ops (preT ops) [] l

/-- which loads must not turn -/
def chkK (lds : List (Nat × (AHeap → Prop))) (u : List Nat) (η : AHeap) : Prop := ∀ q ∈ lds, u.contains q.1 = true → q.2 η
def drK (P : Program) (ops : Array Oper) (l : List (Nat × List Nat)) (lds : List (Nat × (AHeap → Prop))) (s : AState) (K : AState → Prop) (_ : Tag ops) (_ : Tag lds) (_ : Tag K) : Prop := adrU P ops l lds K s
def drC (P : Program) (ops : Array Oper) (o : Oper) (i : Nat) (u : List Nat) (l : List (Nat × List Nat)) (lds : List (Nat × (AHeap → Prop))) (s : AState) (K : AState → Prop) (_ : Tag ops) (_ : Tag o) (_ : Tag lds) (_ : Tag K) : Prop :=
  if isChg o.op then achg P o (aev s.fr) s.η s.n fun v η' n' => chkK lds u η' ∧ adrU P ops l lds K ({ s with η := η', n := n' }.put o.dst v)
  else match aval P o (aev s.fr) s.η with
    | some v => adrU P ops l (if isLd o.op then (i, fun η => aval P o (aev s.fr) η = some v) :: lds else lds) K (s.put o.dst v)
    | none => False
def atK (ops : Array Oper) (i : Nat) (K : Oper → Prop) (_ : Tag ops) (_ : Tag K) : Prop := match ops[i]? with
  | some o => K o
  | none => False
@[simp] theorem atK_zero (o : Oper) (l : List Oper) (K : Oper → Prop) (g : Tag (o :: l).toArray) (g' : Tag K) : atK (o :: l).toArray 0 K g g' = K o := by simp [atK]
@[simp] theorem atK_lit (o : Oper) (l : List Oper) (j : Nat) [h : NeZero j] (K : Oper → Prop) (g : Tag (o :: l).toArray) (g' : Tag K) : atK (o :: l).toArray j K g g' = atK l.toArray (j - 1) K .mk .mk := by
  obtain ⟨j, rfl⟩ : ∃ k, j = k + 1 := ⟨j - 1, by have := h.out; omega⟩
  simp [atK]

/-- the rule: an order (each place with the loads that must not turn there) -/
theorem drawK.intro {id : Nat} {ops : Array Oper} {s : AState} {Q : Exit → AState → Prop} {g : Tag ops} {g' : Tag Q} (hm : P.follows .mixedOrders = true) (l : List (Nat × List Nat)) (hl : canonA ops l = true) (h : drK P ops l [] s (Q .normal) .mk .mk .mk) : drawK P id ops s Q g g' := by
  unfold canonA at hl
  simp only [Bool.and_eq_true] at hl
  exact DrawP.intro hm (l.map (·.1)) hl.1 (adr_of_U l [] [] s hl.2 (by simp) h)

variable (ops : Array Oper) (gops : Tag ops) (lds : List (Nat × (AHeap → Prop))) (gl : Tag lds) (s : AState) (K : AState → Prop) (gK : Tag K)
@[simp] theorem dr_nil : drK P ops [] lds s K gops gl gK = K s := _root_.id rfl
def drG (P : Program) (ops : Array Oper) (o : Oper) (i : Nat) (u : List Nat) (l : List (Nat × List Nat)) (lds : List (Nat × (AHeap → Prop))) (s : AState) (K : AState → Prop) (_ : Tag ops) (_ : Tag o) (_ : Tag lds) (_ : Tag K) : Prop :=
  aguard ops o s (drC P ops o i u l lds s K .mk .mk .mk .mk) (adrU P ops l lds K (s.put o.dst (.tup [])))
@[simp] theorem dr_cons (i : Nat) (u : List Nat) (l : List (Nat × List Nat)) : drK P ops ((i, u) :: l) lds s K gops gl gK = atK ops i (fun o => drG P ops o i u l lds s K .mk .mk .mk .mk) .mk .mk := by
  unfold drK atK drG drC chkK
  rw [adrU]
  cases ops[i]? <;> rfl
variable (d : Option Tmp) (ty : TypeId) (ps : String) (af : Array Edge) (gd : Option (Nat × Bool)) (op : Op) (i : Nat) (u : List Nat) (l : List (Nat × List Nat))
@[simp] theorem dg_none (g : Tag (⟨d, op, ty, ps, af, none⟩ : Oper)) : drG P ops ⟨d, op, ty, ps, af, none⟩ i u l lds s K gops g gl gK = drC P ops ⟨d, op, ty, ps, af, none⟩ i u l lds s K gops g gl gK := _root_.id rfl
@[simp] theorem dg_some (j : Nat) (b : Bool) (g : Tag (⟨d, op, ty, ps, af, some (j, b)⟩ : Oper)) : drG P ops ⟨d, op, ty, ps, af, some (j, b)⟩ i u l lds s K gops g gl gK =
    guardK (dstOf ops j .mk) s.fr b (drC P ops ⟨d, op, ty, ps, af, some (j, b)⟩ i u l lds s K gops g gl gK) (putK s d (.tup []) (fun s' => drK P ops l lds s' K .mk .mk .mk) .mk) .mk .mk := by
  unfold drG guardK dstOf aguard
  simp only
  cases (ops[j]?).bind (·.dst) with
  | none => rfl
  | some d =>
    simp only
    unfold tstK
    cases s.fr d with
    | bool t => cases b <;> cases t <;> simp [putK, drK, CondP]
    | tup l => cases l <;> rfl
    | _ => rfl
/-- an operation that only looks: its own rule, and it is noted if it loads -/
theorem dc_val (g : Tag (⟨d, op, ty, ps, af, gd⟩ : Oper)) (h1 : isChg op = false) {v : Option AVal} (hv : ∀ η, aval P ⟨d, op, ty, ps, af, gd⟩ (aev s.fr) η = v) (h2 : isLd op = false) : drC P ops ⟨d, op, ty, ps, af, gd⟩ i u l lds s K gops g gl gK = optK v (fun v => putK s d v (fun s' => drK P ops l lds s' K .mk .mk .mk) .mk) False .mk .mk := by
  unfold drC optK putK drK
  simp only [h1, hv, h2, Bool.false_eq_true, if_false]
  cases v <;> rfl
theorem dc_ld (g : Tag (⟨d, op, ty, ps, af, gd⟩ : Oper)) (h1 : isChg op = false) {V : AHeap → Option AVal} (hv : ∀ η, aval P ⟨d, op, ty, ps, af, gd⟩ (aev s.fr) η = V η) (h2 : isLd op = true) : drC P ops ⟨d, op, ty, ps, af, gd⟩ i u l lds s K gops g gl gK =
    optK (V s.η) (fun v => putK s d v (fun s' => drK P ops l ((i, fun η => V η = some v) :: lds) s' K .mk .mk .mk) .mk) False .mk .mk := by
  unfold drC optK putK drK
  simp only [h1, hv, h2, Bool.false_eq_true, if_false, if_true]
  cases V s.η <;> rfl
@[simp] theorem dc_move (x : Operand) (g : Tag (⟨d, .move x, ty, ps, af, gd⟩ : Oper)) : drC P ops ⟨d, .move x, ty, ps, af, gd⟩ i u l lds s K gops g gl gK = putK s d (aev s.fr x) (fun s' => drK P ops l lds s' K .mk .mk .mk) .mk := _root_.id rfl
@[simp] theorem dc_assign (x : Operand) (g : Tag (⟨d, .assign x, ty, ps, af, gd⟩ : Oper)) : drC P ops ⟨d, .assign x, ty, ps, af, gd⟩ i u l lds s K gops g gl gK = putK s d (aev s.fr x) (fun s' => drK P ops l lds s' K .mk .mk .mk) .mk := _root_.id rfl
@[simp] theorem dc_pick (c x y : Operand) (g : Tag (⟨d, .pick c x y, ty, ps, af, gd⟩ : Oper)) : drC P ops ⟨d, .pick c x y, ty, ps, af, gd⟩ i u l lds s K gops g gl gK = optK (pickK (aev s.fr c) (aev s.fr x) (aev s.fr y)) (fun v => putK s d v (fun s' => drK P ops l lds s' K .mk .mk .mk) .mk) False .mk .mk :=
  dc_val ops gops lds gl s K gK d ty ps af gd _ i u l g rfl (fun η => by simp only [aval, pickK]; cases aev s.fr c <;> rfl) rfl
@[simp] theorem dc_build (t : TypeId) (parts : List (Nat × Operand)) (g : Tag (⟨d, .build t parts.toArray, ty, ps, af, gd⟩ : Oper)) : drC P ops ⟨d, .build t parts.toArray, ty, ps, af, gd⟩ i u l lds s K gops g gl gK = optK (abuild P t (parts.map fun p => (p.1, acells (aev s.fr p.2)))) (fun v => putK s d v (fun s' => drK P ops l lds s' K .mk .mk .mk) .mk) False .mk .mk :=
  dc_val ops gops lds gl s K gK d ty ps af gd _ i u l g rfl (fun η => by simp only [aval]) rfl
@[simp] theorem dc_nilCheck (x : Operand) (g : Tag (⟨d, .nilCheck x, ty, ps, af, gd⟩ : Oper)) : drC P ops ⟨d, .nilCheck x, ty, ps, af, gd⟩ i u l lds s K gops g gl gK = optK (nilK (aev s.fr x)) (fun v => putK s d v (fun s' => drK P ops l lds s' K .mk .mk .mk) .mk) False .mk .mk :=
  dc_val ops gops lds gl s K gK d ty ps af gd _ i u l g rfl (fun η => by simp only [aval, nilK]; cases aev s.fr x <;> rfl) rfl
@[simp] theorem dc_binOp (o : BinOp) (t t' : TypeId) (x y : Operand) (g : Tag (⟨d, .binOp o t x y t', ty, ps, af, gd⟩ : Oper)) : drC P ops ⟨d, .binOp o t x y t', ty, ps, af, gd⟩ i u l lds s K gops g gl gK = optK (abinA P o t (aev s.fr x) (aev s.fr y)) (fun v => putK s d v (fun s' => drK P ops l lds s' K .mk .mk .mk) .mk) False .mk .mk :=
  dc_val ops gops lds gl s K gK d ty ps af gd _ i u l g rfl (fun η => by simp only [aval]) rfl
@[simp] theorem dc_unOp (o : UnOp) (t : TypeId) (x : Operand) (g : Tag (⟨d, .unOp o t x, ty, ps, af, gd⟩ : Oper)) : drC P ops ⟨d, .unOp o t x, ty, ps, af, gd⟩ i u l lds s K gops g gl gK = optK (aun o (aev s.fr x)) (fun v => putK s d v (fun s' => drK P ops l lds s' K .mk .mk .mk) .mk) False .mk .mk :=
  dc_val ops gops lds gl s K gK d ty ps af gd _ i u l g rfl (fun η => by simp only [aval]) rfl
@[simp] theorem dc_convert (a b : TypeId) (x : Operand) (g : Tag (⟨d, .convert a b x, ty, ps, af, gd⟩ : Oper)) : drC P ops ⟨d, .convert a b x, ty, ps, af, gd⟩ i u l lds s K gops g gl gK = optK (if (P.underlying a).isSome then aconv P b (aev s.fr x) else none) (fun v => putK s d v (fun s' => drK P ops l lds s' K .mk .mk .mk) .mk) False .mk .mk :=
  dc_val ops gops lds gl s K gK d ty ps af gd _ i u l g rfl (fun η => by simp only [aval]) rfl
@[simp] theorem dc_fieldAddr (t : TypeId) (x : Operand) (f : Nat) (g : Tag (⟨d, .fieldAddr t x f, ty, ps, af, gd⟩ : Oper)) : drC P ops ⟨d, .fieldAddr t x f, ty, ps, af, gd⟩ i u l lds s K gops g gl gK = optK (afield P t (aev s.fr x) f) (fun v => putK s d v (fun s' => drK P ops l lds s' K .mk .mk .mk) .mk) False .mk .mk :=
  dc_val ops gops lds gl s K gK d ty ps af gd _ i u l g rfl (fun η => by simp only [aval]) rfl
@[simp] theorem dc_field (t : TypeId) (x : Operand) (f : Nat) (g : Tag (⟨d, .field t x f, ty, ps, af, gd⟩ : Oper)) : drC P ops ⟨d, .field t x f, ty, ps, af, gd⟩ i u l lds s K gops g gl gK = optK (afldv P t (aev s.fr x) f) (fun v => putK s d v (fun s' => drK P ops l lds s' K .mk .mk .mk) .mk) False .mk .mk :=
  dc_val ops gops lds gl s K gK d ty ps af gd _ i u l g rfl (fun η => by simp only [aval]) rfl
@[simp] theorem dc_index (t : TypeId) (x y : Operand) (g : Tag (⟨d, .index t x y, ty, ps, af, gd⟩ : Oper)) : drC P ops ⟨d, .index t x y, ty, ps, af, gd⟩ i u l lds s K gops g gl gK = optK (aindexv P t (aev s.fr x) (aev s.fr y)) (fun v => putK s d v (fun s' => drK P ops l lds s' K .mk .mk .mk) .mk) False .mk .mk :=
  dc_val ops gops lds gl s K gK d ty ps af gd _ i u l g rfl (fun η => by simp only [aval]) rfl
@[simp] theorem dc_extract (x : Operand) (j : Nat) (g : Tag (⟨d, .extract x j, ty, ps, af, gd⟩ : Oper)) : drC P ops ⟨d, .extract x j, ty, ps, af, gd⟩ i u l lds s K gops g gl gK = optK (aextract (aev s.fr x) j) (fun v => putK s d v (fun s' => drK P ops l lds s' K .mk .mk .mk) .mk) False .mk .mk :=
  dc_val ops gops lds gl s K gK d ty ps af gd _ i u l g rfl (fun η => by simp only [aval]) rfl
@[simp] theorem dc_makeFunc (f : FuncId) (a b : Array Operand) (g : Tag (⟨d, .makeFunc (.func f) a b, ty, ps, af, gd⟩ : Oper)) : drC P ops ⟨d, .makeFunc (.func f) a b, ty, ps, af, gd⟩ i u l lds s K gops g gl gK = putK s d (.func f (a.toList.map (aev s.fr)) (b.toList.map (aev s.fr))) (fun s' => drK P ops l lds s' K .mk .mk .mk) .mk := _root_.id rfl
@[simp] theorem dc_load (t : TypeId) (x : Operand) (g : Tag (⟨d, .load t x, ty, ps, af, gd⟩ : Oper)) : drC P ops ⟨d, .load t x, ty, ps, af, gd⟩ i u l lds s K gops g gl gK = optK (aload P t (aev s.fr x) s.η) (fun v => putK s d v (fun s' => drK P ops l ((i, fun η => aload P t (aev s.fr x) η = some v) :: lds) s' K .mk .mk .mk) .mk) False .mk .mk :=
  dc_ld ops gops lds gl s K gK d ty ps af gd _ i u l g rfl (fun η => by simp only [aval]) rfl
@[simp] theorem dc_slice (t : TypeId) (x : Operand) (lo hi mx : Option Operand) (g : Tag (⟨d, .slice t x lo hi mx, ty, ps, af, gd⟩ : Oper)) : drC P ops ⟨d, .slice t x lo hi mx, ty, ps, af, gd⟩ i u l lds s K gops g gl gK =
    optK (asliceV P t (aev s.fr x) (lo.map (aev s.fr)) (hi.map (aev s.fr)) (mx.map (aev s.fr)) s.η) (fun v => putK s d v (fun s' => drK P ops l ((i, fun η => asliceV P t (aev s.fr x) (lo.map (aev s.fr)) (hi.map (aev s.fr)) (mx.map (aev s.fr)) η = some v) :: lds) s' K .mk .mk .mk) .mk) False .mk .mk :=
  dc_ld ops gops lds gl s K gK d ty ps af gd _ i u l g rfl (fun η => by simp only [aval]) rfl
@[simp] theorem dc_indexAddr (t : TypeId) (x y : Operand) (g : Tag (⟨d, .indexAddr t x y, ty, ps, af, gd⟩ : Oper)) : drC P ops ⟨d, .indexAddr t x y, ty, ps, af, gd⟩ i u l lds s K gops g gl gK =
    optK (aindex P t (aev s.fr x) (aev s.fr y) s.η) (fun v => putK s d v (fun s' => drK P ops l ((i, fun η => aindex P t (aev s.fr x) (aev s.fr y) η = some v) :: lds) s' K .mk .mk .mk) .mk) False .mk .mk :=
  dc_ld ops gops lds gl s K gK d ty ps af gd _ i u l g rfl (fun η => by simp only [aval]) rfl
@[simp] theorem dc_len (x : Operand) (t : TypeId) (g : Tag (⟨d, .call ⟨.builtin .len, #[x], #[t]⟩, ty, ps, af, gd⟩ : Oper)) : drC P ops ⟨d, .call ⟨.builtin .len, #[x], #[t]⟩, ty, ps, af, gd⟩ i u l lds s K gops g gl gK =
    optK ((alenT P t (aev s.fr x) s.η).map (.int .i64)) (fun v => putK s d v (fun s' => drK P ops l ((i, fun η => (alenT P t (aev s.fr x) η).map (.int .i64) = some v) :: lds) s' K .mk .mk .mk) .mk) False .mk .mk :=
  dc_ld ops gops lds gl s K gK d ty ps af gd (.call ⟨.builtin .len, #[x], #[t]⟩) i u l g rfl (V := fun η => (alenT P t (aev s.fr x) η).map (.int .i64)) (fun η => by simp only [aval, acallV]) rfl
@[simp] theorem dc_min (x y : Operand) (ts : Array TypeId) (g : Tag (⟨d, .call ⟨.builtin .min, #[x, y], ts⟩, ty, ps, af, gd⟩ : Oper)) : drC P ops ⟨d, .call ⟨.builtin .min, #[x, y], ts⟩, ty, ps, af, gd⟩ i u l lds s K gops g gl gK =
    optK (aminmax false (aev s.fr x) (aev s.fr y)) (fun v => putK s d v (fun s' => drK P ops l ((i, fun _ => aminmax false (aev s.fr x) (aev s.fr y) = some v) :: lds) s' K .mk .mk .mk) .mk) False .mk .mk :=
  dc_ld ops gops lds gl s K gK d ty ps af gd (.call ⟨.builtin .min, #[x, y], ts⟩) i u l g rfl (V := fun _ => aminmax false (aev s.fr x) (aev s.fr y)) (fun η => by simp only [aval, acallV]) rfl
theorem aval_chg {o : Oper} {ρ : Operand → AVal} {η : AHeap} (h : isChg o.op = true) : aval P o ρ η = none := by
  unfold aval
  cases hop : o.op <;> rw [hop] at h <;> simp [isChg] at h ⊢
  rename_i c
  obtain ⟨callee, args, ts⟩ := c
  unfold acallV
  simp only at h ⊢
  cases callee with
  | builtin b => cases b <;> simp_all
  | _ => rfl
/-- what writes or makes: its own rule, then the look at the loads -/
def lkK (P : Program) (ops : Array Oper) (lds : List (Nat × (AHeap → Prop))) (u : List Nat) (l : List (Nat × List Nat)) (s : AState) (K : AState → Prop) (_ : Tag ops) (_ : Tag lds) (_ : Tag K) : Prop := chkK lds u s.η ∧ adrU P ops l lds K s
theorem dc_chg (g : Tag (⟨d, op, ty, ps, af, gd⟩ : Oper)) (h : isChg op = true) (hy : ayld (⟨d, op, ty, ps, af, gd⟩ : Oper) (aev s.fr) = none) : drC P ops ⟨d, op, ty, ps, af, gd⟩ i u l lds s K gops g gl gK = stepK P ⟨d, op, ty, ps, af, gd⟩ s (fun s' => lkK P ops lds u l s' K .mk .mk .mk) .mk .mk := by
  unfold drC stepK astep lkK
  rw [if_pos h, aval_chg (o := ⟨d, op, ty, ps, af, gd⟩) h]
  simp only [hy]
  congr 1
  funext v η' n'
  have := (AState.put_η (s := { s with η := η', n := n' }) (d := d) (v := v)).1
  rw [this]
@[simp] theorem lk_nil : lkK P ops lds [] l s K gops gl gK = drK P ops l lds s K .mk .mk .mk := by
  unfold lkK drK chkK; simp
theorem lk_some (x : Nat) : lkK P ops lds (x :: u) l s K gops gl gK = (chkK lds (x :: u) s.η ∧ drK P ops l lds s K .mk .mk .mk) := rfl
@[simp] theorem dc_store (t : TypeId) (p x : Operand) (g : Tag (⟨d, .store t p x, ty, ps, af, gd⟩ : Oper)) : drC P ops ⟨d, .store t p x, ty, ps, af, gd⟩ i u l lds s K gops g gl gK = stepK P ⟨d, .store t p x, ty, ps, af, gd⟩ s (fun s' => lkK P ops lds u l s' K .mk .mk .mk) .mk .mk := dc_chg ops gops lds gl s K gK d ty ps af gd _ i u l g rfl rfl
@[simp] theorem dc_box (t : TypeId) (x : Operand) (g : Tag (⟨d, .box t x, ty, ps, af, gd⟩ : Oper)) : drC P ops ⟨d, .box t x, ty, ps, af, gd⟩ i u l lds s K gops g gl gK = stepK P ⟨d, .box t x, ty, ps, af, gd⟩ s (fun s' => lkK P ops lds u l s' K .mk .mk .mk) .mk .mk := dc_chg ops gops lds gl s K gK d ty ps af gd _ i u l g rfl rfl
@[simp] theorem dc_alloc (t : TypeId) (g : Tag (⟨d, .alloc t, ty, ps, af, gd⟩ : Oper)) : drC P ops ⟨d, .alloc t, ty, ps, af, gd⟩ i u l lds s K gops g gl gK = stepK P ⟨d, .alloc t, ty, ps, af, gd⟩ s (fun s' => lkK P ops lds u l s' K .mk .mk .mk) .mk .mk := dc_chg ops gops lds gl s K gK d ty ps af gd _ i u l g rfl rfl
@[simp] theorem dc_buildSlice (t : TypeId) (n : Nat) (x : Array (Nat × Operand)) (g : Tag (⟨d, .buildSlice t n x, ty, ps, af, gd⟩ : Oper)) : drC P ops ⟨d, .buildSlice t n x, ty, ps, af, gd⟩ i u l lds s K gops g gl gK = stepK P ⟨d, .buildSlice t n x, ty, ps, af, gd⟩ s (fun s' => lkK P ops lds u l s' K .mk .mk .mk) .mk .mk := dc_chg ops gops lds gl s K gK d ty ps af gd _ i u l g rfl rfl
@[simp] theorem dc_makeSlice (t : TypeId) (x y : Operand) (g : Tag (⟨d, .makeSlice t x y, ty, ps, af, gd⟩ : Oper)) : drC P ops ⟨d, .makeSlice t x y, ty, ps, af, gd⟩ i u l lds s K gops g gl gK = stepK P ⟨d, .makeSlice t x y, ty, ps, af, gd⟩ s (fun s' => lkK P ops lds u l s' K .mk .mk .mk) .mk .mk := dc_chg ops gops lds gl s K gK d ty ps af gd _ i u l g rfl rfl
/-- a call in a region that draws (no yield) -/
def callD (P : Program) (v : AVal) (args : List AVal) (η : AHeap) (n : Nat) (K : AVal → AHeap → Nat → Prop) (_ : Tag K) : Prop := match v with
  | .func fid first caps => HB P fid = true ∧ AC P fid (first ++ args ++ caps) η n K
  | _ => False
@[simp] theorem callD_func (f : FuncId) (a b args : List AVal) (η : AHeap) (n : Nat) (K : AVal → AHeap → Nat → Prop) (g : Tag K) (h : HB P f = true) : callD P (.func f a b) args η n K g = ACK P f (a ++ args ++ b) η n K g := by
  unfold callD ACK; simp [h]
@[simp] theorem dc_callf (f : Operand) (args : Array Operand) (ts : Array TypeId) (g : Tag (⟨d, .call ⟨.value f, args, ts⟩, ty, ps, af, gd⟩ : Oper)) : drC P ops ⟨d, .call ⟨.value f, args, ts⟩, ty, ps, af, gd⟩ i u l lds s K gops g gl gK =
    callD P (aev s.fr f) (args.toList.map (aev s.fr)) s.η s.n (fun v η' n' => putK ⟨s.fr, s.nt, η', n'⟩ d v (fun s' => lkK P ops lds u l s' K .mk .mk .mk) .mk) .mk := by
  unfold drC callD
  rw [if_pos (show isChg (.call ⟨.value f, args, ts⟩) = true from rfl)]
  simp only [achg]
  cases aev s.fr f with
  | func fid a b =>
    simp only [putK, lkK]
    congr 2
    funext v η' n'
    rw [(AState.put_η (s := { s with η := η', n := n' }) (d := d) (v := v)).1]
  | _ => rfl
@[simp] theorem dc_clear (x : Operand) (t : TypeId) (g : Tag (⟨d, .call ⟨.builtin .clear, #[x], #[t]⟩, ty, ps, af, gd⟩ : Oper)) : drC P ops ⟨d, .call ⟨.builtin .clear, #[x], #[t]⟩, ty, ps, af, gd⟩ i u l lds s K gops g gl gK = stepK P ⟨d, .call ⟨.builtin .clear, #[x], #[t]⟩, ty, ps, af, gd⟩ s (fun s' => lkK P ops lds u l s' K .mk .mk .mk) .mk .mk := dc_chg ops gops lds gl s K gK d ty ps af gd _ i u l g rfl rfl
@[simp] theorem dc_delete (x y : Operand) (t t2 : TypeId) (g : Tag (⟨d, .call ⟨.builtin .delete, #[x, y], #[t, t2]⟩, ty, ps, af, gd⟩ : Oper)) : drC P ops ⟨d, .call ⟨.builtin .delete, #[x, y], #[t, t2]⟩, ty, ps, af, gd⟩ i u l lds s K gops g gl gK = stepK P ⟨d, .call ⟨.builtin .delete, #[x, y], #[t, t2]⟩, ty, ps, af, gd⟩ s (fun s' => lkK P ops lds u l s' K .mk .mk .mk) .mk .mk := dc_chg ops gops lds gl s K gK d ty ps af gd _ i u l g rfl rfl
@[simp] theorem dc_append (x y : Operand) (t t2 : TypeId) (g : Tag (⟨d, .call ⟨.builtin .append, #[x, y], #[t, t2]⟩, ty, ps, af, gd⟩ : Oper)) : drC P ops ⟨d, .call ⟨.builtin .append, #[x, y], #[t, t2]⟩, ty, ps, af, gd⟩ i u l lds s K gops g gl gK = stepK P ⟨d, .call ⟨.builtin .append, #[x, y], #[t, t2]⟩, ty, ps, af, gd⟩ s (fun s' => lkK P ops lds u l s' K .mk .mk .mk) .mk .mk := dc_chg ops gops lds gl s K gK d ty ps af gd _ i u l g rfl rfl
@[simp] theorem dc_copy (x y : Operand) (t t2 : TypeId) (g : Tag (⟨d, .call ⟨.builtin .copy, #[x, y], #[t, t2]⟩, ty, ps, af, gd⟩ : Oper)) : drC P ops ⟨d, .call ⟨.builtin .copy, #[x, y], #[t, t2]⟩, ty, ps, af, gd⟩ i u l lds s K gops g gl gK = stepK P ⟨d, .call ⟨.builtin .copy, #[x, y], #[t, t2]⟩, ty, ps, af, gd⟩ s (fun s' => lkK P ops lds u l s' K .mk .mk .mk) .mk .mk := dc_chg ops gops lds gl s K gK d ty ps af gd _ i u l g rfl rfl

/-! ### From one state to another that says less -/
theorem Gh.refl (s : AState) : Gh s s := fun _ _ _ h => h
theorem Gh.trans {a b c : AState} (h : Gh a b) (k : Gh b c) : Gh a c := fun κ x w r => k κ x w (h κ x w r)
/-- values forgotten, objects forgotten, numbers passed over -/
theorem Gh.of {fr fr' : Nat → AVal} {nt : Nat} {η η' : AHeap} {n n' : Nat} (hf : ∀ t, fr' t = fr t ∨ fr' t = .undef) (hη : η'.le η) (hn : n ≤ n') : Gh ⟨fr, nt, η, n⟩ ⟨fr', nt, η', n'⟩ := by
  intro κ a w ⟨own, M, h⟩
  refine ⟨own, M, h.st.less hη hn, fun t => ?_, h.nt, h.df, h.le, h.mle, h.frm, ⟨fun b hb => h.ob.1 b (OB.less hη hb), h.ob.2⟩, Nat.le_trans h.n hn⟩
  show VR own M (fr' t) _
  rcases hf t with e | e
  · rw [e]; exact h.fr t
  · rw [e]; exact .undef _

/-- a frame of which some slots are not known -/
def mask (W : List Nat) (fr : Nat → AVal) : Nat → AVal := fun t => if W.contains t then .undef else fr t
@[simp] theorem mask_apply (W : List Nat) (fr : Nat → AVal) (t : Nat) : mask W fr t = if W.contains t then .undef else fr t := rfl

def resL (P : Program) (s : AState) : List ResultVar → Option (List AVal)
  | [] => some []
  | r :: rs => match resV P s r, resL P s rs with
    | some v, some vs => some (v :: vs)
    | _, _ => none
theorem resL_eq (s : AState) : ∀ rs : List ResultVar, rs.mapM (resV P s) = resL P s rs
  | [] => rfl
  | r :: rs => by
    rw [List.mapM_cons, resL_eq s rs, resL]
    cases resV P s r with
    | none => rfl
    | some v => cases resL P s rs <;> rfl
theorem ares_one {fn : Func} {r : ResultVar} (h : fn.results = #[r]) (s : AState) : ares P fn s = resV P s r := by unfold ares; rw [h]
theorem ares_many {fn : Func} {rs : List ResultVar} (h : fn.results = rs.toArray) (hl : rs.length ≠ 1) (s : AState) : ares P fn s = (resL P s rs).map .tup := by
  unfold ares; rw [h]
  simp only
  match rs, hl with
  | [r], hl => simp at hl
  | [], _ => rfl
  | a :: b :: l, _ =>
    have := resL_eq (P := P) s (a :: b :: l)
    rw [← this]
@[simp] theorem resL_nil (s : AState) : resL P s [] = some [] := rfl
@[simp] theorem resV_tmp (s : AState) (t : Tmp) : resV P s (.tmp t) = some (s.fr t) := rfl
@[simp] theorem resV_cell (s : AState) (t : Tmp) (ty : TypeId) : resV P s (.cell t ty) = aload P ty (s.fr t) s.η := rfl
@[simp] theorem resL_cons (s : AState) (r : ResultVar) (rs : List ResultVar) : resL P s (r :: rs) = match resV P s r, resL P s rs with
    | some v, some vs => some (v :: vs)
    | _, _ => none := rfl
end
end Go.Proofs.YtbomkomipaipmaaGreat
namespace Go.Proofs.YtbomkomipaipmaaGreat

inductive NR : AVal → Prop
  | undef : NR .undef
  | int (k : IntKind) (n : Int) : NR (.int k n)
  | bool (b : Bool) : NR (.bool b)
  | str (s : ByteArray) : NR (.str s)
  | nilp : NR .nilp
  | nils : NR .nils
  | e0 : NR .e0
  | nilf : NR .nilf
  | nilm : NR .nilm
  | ro (cs : List AVal) (j : Nat) (h : ∀ c ∈ cs, NR c) : NR (.ro cs j)
  | rs (k : Nat) (rows : List (List AVal)) (h : ∀ row ∈ rows, ∀ c ∈ row, NR c) : NR (.rs k rows)
  | func (f : FuncId) (a b : List AVal) (h : ∀ c ∈ a, NR c) (h' : ∀ c ∈ b, NR c) : NR (.func f a b)
  | agg (cs : List AVal) (h : ∀ c ∈ cs, NR c) : NR (.agg cs)
  | tup (cs : List AVal) (h : ∀ c ∈ cs, NR c) : NR (.tup cs)

section
variable {own own' : Own} {M M' : Mem}
theorem VR.back {c : AVal} {v : Value} (h : VR own' M' c v) (hc : NR c) : VR own M' c v := by
  induction h with
  | undef v => exact .undef v
  | int k n => exact .int k n
  | bool b => exact .bool b
  | str s => exact .str s
  | nilp => exact .nilp
  | ptr r i j p h => cases hc
  | ro cs j b o arr hb hl _ ih => cases hc with | ro _ _ h => exact .ro cs j b o arr hb hl fun i c hi => ih i c hi (h c (List.mem_of_getElem? hi))
  | nils => exact .nils
  | e0 a => exact .e0 a
  | sl r o n p a cap h hn hm hc => cases hc
  | rs k rows a cap b o arr hn hm hx ha hb hk hl _ ih => cases hc with | rs _ _ h => exact .rs k rows a cap b o arr hn hm hx ha hb hk hl fun i j row c hi hj => ih i j row c hi hj (h row (List.mem_of_getElem? hi) c (List.mem_of_getElem? hj))
  | func f fs cs F C hF hC _ _ ih1 ih2 => cases hc with | func _ _ _ h h' => exact .func f fs cs F C hF hC (fun i c hi => ih1 i c hi (h c (List.mem_of_getElem? hi))) (fun i c hi => ih2 i c hi (h' c (List.mem_of_getElem? hi)))
  | nilf => exact .nilf
  | nilm => exact .nilm
  | mp r p h => cases hc
  | agg cs A hA hs _ ih => cases hc with | agg _ h => exact .agg cs A hA hs fun i c hi => ih i c hi (h c (List.mem_of_getElem? hi))
  | tup cs A hA _ ih => cases hc with | tup _ h => exact .tup cs A hA fun i c hi => ih i c hi (h c (List.mem_of_getElem? hi))
  | arr r i j n z p a cap h hn hm hcc => cases hc
  | yld r p h => cases hc
  | slc r o n c p a cap h hn hcc hm hc2 => cases hc

theorem VR.back2 (hle : own.le own') {c : AVal} {v : Value} (h : VR own' M' c v) : ∀ v0, VR own M c v0 → VR own M' c v := by
  induction h with
  | undef v => exact fun _ _ => .undef v
  | int k n => exact fun _ _ => .int k n
  | bool b => exact fun _ _ => .bool b
  | str s => exact fun _ _ => .str s
  | nilp => exact fun _ _ => .nilp
  | ptr r i j p h =>
    intro v0 h0
    cases h0 with
    | ptr _ _ _ p0 hp0 => have := hle _ _ hp0; rw [h] at this; cases this; exact .ptr r i j p hp0
  | ro cs j b o arr hb hl _ ih =>
    intro v0 h0
    cases h0 with
    | ro _ _ b0 o0 arr0 hb0 hl0 hc0 => exact .ro cs j b o arr hb hl fun i c hi => ih i c hi _ (hc0 i c hi)
  | nils => exact fun _ _ => .nils
  | e0 a => exact fun _ _ => .e0 a
  | sl r o n p a cap h hn hm hc =>
    intro v0 h0
    cases h0 with
    | sl _ _ _ p0 a0 cap0 hp0 => have := hle _ _ hp0; rw [h] at this; cases this; exact .sl r o n p a cap hp0 hn hm hc
  | rs k rows a cap b o arr hn hm hx ha hb hk hl _ ih =>
    intro v0 h0
    cases h0 with
    | rs _ _ a0 cap0 b0 o0 arr0 hn0 hm0 hx0 ha0 hb0 hk0 hl0 hc0 => exact .rs k rows a cap b o arr hn hm hx ha hb hk hl fun i j row c hi hj => ih i j row c hi hj _ (hc0 i j row c hi hj)
  | func f fs cs F C hF hC _ _ ih1 ih2 =>
    intro v0 h0
    cases h0 with
    | func _ _ _ F0 C0 hF0 hC0 hf0 hc0 => exact .func f fs cs F C hF hC (fun i c hi => ih1 i c hi _ (hf0 i c hi)) (fun i c hi => ih2 i c hi _ (hc0 i c hi))
  | nilf => exact fun _ _ => .nilf
  | nilm => exact fun _ _ => .nilm
  | mp r p h =>
    intro v0 h0
    cases h0 with
    | mp _ p0 hp0 => have := hle _ _ hp0; rw [h] at this; cases this; exact .mp r p hp0
  | agg cs A hA hs _ ih =>
    intro v0 h0
    cases h0 with
    | agg _ A0 hA0 hs0 hc0 => exact .agg cs A hA hs fun i c hi => ih i c hi _ (hc0 i c hi)
  | tup cs A hA _ ih =>
    intro v0 h0
    cases h0 with
    | tup _ A0 hA0 hc0 => exact .tup cs A hA fun i c hi => ih i c hi _ (hc0 i c hi)
  | arr r i j n z p a cap h hn hm hc =>
    intro v0 h0
    cases h0 with
    | arr _ _ _ _ _ p0 a0 cap0 hp0 => have := hle _ _ hp0; rw [h] at this; cases this; exact .arr r i j n z p a cap hp0 hn hm hc
  | yld r p h =>
    intro v0 h0
    cases h0 with
    | yld _ p0 hp0 => have := hle _ _ hp0; rw [h] at this; cases this; exact .yld r p hp0
  | slc r o n c p a cap h hn hcc hm hc =>
    intro v0 h0
    cases h0 with
    | slc _ _ _ _ p0 a0 cap0 hp0 => have := hle _ _ hp0; rw [h] at this; cases this; exact .slc r o n c p a cap hp0 hn hcc hm hc

theorem OR.back2 {w w' : World} (hle : own.le own') {p : Spot} {o : AObj} (h : OR own' M' w' p o) (h0 : OR own M w p o) : OR own M' w' p o := by
  cases o with
  | cells k rows =>
    obtain ⟨h1, h2, h3, h4, h5, h6⟩ := h
    obtain ⟨_, _, _, _, _, g6⟩ := h0
    refine ⟨h1, h2, h3, h4, h5, fun i j row c hi hj => ?_⟩
    obtain ⟨v, k1, k2⟩ := h6 i j row c hi hj
    obtain ⟨v0, _, k3⟩ := g6 i j row c hi hj
    exact ⟨v, k1, k2.back2 hle v0 k3⟩
  | map es =>
    obtain ⟨h1, h2, E, clk, h3, h4, h5, h6⟩ := h
    obtain ⟨_, _, E0, clk0, _, g4, _, g6⟩ := h0
    refine ⟨h1, h2, E, clk, h3, h4, h5, fun i e x hi hx => ?_⟩
    have hil := (List.getElem?_eq_some_iff.1 hi).1
    obtain ⟨k1, k2⟩ := h6 i e x hi hx
    obtain ⟨k3, k4⟩ := g6 i e _ hi (Array.getElem?_eq_getElem (by omega))
    exact ⟨k1.back2 hle _ k3, k2.back2 hle _ k4⟩
  | loop pend ps as bd fr nt =>
    obtain ⟨h1, h2, r, h3, h4, h5, h6, h7, h8, h9, h10⟩ := h
    obtain ⟨_, _, r0, _, _, _, _, _, _, _, g10⟩ := h0
    exact ⟨h1, h2, r, h3, h4, h5, h6, h7, h8, h9, fun t => (h10 t).back2 hle _ (g10 t)⟩
  | mapR E clk es =>
    obtain ⟨h1, h2, h3, h4, h5, h6⟩ := h
    obtain ⟨_, _, _, g4, _, g6⟩ := h0
    refine ⟨h1, h2, h3, h4, h5, fun i e x hi hx => ?_⟩
    obtain ⟨k1, k2⟩ := h6 i e x hi hx
    obtain ⟨k3, k4⟩ := g6 i e _ hi hx
    exact ⟨k1.back2 hle _ k3, k2.back2 hle _ k4⟩
  | iter m seen =>
    obtain ⟨h1, h2, h3, h4⟩ := h
    obtain ⟨_, _, _, g4⟩ := h0
    refine ⟨h1, h2, h3, ?_⟩
    cases m with
    | none => exact h4
    | some x =>
      obtain ⟨k1, q, k2, k3⟩ := h4
      obtain ⟨_, q0, k4, _⟩ := g4
      have := hle _ _ k4
      rw [k2] at this; cases this
      exact ⟨k1, q, k4, k3⟩
end

/-- what comes back is a value without places, and all is as it was: then no number has been used -/
theorem AC.reset {P : Program} {f : FuncId} {args : List AVal} {η : AHeap} {n : Nat} {R : AVal → Prop} (h : AC P f args η n fun r η' _ => R r ∧ η' = η) (hR : ∀ r, R r → NR r) : AC P f args η n fun r η' n' => R r ∧ η' = η ∧ n' = n := by
  intro own M w vals hst h2 h3
  refine (h own M w vals hst h2 h3).mono fun e w' ⟨u, he, v, η', n', own', M', ⟨k1, k2⟩, k3, k4, k5, k6, k7, k8, k9⟩ => ?_
  subst k2
  refine ⟨u, he, v, η', n, own, M', ⟨k1, rfl, rfl⟩, Nat.le_refl _, ⟨hst.fresh, fun r o hr => ?_, hst.inj, k4.mem⟩, k5.back (hR v k1), Own.le_refl _, k7, k8, fun b hb => Or.inl hb, k9.2⟩
  obtain ⟨p, g1, g2⟩ := hst.obj r o hr
  obtain ⟨p', g3, g4⟩ := k4.obj r o hr
  have := k6 _ _ g1
  rw [g3] at this; cases this
  exact ⟨_, g1, g4.back2 k6 g2⟩

def Rt (v : AVal) (η : AHeap) (n : Nat) : AVal → AHeap → Nat → Prop := fun r η' n' => r = v ∧ η' = η ∧ n' = n
/-- a body that hands back v and leaves all as it was (whatever it made for itself) -/
theorem AC.pure {P : Program} {f : FuncId} {args : List AVal} {η : AHeap} {n : Nat} {v : AVal} (hv : NR v) (h : AC P f args η n fun r η' _ => r = v ∧ η' = η) : AC P f args η n (Rt v η n) :=
  (h.reset (R := fun r => r = v) fun _ e => e ▸ hv).mono fun _ _ _ ⟨a, b, c⟩ => ⟨a, b, c⟩
theorem ACK.rt {P : Program} {f : FuncId} {args : List AVal} {η : AHeap} {n : Nat} {v : AVal} {K : AVal → AHeap → Nat → Prop} {g : Tag K} (h : AC P f args η n (Rt v η n)) (hk : K v η n) : ACK P f args η n K g := ACK.use h fun r η' n' ⟨a, b, c⟩ => by subst a b c; exact hk
theorem resK.rt {v : AVal} {fr : Nat → AVal} {nt : Nat} {η : AHeap} {n : Nat} {K : AVal → AHeap → Nat → Prop} {g : Tag K} (h : K v η n) : resK (some v) ⟨fr, nt, η, n⟩ K g := resK.same h (Nat.le_refl _)

theorem wrap_id {x : Int} (h1 : -9223372036854775808 ≤ x) (h2 : x ≤ 9223372036854775807) : IntKind.i64.wrap x = x := by
  rw [IntKind.wrap_i64]; omega
def I64 (n : Int) : Prop := -9223372036854775808 ≤ n ∧ n ≤ 9223372036854775807

theorem AC.fresh {P : Program} {f : FuncId} {args : List AVal} {η : AHeap} {n : Nat} {K : AVal → AHeap → Nat → Prop} (h : (∀ r, n ≤ r → η r = none) → AC P f args η n K) : AC P f args η n K := by
  intro own M w vals hst
  refine h (fun r hr => ?_) own M w vals hst
  cases he : η r with
  | none => rfl
  | some o => have := hst.lt he; omega
theorem le_upd_iff {η η' : AHeap} {n : Nat} {o : Option AObj} (hn : η n = none) : η.le (upd η' n o) ↔ η.le η' := by
  constructor
  · intro h r o' hr
    have := h r o' hr
    by_cases e : r = n
    · subst e; rw [hn] at hr; cases hr
    · rwa [upd_ne e] at this
  · exact fun h => le_upd h hn
@[simp] theorem le_self (η : AHeap) : η.le η ↔ True := by simp [AHeap.le]

/-! ### Loops -/
def slots : List (Nat × AVal) → (Nat → AVal) → Nat → AVal
  | [], fr => fr
  | p :: l, fr => setf (slots l fr) p.1 p.2
@[simp] theorem slots_nil (fr : Nat → AVal) : slots [] fr = fr := rfl
@[simp] theorem slots_cons (d : Nat) (v : AVal) (l : List (Nat × AVal)) (fr : Nat → AVal) : slots ((d, v) :: l) fr = setf (slots l fr) d v := rfl
/-- alike but for some slots -/
def Agree (W : List Nat) (g fr : Nat → AVal) : Prop := ∀ t, W.contains t = false → g t = fr t
theorem Agree.refl (W : List Nat) (fr : Nat → AVal) : Agree W fr fr := fun _ _ => rfl
theorem Agree.mask (W : List Nat) (fr : Nat → AVal) : Agree W (mask W fr) fr := fun t h => by simp only [mask_apply, h]; rfl
theorem Agree.setf {W : List Nat} {g fr : Nat → AVal} {d : Nat} {v : AVal} (hd : W.contains d = true) (h : Agree W g fr) : Agree W (setf g d v) fr := fun t ht => by
  rw [setf_ne (fun e => by subst e; rw [hd] at ht; cases ht)]; exact h t ht
theorem Agree.inner {W W' : List Nat} {g fr : Nat → AVal} (h : (W'.all fun t => W.contains t) = true) (ha : Agree W g fr) : Agree W (Go.Proofs.YtbomkomipaipmaaGreat.mask W' g) fr := fun t ht => by
  simp only [mask_apply]
  rw [if_neg]
  · exact ha t ht
  · intro hc
    have := List.all_eq_true.1 h t (by simpa using hc)
    rw [ht] at this; cases this
def slotsAt (l : List (Nat × AVal)) (g : Nat → AVal) : Prop := ∀ p ∈ l, g p.1 = p.2
@[simp] theorem slotsAt_nil (g : Nat → AVal) : slotsAt [] g = True := by simp [slotsAt]
@[simp] theorem slotsAt_cons (d : Nat) (v : AVal) (l : List (Nat × AVal)) (g : Nat → AVal) : slotsAt ((d, v) :: l) g = (g d = v ∧ slotsAt l g) := by simp [slotsAt]
theorem slots_le {W : List Nat} {g fr : Nat → AVal} (ha : Agree W g fr) : ∀ (l : List (Nat × AVal)), slotsAt l g → ∀ t, slots l (mask W fr) t = g t ∨ slots l (mask W fr) t = .undef
  | [], _, t => by
    simp only [slots, mask_apply]
    cases hc : W.contains t with
    | true => exact Or.inr rfl
    | false => exact Or.inl (by simp only [Bool.false_eq_true, if_false]; exact (ha t hc).symm)
  | (d, v) :: l, h, t => by
    rw [slotsAt_cons] at h
    rw [slots_cons]
    by_cases e : t = d
    · subst e; rw [setf_eq]; exact Or.inl h.1.symm
    · rw [setf_ne e]; exact slots_le ha l h.2 t
/-- a round's end: the state is one of the loop's again, and nearer to the end -/
def endK (W : List Nat) (fr : Nat → AVal) (nt : Nat) {ι : Type} (I : ι → Prop) (sl : ι → List (Nat × AVal)) (hp : ι → AHeap) (nn : ι → Nat) (μ : ι → Nat) (m : Nat) (s : AState) : Prop :=
  ∃ x, I x ∧ Gh s ⟨slots (sl x) (mask W fr), nt, hp x, nn x⟩ ∧ μ x < m
theorem endK.intro {W : List Nat} {fr g : Nat → AVal} {nt : Nat} {ι : Type} {I : ι → Prop} {sl : ι → List (Nat × AVal)} {hp : ι → AHeap} {nn : ι → Nat} {μ : ι → Nat} {m : Nat} {η : AHeap} {n : Nat} (x : ι) (hI : I x) (hs : slotsAt (sl x) g) (ha : Agree W g fr) (hη : (hp x).le η) (hn : n ≤ nn x) (hμ : μ x < m) :
    endK W fr nt I sl hp nn μ m ⟨g, nt, η, n⟩ := ⟨x, hI, Gh.of (slots_le ha _ hs) hη hn, hμ⟩
theorem loopK.inv {P : Program} {c : Code} {fr : Nat → AVal} {nt : Nat} {η : AHeap} {n : Nat} {Q : Exit → AState → Prop} {gc : Tag c} {gQ : Tag Q} (W : List Nat) {ι : Type} (I : ι → Prop) (sl : ι → List (Nat × AVal)) (hp : ι → AHeap) (nn : ι → Nat) (μ : ι → Nat) (x0 : ι) (hI : I x0)
    (hs : slotsAt (sl x0) fr) (hη : (hp x0).le η) (hn : n ≤ nn x0)
    (h : ∀ x, I x → wpK P c ⟨slots (sl x) (mask W fr), nt, hp x, nn x⟩ (thenP (endK W fr nt I sl hp nn μ (μ x)) Q) .mk .mk) : loopK P c ⟨fr, nt, η, n⟩ Q gc gQ := by
  refine ⟨{x // I x}, fun x => ⟨slots (sl x.1) (mask W fr), nt, hp x.1, nn x.1⟩, fun x => μ x.1, ⟨x0, hI⟩, Gh.of (slots_le (Agree.refl W fr) _ hs) hη hn, fun x => ?_⟩
  have := h x.1 x.2
  unfold wpK at this
  have e : (thenP (endK W fr nt I sl hp nn μ (μ x.1)) Q) = thenP (fun s' => ∃ x' : {x // I x}, Gh s' ⟨slots (sl x'.1) (mask W fr), nt, hp x'.1, nn x'.1⟩ ∧ μ x'.1 < μ x.1) Q := by
    funext e s
    cases e <;> simp only [thenP]
    unfold endK
    simp only [eq_iff_iff]
    exact ⟨fun ⟨y, h1, h2, h3⟩ => ⟨⟨y, h1⟩, h2, h3⟩, fun ⟨⟨y, h1⟩, h2, h3⟩ => ⟨y, h1, h2, h3⟩⟩
  rw [e] at this
  exact this
@[simp] theorem sc_int (k : IntKind) (n : Int) : AVal.sc (.int k n) = true := rfl
@[simp] theorem sc_bool (b : Bool) : AVal.sc (.bool b) = true := rfl
@[simp] theorem sc_str (s : ByteArray) : AVal.sc (.str s) = true := rfl
@[simp] theorem sc_nilp : AVal.sc .nilp = true := rfl
@[simp] theorem sc_ptr (r i j : Nat) : AVal.sc (.ptr r i j) = true := rfl
@[simp] theorem sc_ro (cs : List AVal) (j : Nat) : AVal.sc (.ro cs j) = true := rfl
@[simp] theorem sc_nils : AVal.sc .nils = true := rfl
@[simp] theorem sc_e0 : AVal.sc .e0 = true := rfl
@[simp] theorem sc_sl (r o n : Nat) : AVal.sc (.sl r o n) = true := rfl
@[simp] theorem sc_arr (r i j n z : Nat) : AVal.sc (.arr r i j n z) = true := rfl
@[simp] theorem ac_arr (r i j n z : Nat) : acells (.arr r i j n z) = [.arr r i j n z] := rfl
@[simp] theorem sc_rs (k : Nat) (rows : List (List AVal)) : AVal.sc (.rs k rows) = true := rfl
@[simp] theorem sc_func (f : FuncId) (a b : List AVal) : AVal.sc (.func f a b) = true := rfl
@[simp] theorem sc_nilf : AVal.sc .nilf = true := rfl
@[simp] theorem sc_nilm : AVal.sc .nilm = true := rfl
@[simp] theorem sc_mp (r : Nat) : AVal.sc (.mp r) = true := rfl
@[simp] theorem ac_agg (cs : List AVal) : acells (.agg cs) = cs := rfl
@[simp] theorem ac_int (k : IntKind) (n : Int) : acells (.int k n) = [.int k n] := rfl
@[simp] theorem ac_bool (b : Bool) : acells (.bool b) = [.bool b] := rfl
@[simp] theorem ac_str (s : ByteArray) : acells (.str s) = [.str s] := rfl
@[simp] theorem ac_nilp : acells .nilp = [.nilp] := rfl
@[simp] theorem ac_ptr (r i j : Nat) : acells (.ptr r i j) = [.ptr r i j] := rfl
@[simp] theorem ac_ro (cs : List AVal) (j : Nat) : acells (.ro cs j) = [.ro cs j] := rfl
@[simp] theorem ac_nils : acells .nils = [.nils] := rfl
@[simp] theorem ac_e0 : acells .e0 = [.e0] := rfl
@[simp] theorem ac_sl (r o n : Nat) : acells (.sl r o n) = [.sl r o n] := rfl
@[simp] theorem ac_rs (k : Nat) (rows : List (List AVal)) : acells (.rs k rows) = [.rs k rows] := rfl
@[simp] theorem ac_func (f : FuncId) (a b : List AVal) : acells (.func f a b) = [.func f a b] := rfl
@[simp] theorem ac_nilf : acells .nilf = [.nilf] := rfl
@[simp] theorem ac_nilm : acells .nilm = [.nilm] := rfl
@[simp] theorem ac_mp (r : Nat) : acells (.mp r) = [.mp r] := rfl
end Go.Proofs.YtbomkomipaipmaaGreat
namespace Go.Proofs.YtbomkomipaipmaaGreat

/-- nil is a row of no cells -/
theorem AC.nilOwn {P : Program} {f : FuncId} {args : List AVal} {η : AHeap} {n : Nat} {K : AVal → AHeap → Nat → Prop} (k : Nat) (hk : 0 < k)
    (h : AC P f args η n fun v η' n' => K v η' n' ∨ (v = .nils ∧ K (.sl n' 0 0) (upd η' n' (some (.cells k []))) (n' + 1))) : AC P f args η n K := by
  intro own M w vals h1 h2 h3
  refine (h own M w vals h1 h2 h3).mono ?_
  rintro e w' ⟨u, rfl, v, η', n', own', M', hK, a1, a2, a3, a4, a5, a6, a7⟩
  refine ⟨u, rfl, ?_⟩
  rcases hK with hK | ⟨rfl, hK⟩
  · exact ⟨v, η', n', own', M', hK, a1, a2, a3, a4, a5, a6, a7⟩
  · have hfn := a2.fresh n' (Nat.le_refl _)
    have hle := Own.le_put hfn ⟨0, 0, 0, k⟩
    refine ⟨_, _, _, own'.put n' ⟨0, 0, 0, k⟩, M', hK, by omega, ?_, ?_, Own.le_trans a4 hle, a5, a6, fun b ⟨r, p, o, g1, g2, g3, g4⟩ => ?_, a7.2⟩
    · refine a2.add ?_ (fun hlt => absurd hlt (by simp)) (fun _ _ => rfl) (fun _ _ _ => rfl)
      refine ⟨rfl, hk, by simp, by simp, fun hlt => absurd hlt (by simp), fun i j row c hi => ?_⟩
      simp at hi
    · cases a3
      exact .sl n' 0 0 ⟨0, 0, 0, k⟩ none 0 (by simp [Own.put]) (Nat.le_refl _) (by omega) (fun h => absurd h (by omega))
    · by_cases e : r = n'
      · subst e
        simp only [Own.put, if_true, Option.some.injEq] at g2
        subst g2; simp at g3
      · rw [upd_ne e] at g1; simp only [Own.put, if_neg e] at g2
        exact a7.1 b ⟨r, p, o, g1, g2, g3, g4⟩

/-- behind a call, too, the numbers from the next one on are free -/
theorem AC.freshP {P : Program} {f : FuncId} {args : List AVal} {η : AHeap} {n : Nat} {K : AVal → AHeap → Nat → Prop} (h : AC P f args η n K) : AC P f args η n fun v η' n' => K v η' n' ∧ ∀ r, n' ≤ r → η' r = none := by
  intro own M w vals h1 h2 h3
  refine (h own M w vals h1 h2 h3).mono ?_
  rintro e w' ⟨u, rfl, v, η', n', own', M', hK, a1, a2, a3⟩
  refine ⟨u, rfl, v, η', n', own', M', ⟨hK, fun r hr => ?_⟩, a1, a2, a3⟩
  cases ho : η' r with
  | none => rfl
  | some o => exact absurd (a2.lt ho) (by omega)

/-! ### nil, compared -/
section
variable (P : Program) (t : TypeId)
@[simp] theorem eq_nils  (h : aeqT P t (.nils) .nils = true) : abinA P .eql t (.nils) .nils = some (.bool true) := by
  cases hu : P.underlying t with
  | none => simp [aeqT, hu] at h
  | some D => cases D <;> simp [abinA, aeqB, aeqN, hu] <;> simp [aeqT, hu] at h ⊢
@[simp] theorem ne_nils  (h : aeqT P t (.nils) .nils = true) : abinA P .neq t (.nils) .nils = some (.bool false) := by
  cases hu : P.underlying t with
  | none => simp [aeqT, hu] at h
  | some D => cases D <;> simp [abinA, aeqB, aeqN, hu] <;> simp [aeqT, hu] at h ⊢
@[simp] theorem eq_ptr (r i j : Nat) (h : aeqT P t (.ptr r i j) .nilp = true) : abinA P .eql t (.ptr r i j) .nilp = some (.bool false) := by
  cases hu : P.underlying t with
  | none => simp [aeqT, hu] at h
  | some D => cases D <;> simp [abinA, aeqB, aeqN, hu] <;> simp [aeqT, hu] at h ⊢
@[simp] theorem ne_ptr (r i j : Nat) (h : aeqT P t (.ptr r i j) .nilp = true) : abinA P .neq t (.ptr r i j) .nilp = some (.bool true) := by
  cases hu : P.underlying t with
  | none => simp [aeqT, hu] at h
  | some D => cases D <;> simp [abinA, aeqB, aeqN, hu] <;> simp [aeqT, hu] at h ⊢
@[simp] theorem eq_ro (cs : List AVal) (j : Nat) (h : aeqT P t (.ro cs j) .nilp = true) : abinA P .eql t (.ro cs j) .nilp = some (.bool false) := by
  cases hu : P.underlying t with
  | none => simp [aeqT, hu] at h
  | some D => cases D <;> simp [abinA, aeqB, aeqN, hu] <;> simp [aeqT, hu] at h ⊢
@[simp] theorem ne_ro (cs : List AVal) (j : Nat) (h : aeqT P t (.ro cs j) .nilp = true) : abinA P .neq t (.ro cs j) .nilp = some (.bool true) := by
  cases hu : P.underlying t with
  | none => simp [aeqT, hu] at h
  | some D => cases D <;> simp [abinA, aeqB, aeqN, hu] <;> simp [aeqT, hu] at h ⊢
@[simp] theorem eq_nilp  (h : aeqT P t .nilp .nilp = true) : abinA P .eql t .nilp .nilp = some (.bool true) := by
  cases hu : P.underlying t with
  | none => simp [aeqT, hu] at h
  | some D => cases D <;> simp [abinA, aeqB, aeqN, hu] <;> simp [aeqT, hu] at h ⊢
@[simp] theorem ne_nilp  (h : aeqT P t .nilp .nilp = true) : abinA P .neq t .nilp .nilp = some (.bool false) := by
  cases hu : P.underlying t with
  | none => simp [aeqT, hu] at h
  | some D => cases D <;> simp [abinA, aeqB, aeqN, hu] <;> simp [aeqT, hu] at h ⊢
@[simp] theorem eq_func (f : FuncId) (cs ds : List AVal) (h : aeqT P t (.func f cs ds) .nilf = true) : abinA P .eql t (.func f cs ds) .nilf = some (.bool false) := by
  cases hu : P.underlying t with
  | none => simp [aeqT, hu] at h
  | some D => cases D <;> simp [abinA, aeqB, aeqN, hu] <;> simp [aeqT, hu] at h ⊢
@[simp] theorem ne_func (f : FuncId) (cs ds : List AVal) (h : aeqT P t (.func f cs ds) .nilf = true) : abinA P .neq t (.func f cs ds) .nilf = some (.bool true) := by
  cases hu : P.underlying t with
  | none => simp [aeqT, hu] at h
  | some D => cases D <;> simp [abinA, aeqB, aeqN, hu] <;> simp [aeqT, hu] at h ⊢
@[simp] theorem eq_nilf  (h : aeqT P t .nilf .nilf = true) : abinA P .eql t .nilf .nilf = some (.bool true) := by
  cases hu : P.underlying t with
  | none => simp [aeqT, hu] at h
  | some D => cases D <;> simp [abinA, aeqB, aeqN, hu] <;> simp [aeqT, hu] at h ⊢
@[simp] theorem ne_nilf  (h : aeqT P t .nilf .nilf = true) : abinA P .neq t .nilf .nilf = some (.bool false) := by
  cases hu : P.underlying t with
  | none => simp [aeqT, hu] at h
  | some D => cases D <;> simp [abinA, aeqB, aeqN, hu] <;> simp [aeqT, hu] at h ⊢
@[simp] theorem eq_mp (r : Nat) (h : aeqT P t (.mp r) .nilm = true) : abinA P .eql t (.mp r) .nilm = some (.bool false) := by
  cases hu : P.underlying t with
  | none => simp [aeqT, hu] at h
  | some D => cases D <;> simp [abinA, aeqB, aeqN, hu] <;> simp [aeqT, hu] at h ⊢
@[simp] theorem ne_mp (r : Nat) (h : aeqT P t (.mp r) .nilm = true) : abinA P .neq t (.mp r) .nilm = some (.bool true) := by
  cases hu : P.underlying t with
  | none => simp [aeqT, hu] at h
  | some D => cases D <;> simp [abinA, aeqB, aeqN, hu] <;> simp [aeqT, hu] at h ⊢
@[simp] theorem eq_nilm  (h : aeqT P t .nilm .nilm = true) : abinA P .eql t .nilm .nilm = some (.bool true) := by
  cases hu : P.underlying t with
  | none => simp [aeqT, hu] at h
  | some D => cases D <;> simp [abinA, aeqB, aeqN, hu] <;> simp [aeqT, hu] at h ⊢
@[simp] theorem ne_nilm  (h : aeqT P t .nilm .nilm = true) : abinA P .neq t .nilm .nilm = some (.bool false) := by
  cases hu : P.underlying t with
  | none => simp [aeqT, hu] at h
  | some D => cases D <;> simp [abinA, aeqB, aeqN, hu] <;> simp [aeqT, hu] at h ⊢
@[simp] theorem eq_rs (k : Nat) (l : List (List AVal)) : abinA P .eql t (.rs k l) .nils = none := by
  simp only [abinA, aeqB]
  split <;> first | rfl | (simp_all [aeqN]; done) | (simp [aeqN]; done)
@[simp] theorem ne_rs (k : Nat) (l : List (List AVal)) : abinA P .neq t (.rs k l) .nils = none := by
  simp only [abinA, aeqB]
  split <;> first | rfl | (simp_all [aeqN]; done) | (simp [aeqN]; done)
@[simp] theorem eq_sl (r o n : Nat) : abinA P .eql t (.sl r o n) .nils = none := by
  simp only [abinA, aeqB]
  split <;> first | rfl | (simp_all [aeqN]; done) | (simp [aeqN]; done)
@[simp] theorem ne_sl (r o n : Nat) : abinA P .neq t (.sl r o n) .nils = none := by
  simp only [abinA, aeqB]
  split <;> first | rfl | (simp_all [aeqN]; done) | (simp [aeqN]; done)
@[simp] theorem eq_e0  : abinA P .eql t .e0 .nils = none := by
  simp only [abinA, aeqB]
  split <;> first | rfl | (simp_all [aeqN]; done) | (simp [aeqN]; done)
@[simp] theorem ne_e0  : abinA P .neq t .e0 .nils = none := by
  simp only [abinA, aeqB]
  split <;> first | rfl | (simp_all [aeqN]; done) | (simp [aeqN]; done)
attribute [simp] aeqT
def isSlT : Bool := match P.underlying t with
  | some (.slice _) => true
  | _ => false
attribute [simp] isSlT
theorem isSlT_iff : isSlT P t = true ↔ ∃ e, P.underlying t = some (.slice e) := by
  unfold isSlT
  cases P.underlying t with
  | none => simp
  | some D => cases D <;> simp
@[simp] theorem alen_sl (r o n : Nat) (η : AHeap) (h : isSlT P t = true) : alenT P t (.sl r o n) η = some (n : Int) := by
  obtain ⟨e, h⟩ := (isSlT_iff P t).1 h; simp [alenT, h]
@[simp] theorem alen_slc (r o n c : Nat) (η : AHeap) (h : isSlT P t = true) : alenT P t (.slc r o n c) η = some (n : Int) := by
  obtain ⟨e, h⟩ := (isSlT_iff P t).1 h; simp [alenT, h]
@[simp] theorem alen_rs (k : Nat) (l : List (List AVal)) (η : AHeap) (h : isSlT P t = true) : alenT P t (.rs k l) η = some (l.length : Int) := by
  obtain ⟨e, h⟩ := (isSlT_iff P t).1 h; simp [alenT, h]
@[simp] theorem alen_nils (η : AHeap) (h : isSlT P t = true) : alenT P t .nils η = some 0 := by
  obtain ⟨e, h⟩ := (isSlT_iff P t).1 h; simp [alenT, h]
@[simp] theorem alen_e0 (η : AHeap) (h : isSlT P t = true) : alenT P t .e0 η = some 0 := by
  obtain ⟨e, h⟩ := (isSlT_iff P t).1 h; simp [alenT, h]
@[simp] theorem alen_arr (r i j n z : Nat) (η : AHeap) (h : isSlT P t = true) : alenT P t (.arr r i j n z) η = some (n : Int) := by
  obtain ⟨e, h⟩ := (isSlT_iff P t).1 h; simp [alenT, h]
@[simp] theorem eq_arr (r i j n z : Nat) : abinA P .eql t (.arr r i j n z) .nils = none := by
  simp only [abinA, aeqB]
  split <;> first | rfl | (simp_all; done) | (simp [aeqN]; done)
@[simp] theorem ne_arr (r i j n z : Nat) : abinA P .neq t (.arr r i j n z) .nils = none := by
  simp only [abinA, aeqB]
  split <;> first | rfl | (simp_all; done) | (simp [aeqN]; done)
@[simp] theorem alen_str (s : ByteArray) (η : AHeap) (h : P.underlying t = some .string) : alenT P t (.str s) η = some (s.size : Int) := by simp [alenT, h]
end
theorem endK.heap {W : List Nat} {fr g : Nat → AVal} {nt : Nat} {ι : Type} {I : ι → Prop} {sl : ι → List (Nat × AVal)} {hp : ι → AHeap} {nn : ι → Nat} {μ : ι → Nat} {m : Nat} {η : AHeap} {n : Nat} (h : ∀ H, H = η → endK W fr nt I sl hp nn μ m ⟨g, nt, H, n⟩) : endK W fr nt I sl hp nn μ m ⟨g, nt, η, n⟩ := h _ rfl
theorem ACK.heap {P : Program} {f : FuncId} {args : List AVal} {η : AHeap} {n : Nat} {K : AVal → AHeap → Nat → Prop} {g : Tag K} (h : ∀ H, H = η → ACK P f args H n K g) : ACK P f args η n K g := h _ rfl
end Go.Proofs.YtbomkomipaipmaaGreat
namespace Go.Proofs.YtbomkomipaipmaaGreat

def memOf (w : World) : Mem := fun b => match w.heap[b]? with
  | some (.cells arr _ _) => some arr
  | _ => none
theorem memOf_some {w : World} {b : Nat} {arr : Array Value} (h : memOf w b = some arr) : ∃ T z, w.heap[b]? = some (.cells arr T z) := by
  unfold memOf at h
  split at h
  · rename_i a T z hb; cases h; exact ⟨T, z, hb⟩
  · cases h

/-- a value with the rows of F as read only -/
def frz (F : Nat → Bool) (η : AHeap) : Nat → AVal → AVal
  | 0, c => c
  | f + 1, .sl r o m => match η r with
    | some (.cells k rows) => if F r = true ∧ o + m ≤ rows.length ∧ m ≤ lenMax then .rs k (((rows.drop o).take m).map fun row => row.map (frz F η f)) else .sl r o m
    | _ => .sl r o m
  | f + 1, .agg cs => .agg (cs.map (frz F η f))
  | f + 1, .tup cs => .tup (cs.map (frz F η f))
  | _ + 1, c => c
def objMap (φ : AVal → AVal) : AObj → AObj
  | .cells k rows => .cells k (rows.map fun row => row.map φ)
  | .map es => .map (es.map fun e => (e.1, φ e.2))
  | o => o
/-- the heap without them; the objects of G hold them as read only, too -/
def frzH (F : Nat → Bool) (G : List Nat) (f : Nat) (η : AHeap) : AHeap := fun x => if F x = true then none else if G.contains x = true then (η x).map (objMap (frz F η f)) else η x

theorem frz_sc (F : Nat → Bool) (η : AHeap) : ∀ (f : Nat) (c : AVal), (frz F η f c).sc = c.sc
  | 0, c => rfl
  | f + 1, c => by
    cases c <;> simp only [frz] <;> try rfl
    split
    · split <;> rfl
    · rfl

section
variable {P : Program} {own : Own} {M : Mem} {η : AHeap} {n : Nat} {w : World}
open Classical in
noncomputable def frzM (own : Own) (M : Mem) (F : Nat → Bool) (η : AHeap) (w : World) : Mem := fun b => match M b with
  | some a => some a
  | none => if ∃ r p k rows, F r = true ∧ η r = some (.cells k rows) ∧ own r = some p ∧ p.s < p.e ∧ p.b = b then memOf w b else none
theorem frzM_le (F : Nat → Bool) : M.le (frzM own M F η w) := fun b a h => by unfold frzM; rw [h]
theorem frzM_or {F : Nat → Bool} {b : Nat} (h : frzM own M F η w b ≠ none) : M b ≠ none ∨ OB own η b := by
  unfold frzM at h
  cases hM : M b with
  | some a => exact Or.inl (by simp)
  | none =>
    simp only [hM] at h
    split at h
    · rename_i hh
      obtain ⟨r, p, k, rows, _, h2, h3, h4, h5⟩ := hh
      exact Or.inr ⟨r, p, _, h2, h3, h4, h5⟩
    · exact absurd rfl h
theorem frzM_of {F : Nat → Bool} {r k : Nat} {rows : List (List AVal)} {p : Spot} {arr : Array Value} {T : TypeId} {z : Nat × Nat} (hM : M p.b = none) (hF : F r = true) (hη : η r = some (.cells k rows)) (hp : own r = some p) (hs : p.s < p.e) (hb : w.heap[p.b]? = some (.cells arr T z)) : frzM own M F η w p.b = some arr := by
  unfold frzM
  simp only [hM]
  rw [if_pos ⟨r, p, k, rows, hF, hη, hp, hs, rfl⟩]
  unfold memOf; rw [hb]

theorem frz_sound (hst : St own M η n w) (F : Nat → Bool) : ∀ (f : Nat) (c : AVal) (v : Value), VR own M c v → VR own (frzM own M F η w) (frz F η f c) v
  | 0, c, v, h => h.mono (Own.le_refl _) (frzM_le F)
  | f + 1, c, v, h => by
    have base : VR own (frzM own M F η w) c v := h.mono (Own.le_refl _) (frzM_le F)
    cases c <;> simp only [frz] <;> try exact base
    case sl r o m =>
      split
      · rename_i k rows hη
        split
        · rename_i hh
          obtain ⟨hF, hom, hm⟩ := hh
          obtain ⟨p, g1, g2⟩ := hst.obj r _ hη
          obtain ⟨e1, hk, hrows, hle, hreal, hcell⟩ := g2
          cases h with
          | sl _ _ _ p' a cap hr hn hmx hc =>
          rw [g1] at hr; cases hr
          have hlen : (((rows.drop o).take m).map fun row => row.map (frz F η f)).length = m := by simp; omega
          have hget : ∀ i row, (((rows.drop o).take m).map fun row => row.map (frz F η f))[i]? = some row → ∃ row0, rows[o + i]? = some row0 ∧ row = row0.map (frz F η f) ∧ i < m := fun i row hi => by
            have hil := (List.getElem?_eq_some_iff.1 hi).1
            rw [hlen] at hil
            rw [List.getElem?_map, List.getElem?_take, if_pos hil, List.getElem?_drop] at hi
            cases hx : rows[o + i]? with
            | none => rw [hx] at hi; simp at hi
            | some row0 => rw [hx] at hi; simp at hi; exact ⟨row0, rfl, hi.symm, hil⟩
          have hre : 0 < m → p.s < p.e := fun h0 => by
            have : 1 * k ≤ rows.length * k := Nat.mul_le_mul_right k (by omega)
            omega
          have key : ∀ arr, (0 < m → M p.b = none ∧ ∃ T, w.heap[p.b]? = some (.cells arr T (0, 0)) ∧ p.e ≤ arr.size) → VR own (frzM own M F η w) (.rs k (((rows.drop o).take m).map fun row => row.map (frz F η f))) (.slice a m cap) := fun arr harr => by
            have cellAt : ∀ (i j : Nat) (row : List AVal) (c : AVal), (((rows.drop o).take m).map fun row => row.map (frz F η f))[i]? = some row → row[j]? = some c → p.s + o * k + i * k + j < arr.size ∧ VR own (frzM own M F η w) c (arr.getD (p.s + o * k + i * k + j) Go.undef) := fun i j row c hi hj => by
              obtain ⟨row0, h1, rfl, hil⟩ := hget i row hi
              obtain ⟨hM, T, hb, hsz⟩ := harr (by omega)
              rw [List.getElem?_map] at hj
              cases hx : row0[j]? with
              | none => rw [hx] at hj; simp at hj
              | some c0 =>
                rw [hx] at hj; simp at hj; subst hj
                obtain ⟨u, k1, k2⟩ := hcell (o + i) j row0 c0 h1 hx
                have hjl := (List.getElem?_eq_some_iff.1 hx).1
                have hrl := hrows row0 (List.mem_of_getElem? h1)
                have hle2 : (o + i + 1) * k ≤ rows.length * k := Nat.mul_le_mul_right k (by have := (List.getElem?_eq_some_iff.1 h1).1; omega)
                rw [Nat.add_mul, Nat.add_mul] at hle2
                have e2 : p.s + (o + i) * k + j = p.s + o * k + i * k + j := by rw [Nat.add_mul]; omega
                rw [e2] at k1
                have hlt : p.s + o * k + i * k + j < arr.size := by omega
                refine ⟨hlt, ?_⟩
                rw [World.cell?, hb] at k1
                simp at k1
                rw [Array.getD_eq_getD_getElem?, k1]
                exact frz_sound hst F f c0 u k2
            have := VR.rs (own := own) (M := frzM own M F η w) k (((rows.drop o).take m).map fun row => row.map (frz F η f)) a cap p.b (p.s + o * k) arr (by rw [hlen]; exact hn) hmx (by rw [hlen]; exact hm)
              (fun h0 => by rw [hlen] at h0; rw [(hc (by omega)).1, e1]) (fun h0 => by
                rw [hlen] at h0
                obtain ⟨hM, T, hb, _⟩ := harr h0
                exact frzM_of hM hF hη g1 (hre h0) hb) (fun i row hi => by
                obtain ⟨row0, h1, rfl, _⟩ := hget i row hi
                rw [List.length_map]; exact hrows row0 (List.mem_of_getElem? h1)) (fun i j row c hi hj => (cellAt i j row c hi hj).1) (fun i j row c hi hj => (cellAt i j row c hi hj).2)
            rwa [hlen] at this
          by_cases h0 : 0 < m
          · obtain ⟨hM, arr, T, hb, hsz⟩ := hreal (hre h0)
            exact key arr fun _ => ⟨hM, T, hb, hsz⟩
          · exact key #[] fun h => absurd h h0
        · exact base
      · exact base
    case agg cs =>
      cases h with
      | agg _ A hA hs hc =>
      refine .agg _ A (by simpa using hA) (fun c hc' => ?_) fun i c hi => ?_
      · obtain ⟨c0, h1, rfl⟩ := List.mem_map.1 hc'
        rw [frz_sc]; exact hs c0 h1
      · rw [List.getElem?_map] at hi
        cases hx : cs[i]? with
        | none => rw [hx] at hi; simp at hi
        | some c0 => rw [hx] at hi; simp at hi; subst hi; exact frz_sound hst F f c0 _ (hc i c0 hx)
    case tup cs =>
      cases h with
      | tup _ A hA hc =>
      refine .tup _ A (by simpa using hA) fun i c hi => ?_
      rw [List.getElem?_map] at hi
      cases hx : cs[i]? with
      | none => rw [hx] at hi; simp at hi
      | some c0 => rw [hx] at hi; simp at hi; subst hi; exact frz_sound hst F f c0 _ (hc i c0 hx)

theorem frzH_some {F : Nat → Bool} {G : List Nat} {f x : Nat} {o : AObj} (h : frzH F G f η x = some o) : F x = false ∧ ∃ o0, η x = some o0 ∧ (o = o0 ∨ o = objMap (frz F η f) o0) := by
  unfold frzH at h
  split at h
  · cases h
  · rename_i hF
    refine ⟨by simpa using hF, ?_⟩
    split at h
    · cases hx : η x with
      | none => rw [hx] at h; cases h
      | some o0 => rw [hx] at h; cases h; exact ⟨o0, rfl, Or.inr rfl⟩
    · exact ⟨o, h, Or.inl rfl⟩
theorem frzH_st (hst : St own M η n w) (F : Nat → Bool) (G : List Nat) (f : Nat) : St own (frzM own M F η w) (frzH F G f η) n w := by
  refine ⟨hst.fresh, fun r o hr => ?_, fun r r' p p' o o' hne hr hr' => ?_, fun b arr h => ?_⟩
  · obtain ⟨hF, o0, h1, h2⟩ := frzH_some hr
    obtain ⟨p, g1, g2⟩ := hst.obj r o0 h1
    refine ⟨p, g1, ?_⟩
    have hno : p.s < p.e → frzM own M F η w p.b = none := fun hs => by
      unfold frzM
      rw [g2.noMem hs]
      simp only
      rw [if_neg]
      rintro ⟨r', p', k, rows, hF', hη', hp', hs', hb⟩
      have hne : r ≠ r' := fun e => by subst e; rw [hF] at hF'; cases hF'
      exact hst.inj r r' p p' o0 _ hne h1 hη' g1 hp' hs hs' hb.symm
    have g3 : OR own (frzM own M F η w) w p o0 := g2.keep (Own.le_refl _) (frzM_le F) (fun _ => rfl) hno
    rcases h2 with rfl | rfl
    · exact g3
    · cases o0 with
      | cells k rows =>
        obtain ⟨a1, a2, a3, a4, a5, a6⟩ := g3
        obtain ⟨_, _, _, _, _, b6⟩ := g2
        refine ⟨a1, a2, fun row hr => ?_, by simpa using a4, a5, fun i j row c hi hj => ?_⟩
        · obtain ⟨row0, h3, rfl⟩ := List.mem_map.1 hr
          rw [List.length_map]; exact a3 row0 h3
        · rw [List.getElem?_map] at hi
          cases hx : rows[i]? with
          | none => rw [hx] at hi; simp at hi
          | some row0 =>
            rw [hx] at hi; simp at hi; subst hi
            rw [List.getElem?_map] at hj
            cases hy : row0[j]? with
            | none => rw [hy] at hj; simp at hj
            | some c0 =>
              rw [hy] at hj; simp at hj; subst hj
              obtain ⟨v, k1, k2⟩ := b6 i j row0 c0 hx hy
              exact ⟨v, k1, frz_sound hst F f c0 v k2⟩
      | map es =>
        obtain ⟨a1, a2, E, clk, a3, a4, a5, a6⟩ := g3
        obtain ⟨_, _, E', clk', b3, b4, _, b6⟩ := g2
        rw [a3] at b3; cases b3
        refine ⟨a1, a2, E, clk, a3, by simpa using a4, a5, fun i e x hi hx => ?_⟩
        rw [List.getElem?_map] at hi
        cases hy : es[i]? with
        | none => rw [hy] at hi; simp at hi
        | some e0 =>
          rw [hy] at hi; simp at hi; subst hi
          exact ⟨(a6 i e0 x hy hx).1, frz_sound hst F f e0.2 _ (b6 i e0 x hy hx).2⟩
      | loop pend ps as bd fr nt => exact g3
      | mapR E clk es => exact g3
      | iter m seen => exact g3
  · obtain ⟨_, o0, h1, _⟩ := frzH_some hr
    obtain ⟨_, o1, h2, _⟩ := frzH_some hr'
    exact hst.inj r r' p p' o0 o1 hne h1 h2
  · unfold frzM at h
    cases hM : M b with
    | some a => rw [hM] at h; cases h; exact hst.mem b arr hM
    | none =>
      rw [hM] at h
      simp only at h
      split at h
      · exact memOf_some h
      · cases h
end

theorem cpyK.own {P : Program} {t t2 e e2 : TypeId} {r o m z : Nat} {y : AVal} {η : AHeap} {n : Nat} {K : AVal → AHeap → Nat → Prop} {g : Tag K} {news rows : List (List AVal)} (h1 : telem P t = some e) (h2 : tsize P e = some z) (h3 : P.underlying t2 = some (.slice e2)) (h4 : 0 < z)
    (h5 : arows z y η = some news) (h6 : ∀ r ∈ news, ∀ c ∈ r, c.sc = true) (h7 : η r = some (.cells z rows)) (h8 : o + m ≤ rows.length) (hK : K (.int .i64 (min news.length m : Nat)) (upd η r (some (.cells z (rows.take o ++ news.take (min news.length m) ++ rows.drop (o + min news.length m))))) n) :
    cpyK P t t2 (.sl r o m) y η n K g := by
  unfold cpyK acopy
  simp only [h1, h2, h3, h5, h7]
  exact ⟨h4, h6, trivial, h8, hK⟩

/-! ### Values seen as less -/
def Ent (c c' : AVal) : Prop := ∀ own M v, VR own M c v → VR own M c' v
def EntL : List AVal → List AVal → Prop
  | [], [] => True
  | c :: cs, d :: ds => Ent c d ∧ EntL cs ds
  | _, _ => False
def EntR : List (List AVal) → List (List AVal) → Prop
  | [], [] => True
  | c :: cs, d :: ds => EntL c d ∧ EntR cs ds
  | _, _ => False
@[simp] theorem Ent.refl (c : AVal) : Ent c c := fun _ _ _ h => h
@[simp] theorem Ent.undef (c : AVal) : Ent c .undef := fun _ _ _ _ => .undef _
@[simp] theorem Ent.nils (k : Nat) : Ent .nils (.rs k []) := fun own M v h => by
  cases h
  exact .rs k [] none 0 0 0 #[] (by simp) (by omega) (by simp) (fun h => absurd h (by simp)) (fun h => absurd h (by simp)) (fun i row h => by simp at h) (fun i j row c h => by simp at h) (fun i j row c h => by simp at h)
@[simp] theorem EntL.nil : EntL [] [] = True := rfl
@[simp] theorem EntL.cons (c d : AVal) (cs ds : List AVal) : EntL (c :: cs) (d :: ds) = (Ent c d ∧ EntL cs ds) := rfl
@[simp] theorem EntR.nil : EntR [] [] = True := rfl
@[simp] theorem EntR.cons (c d : List AVal) (cs ds : List (List AVal)) : EntR (c :: cs) (d :: ds) = (EntL c d ∧ EntR cs ds) := rfl
theorem EntL.len : ∀ {cs ds : List AVal}, EntL cs ds → cs.length = ds.length
  | [], [], _ => rfl
  | c :: cs, d :: ds, h => by simp [EntL.len h.2]
theorem EntL.get : ∀ {cs ds : List AVal}, EntL cs ds → ∀ (i : Nat) d, ds[i]? = some d → ∃ c, cs[i]? = some c ∧ Ent c d
  | [], [], _, i, d, h => by simp at h
  | c :: cs, d0 :: ds, h, 0, d, hd => by simp at hd; subst hd; exact ⟨c, rfl, h.1⟩
  | c :: cs, d0 :: ds, h, i + 1, d, hd => by simpa using EntL.get h.2 i d (by simpa using hd)
theorem EntR.len : ∀ {cs ds : List (List AVal)}, EntR cs ds → cs.length = ds.length
  | [], [], _ => rfl
  | c :: cs, d :: ds, h => by simp [EntR.len h.2]
theorem EntR.get : ∀ {cs ds : List (List AVal)}, EntR cs ds → ∀ (i : Nat) d, ds[i]? = some d → ∃ c, cs[i]? = some c ∧ EntL c d
  | [], [], _, i, d, h => by simp at h
  | c :: cs, d0 :: ds, h, 0, d, hd => by simp at hd; subst hd; exact ⟨c, rfl, h.1⟩
  | c :: cs, d0 :: ds, h, i + 1, d, hd => by simpa using EntR.get h.2 i d (by simpa using hd)
theorem EntL.refl : ∀ cs, EntL cs cs
  | [] => trivial
  | c :: cs => ⟨Ent.refl c, EntL.refl cs⟩
theorem EntR.refl : ∀ cs, EntR cs cs
  | [] => trivial
  | c :: cs => ⟨EntL.refl c, EntR.refl cs⟩
theorem Ent.agg {cs ds : List AVal} (h : EntL cs ds) (hs : (ds.all AVal.sc) = true) : Ent (.agg cs) (.agg ds) := fun own M v hv => by
  cases hv with
  | agg _ A hA _ hc =>
  exact .agg _ A (by rw [hA, h.len]) (fun c hc => List.all_eq_true.1 hs c hc) fun i d hd => by
    obtain ⟨c, h1, h2⟩ := h.get i d hd
    exact h2 _ _ _ (hc i c h1)
theorem Ent.rs {k : Nat} {cs ds : List (List AVal)} (h : EntR cs ds) : Ent (.rs k cs) (.rs k ds) := fun own M v hv => by
  have hlen := h.len
  cases hv with
  | rs _ _ a cap b o arr hn hm hx ha hb hk hl hc =>
  rw [hlen]
  refine .rs k ds a cap b o arr (by rw [← hlen]; exact hn) hm (by rw [← hlen]; exact hx) (fun h0 => ha (by rw [hlen]; exact h0)) (fun h0 => hb (by rw [hlen]; exact h0)) (fun i row hi => ?_) (fun i j row d hi hj => ?_) (fun i j row d hi hj => ?_)
  · obtain ⟨c, h1, h2⟩ := h.get i row hi
    rw [← h2.len]; exact hk i c h1
  · obtain ⟨c, h1, h2⟩ := h.get i row hi
    obtain ⟨c', h3, _⟩ := h2.get j d hj
    exact hl i j c c' h1 h3
  · obtain ⟨c, h1, h2⟩ := h.get i row hi
    obtain ⟨c', h3, h4⟩ := h2.get j d hj
    exact h4 _ _ _ (hc i j c c' h1 h3)
theorem AC.args {P : Program} {η : AHeap} {n : Nat} {f : FuncId} {args args' : List AVal} {K : AVal → AHeap → Nat → Prop} (h : AC P f args' η n K) (he : EntL args args') : AC P f args η n K := by
  intro own M w vals h1 h2 h3
  exact h own M w vals h1 (by rw [h2, he.len]) fun i c hi => by
    obtain ⟨c0, g1, g2⟩ := he.get i c hi
    exact g2 _ _ _ (h3 i c0 g1)
/-- an object's cells seen as less -/
theorem EntR.rows {cs ds : List (List AVal)} {k : Nat} (h : EntR cs ds) (hk : ∀ row ∈ cs, row.length = k) : ∀ row ∈ ds, row.length = k := fun row hr => by
  obtain ⟨i, hi⟩ := List.mem_iff_getElem?.1 hr
  obtain ⟨c, h1, h2⟩ := h.get i row hi
  rw [← h2.len]; exact hk c (List.mem_of_getElem? h1)
theorem AC.weak {P : Program} {η : AHeap} {n : Nat} {f : FuncId} {args : List AVal} {K : AVal → AHeap → Nat → Prop} {r k : Nat} {rows rows' : List (List AVal)} (hη : η r = some (.cells k rows)) (he : EntR rows rows') (h : AC P f args (upd η r (some (.cells k rows'))) n K) : AC P f args η n K := by
  intro own M w vals h1 h2 h3
  have hst : St own M (upd η r (some (.cells k rows'))) n w := by
    obtain ⟨p, g1, g2⟩ := h1.obj r _ hη
    refine ⟨h1.fresh, fun x o hx => ?_, fun x x' q q' o o' hne hx hx' => ?_, h1.mem⟩
    · by_cases e : x = r
      · subst e
        rw [upd_eq] at hx; cases hx
        obtain ⟨a1, a2, a3, a4, a5, a6⟩ := g2
        refine ⟨p, g1, a1, a2, he.rows a3, by rw [← he.len]; exact a4, a5, fun i j row c hi hj => ?_⟩
        obtain ⟨row0, b1, b2⟩ := he.get i row hi
        obtain ⟨c0, b3, b4⟩ := b2.get j c hj
        obtain ⟨v, b5, b6⟩ := a6 i j row0 c0 b1 b3
        exact ⟨v, b5, b4 _ _ _ b6⟩
      · rw [upd_ne e] at hx; exact h1.obj x o hx
    · have old : ∀ x o, upd η r (some (.cells k rows')) x = some o → ∃ o0, η x = some o0 := fun x o hx => by
        by_cases e : x = r
        · subst e; exact ⟨_, hη⟩
        · rw [upd_ne e] at hx; exact ⟨o, hx⟩
      obtain ⟨o0, y0⟩ := old x o hx
      obtain ⟨o1, y1⟩ := old x' o' hx'
      exact h1.inj x x' q q' o0 o1 hne y0 y1
  have hob : ∀ b, OB own (upd η r (some (.cells k rows'))) b → OB own η b := fun b hb => OB.turn hη hb
  refine (h own M w vals hst h2 h3).mono ?_
  rintro e w' ⟨u, rfl, v, η', n', own', M', hK, a1, a2, a3, a4, a5, a6, a7⟩
  exact ⟨u, rfl, v, η', n', own', M', hK, a1, a2, a3, a4, a5, a6.weaken hob, fun b hb => (a7.1 b hb).imp (hob b) _root_.id, fun b hb => (a7.2 b hb).imp _root_.id fun h => h.imp (hob b) _root_.id⟩
/-! ### What a function hands back, with all that it made as read only: then no number has been used -/
inductive NQ (η : AHeap) : AVal → Prop
  | undef : NQ η .undef
  | int (k : IntKind) (n : Int) : NQ η (.int k n)
  | bool (b : Bool) : NQ η (.bool b)
  | str (s : ByteArray) : NQ η (.str s)
  | nilp : NQ η .nilp
  | nils : NQ η .nils
  | e0 : NQ η .e0
  | nilf : NQ η .nilf
  | nilm : NQ η .nilm
  | ptr (r i j : Nat) (h : η r ≠ none) : NQ η (.ptr r i j)
  | sl (r o n : Nat) (h : η r ≠ none) : NQ η (.sl r o n)
  | mp (r : Nat) (h : η r ≠ none) : NQ η (.mp r)
  | arr (r i j n z : Nat) (h : η r ≠ none) : NQ η (.arr r i j n z)
  | yld (r : Nat) (h : η r ≠ none) : NQ η (.yld r)
  | slc (r o n c : Nat) (h : η r ≠ none) : NQ η (.slc r o n c)
  | ro (cs : List AVal) (j : Nat) (h : ∀ c ∈ cs, NQ η c) : NQ η (.ro cs j)
  | rs (k : Nat) (rows : List (List AVal)) (h : ∀ row ∈ rows, ∀ c ∈ row, NQ η c) : NQ η (.rs k rows)
  | func (f : FuncId) (a b : List AVal) (h : ∀ c ∈ a, NQ η c) (h' : ∀ c ∈ b, NQ η c) : NQ η (.func f a b)
  | agg (cs : List AVal) (h : ∀ c ∈ cs, NQ η c) : NQ η (.agg cs)
  | tup (cs : List AVal) (h : ∀ c ∈ cs, NQ η c) : NQ η (.tup cs)
theorem VR.backQ {own own' : Own} {M' : Mem} {η : AHeap} (hle : own.le own') (hη : ∀ r, η r ≠ none → ∃ p, own r = some p) {c : AVal} {v : Value} (h : VR own' M' c v) (hc : NQ η c) : VR own M' c v := by
  have key : ∀ r p, own' r = some p → η r ≠ none → own r = some p := fun r p h1 h2 => by
    obtain ⟨q, hq⟩ := hη r h2
    have := hle _ _ hq
    rw [h1] at this; cases this; exact hq
  induction h with
  | undef v => exact .undef v
  | int k n => exact .int k n
  | bool b => exact .bool b
  | str s => exact .str s
  | nilp => exact .nilp
  | ptr r i j p h => cases hc with | ptr _ _ _ h' => exact .ptr r i j p (key r p h h')
  | ro cs j b o arr hb hl _ ih => cases hc with | ro _ _ h => exact .ro cs j b o arr hb hl fun i c hi => ih i c hi (h c (List.mem_of_getElem? hi))
  | nils => exact .nils
  | e0 a => exact .e0 a
  | sl r o n p a cap h hn hm hcc => cases hc with | sl _ _ _ h' => exact .sl r o n p a cap (key r p h h') hn hm hcc
  | rs k rows a cap b o arr hn hm hx ha hb hk hl _ ih => cases hc with | rs _ _ h => exact .rs k rows a cap b o arr hn hm hx ha hb hk hl fun i j row c hi hj => ih i j row c hi hj (h row (List.mem_of_getElem? hi) c (List.mem_of_getElem? hj))
  | func f fs cs F C hF hC _ _ ih1 ih2 => cases hc with | func _ _ _ h h' => exact .func f fs cs F C hF hC (fun i c hi => ih1 i c hi (h c (List.mem_of_getElem? hi))) (fun i c hi => ih2 i c hi (h' c (List.mem_of_getElem? hi)))
  | nilf => exact .nilf
  | nilm => exact .nilm
  | mp r p h => cases hc with | mp _ h' => exact .mp r p (key r p h h')
  | agg cs A hA hs _ ih => cases hc with | agg _ h => exact .agg cs A hA hs fun i c hi => ih i c hi (h c (List.mem_of_getElem? hi))
  | tup cs A hA _ ih => cases hc with | tup _ h => exact .tup cs A hA fun i c hi => ih i c hi (h c (List.mem_of_getElem? hi))
  | arr r i j n z p a cap h hn hm hcc => cases hc with | arr _ _ _ _ _ h' => exact .arr r i j n z p a cap (key r p h h') hn hm hcc
  | yld r p h => cases hc with | yld _ h' => exact .yld r p (key r p h h')
  | slc r o n c p a cap h hn hcc hm hc2 => cases hc with | slc _ _ _ _ h' => exact .slc r o n c p a cap (key r p h h') hn hcc hm hc2
/-- a value with all rows from n on as read only -/
def gnd (n : Nat) (η : AHeap) (fu : Nat) (v : AVal) : AVal := frz (fun r => decide (n ≤ r)) η fu v
theorem AC.ground {P : Program} {f : FuncId} {args : List AVal} {η : AHeap} {n : Nat} {R : AVal → Prop} (fu : Nat) (h : AC P f args η n fun v η' _ => (∀ r, r < n → η' r = η r) ∧ ∃ v', Ent (gnd n η' fu v) v' ∧ R v') (hR : ∀ v, R v → NQ η v) :
    AC P f args η n fun v η' n' => R v ∧ η' = η ∧ n' = n := by
  intro own M w vals hst h2 h3
  refine (h own M w vals hst h2 h3).mono ?_
  rintro e w' ⟨u, rfl, v, η', n', own', M', ⟨hk, v', he, hv⟩, a1, a2, a3, a4, a5, a6, a7⟩
  have s1 := frzH_st a2 (fun r => decide (n ≤ r)) [] fu
  have v1 := he _ _ _ (frz_sound a2 (fun r => decide (n ≤ r)) fu v u a3)
  have hown : ∀ r, η r ≠ none → ∃ p, own r = some p := fun r hr => by
    cases ho : η r with
    | none => exact absurd ho hr
    | some o => obtain ⟨p, g, _⟩ := hst.obj r o ho; exact ⟨p, g⟩
  refine ⟨u, rfl, v', η, n, own, _, ⟨hv, rfl, rfl⟩, Nat.le_refl _, ⟨hst.fresh, fun r o hr => ?_, hst.inj, s1.mem⟩, v1.backQ a4 hown (hR _ hv), Own.le_refl _, Mem.le_trans a5 (frzM_le _), a6, fun b hb => Or.inl hb, fun b hb => (frzM_or hb).elim (a7.2 b) fun h => Or.inr (a7.1 b h)⟩
  obtain ⟨p, g1, g2⟩ := hst.obj r o hr
  have hlt := hst.lt hr
  have hr' : frzH (fun r => decide (n ≤ r)) [] fu η' r = some o := by
    unfold frzH
    rw [if_neg (by simp; omega), if_neg (by simp), hk r hlt]; exact hr
  obtain ⟨p', g3, g4⟩ := s1.obj r o hr'
  have := a4 _ _ g1
  rw [g3] at this; cases this
  exact ⟨_, g1, g4.back2 a4 g2⟩
@[simp] theorem gnd_int (n : Nat) (η : AHeap) (fu : Nat) (k : IntKind) (x : Int) : gnd n η fu (.int k x) = .int k x := by cases fu <;> rfl
@[simp] theorem gnd_bool (n : Nat) (η : AHeap) (fu : Nat) (x : Bool) : gnd n η fu (.bool x) = .bool x := by cases fu <;> rfl
@[simp] theorem gnd_nils (n : Nat) (η : AHeap) (fu : Nat) : gnd n η fu .nils = .nils := by cases fu <;> rfl
@[simp] theorem gnd_rs (n : Nat) (η : AHeap) (fu k : Nat) (rows : List (List AVal)) : gnd n η fu (.rs k rows) = .rs k rows := by cases fu <;> rfl
theorem gnd_tup (n : Nat) (η : AHeap) (fu : Nat) (l : List AVal) : gnd n η (fu + 1) (.tup l) = .tup (l.map (gnd n η fu)) := rfl
theorem gnd_agg (n : Nat) (η : AHeap) (fu : Nat) (l : List AVal) : gnd n η (fu + 1) (.agg l) = .agg (l.map (gnd n η fu)) := rfl
theorem gnd_old {n r o m : Nat} (η : AHeap) (fu : Nat) (h : r < n) : gnd n η fu (.sl r o m) = .sl r o m := by
  cases fu with
  | zero => rfl
  | succ fu =>
    simp only [gnd, frz]
    split
    · rw [if_neg]; simp; omega
    · rfl
theorem gnd_new {n r o m k : Nat} {η : AHeap} {fu : Nat} {rows : List (List AVal)} (h : n ≤ r) (hη : η r = some (.cells k rows)) (h1 : o + m ≤ rows.length) (h2 : m ≤ lenMax) : gnd n η (fu + 1) (.sl r o m) = .rs k (((rows.drop o).take m).map fun row => row.map (gnd n η fu)) := by
  simp only [gnd, frz, hη]
  rw [if_pos ⟨by simpa using h, h1, h2⟩]
  rfl
end Go.Proofs.YtbomkomipaipmaaGreat
namespace Go.Proofs.YtbomkomipaipmaaGreat

section
variable {P : Program}
/-- what an iterator yields, one behind the other, wherever its data D stands -/
def IterC (P : Program) (gf : FuncId) (caps : List AVal) (xs : List (List AVal)) (D : AHeap → Prop) : Prop :=
  ∀ (y : Nat) (η : AHeap) (n : Nat) (J : List (List AVal) → AHeap → Nat → Prop), (∀ pre η n η' n', J pre η n → η.le η' → n ≤ n' → J pre η' n') → (∀ pre η n, J pre η n → D η) → J [] η n →
    (∀ pre x rest, xs = pre ++ x :: rest → ∀ η n, J pre η n → YAC P y x η n fun v η' n' => v = .bool true ∧ J (pre ++ [x]) η' n') → AC P gf ([.yld y] ++ caps) η n fun _ η' n' => J xs η' n'

def doneQ (K : AHeap → Nat → Prop) : Exit → AState → Prop
  | .normal, s => K s.η s.n
  | _, _ => False
@[simp ↓] theorem doneQ_normal (K : AHeap → Nat → Prop) (s : AState) : doneQ K .normal s = K s.η s.n := rfl

theorem le_hide {η η' : AHeap} {y : Nat} (h : η.le η') : (upd η y none).le (upd η' y none) := fun r o hr => by
  by_cases e : r = y
  · subst e; rw [upd_eq] at hr; cases hr
  · rw [upd_ne e] at hr ⊢; exact h r o hr
theorem awp_mono' {c : Code} : ∀ {Q Q' : Exit → AState → Prop} {s : AState}, (∀ e s, Q e s → Q' e s) → awp P c Q s → awp P c Q' s := by
  induction c with
  | skip => exact fun hq h => hq _ _ h
  | region id ops draw =>
    intro Q Q' s hq h
    simp only [awp] at h ⊢
    cases draw with
    | true => exact fun κ a w hr => wp_mono (h κ a w hr) fun e a w ⟨s, h1, h2⟩ => ⟨s, hq _ _ h1, h2⟩
    | false =>
      simp only [Bool.false_eq_true, if_false] at h ⊢
      have : ∀ (l : List Oper) (K K' : AState → Prop) (s : AState), (∀ s, K s → K' s) → aseq P ops l K s → aseq P ops l K' s := by
        intro l
        induction l with
        | nil => exact fun K K' s hk h => hk s h
        | cons o l ih =>
          intro K K' s hk h
          simp only [aseq] at h ⊢
          have hstep : ∀ s, astep P o (fun s' => aseq P ops l K s') s → astep P o (fun s' => aseq P ops l K' s') s := fun s h => by
            unfold astep at h ⊢
            split at h
            · rename_i v hv; exact ih K K' _ hk h
            · rename_i hv
              split at h
              · rename_i y args hy
                intro rd m own M w vals p h1 h2 h3 h4
                obtain ⟨r, k1, k2, k3⟩ := h rd m own M w vals p h1 h2 h3 h4
                exact ⟨r, k1, k2, k3.mono fun e w' ⟨u, e1, v, η', n', own', M', g1, g2⟩ => ⟨u, e1, v, η', n', own', M', ih K K' _ hk g1, g2⟩⟩
              · rename_i hy
                exact achg_mono (fun v η n h => ih K K' _ hk h) h
          unfold aguard at h ⊢
          split at h
          · rename_i hg; exact hstep s h
          · rename_i j b hg
            split at h
            · rename_i d hd
              split at h
              · rename_i t ht; exact ⟨fun e => hstep s (h.1 e), fun e => ih K K' _ hk (h.2 e)⟩
              · rename_i ht; exact ih K K' _ hk h
              · exact h.elim
            · exact h.elim
      exact this _ _ _ _ (fun s h => hq _ _ h) h
  | seq x y ihx ihy =>
    intro Q Q' s hq h
    simp only [awp] at h ⊢
    refine ihx (fun e s h => ?_) h
    cases e <;> first | exact ihy hq h | exact hq _ _ h
  | cond c x y ihx ihy =>
    intro Q Q' s hq h
    simp only [awp] at h ⊢
    split at h
    · rename_i t ht; exact ⟨fun e => ihx hq (h.1 e), fun e => ihy hq (h.2 e)⟩
    · exact h.elim
  | block id c ih =>
    intro Q Q' s hq h
    simp only [awp] at h ⊢
    refine ih (fun e s h => ?_) h
    cases e with
    | exit i =>
      simp only [inBlockP] at h ⊢
      split at h
      · rename_i e; rw [if_pos e]; exact hq _ _ h
      · rename_i e; rw [if_neg e]; exact hq _ _ h
    | _ => exact hq _ _ h
  | loop c ih =>
    intro Q Q' s hq h
    simp only [awp] at h ⊢
    obtain ⟨ι, st, μ, x0, h0, h1⟩ := h
    refine ⟨ι, st, μ, x0, h0, fun x => ih (fun e s h => ?_) (h1 x)⟩
    cases e <;> first | exact h | exact hq _ _ h
  | exit id => exact fun hq h => hq _ _ h
  | ret => exact fun hq h => hq _ _ h
  | rangeFunc g ps as bd =>
    intro Q Q' s hq h
    simp only [awp] at h ⊢
    unfold RangeP at h ⊢
    split at h
    · rename_i gf first caps hg
      refine ⟨h.1, h.2.mono fun v η' n' ⟨pend, k1, k2⟩ => ⟨pend, k1, ?_⟩⟩
      unfold afterP at k2 ⊢
      split at k2 <;> first | exact hq _ _ k2 | exact k2.elim
    · exact h.elim
  | _ => exact fun _ h => h.elim

theorem rangeF.run {gf : FuncId} {caps : List AVal} {ps : Array Tmp} {as bd : Code} {fr : Nat → AVal} {nt : Nat} {η : AHeap} {n : Nat} {Q : Exit → AState → Prop} {g1 : Tag as} {g2 : Tag bd} {g3 : Tag Q} (xs : List (List AVal)) (D : AHeap → Prop) (I : List (List AVal) → AHeap → Nat → Prop)
    (hHB : HB P gf = true) (hp1 : plainR as = true) (hp2 : plainR bd = true) (hps : ∀ x ∈ xs, x.length = ps.size) (hit : IterC P gf caps xs D) (hup : ∀ pre η n η' n', I pre η n → η.le η' → n ≤ n' → I pre η' n') (hy : ∀ pre η' n', I pre η' n' → I pre (upd η' n none) n')
    (hD : ∀ pre η' n', I pre η' n' → D η') (h0 : I [] η (n + 1))
    (hround : ∀ pre x rest, xs = pre ++ x :: rest → ∀ η' n', I pre η' n' → wpK P as ⟨setPs nt ps.toList x fr, nt, η', n'⟩ (thenP (fun s => wpK P bd s (doneQ fun η n => I (pre ++ [x]) η n) .mk .mk) fun _ _ => False) .mk .mk)
    (hdone : ∀ η' n', I xs η' n' → Q .normal ⟨fr, nt, η', n'⟩) : rangeFK P (.func gf [] caps) ps as bd ⟨fr, nt, η, n⟩ Q g1 g2 g3 := by
  rw [rangeFK_func _ _ _ _ _ _ _ _ _ _ _ _ _ _ hHB]
  refine ACK.use (hit n _ _ (fun pre η' n' => η' n = some (.loop none ps as bd fr nt) ∧ I pre (upd η' n none) n') (fun pre η1 n1 η2 n2 h hle hn => ⟨hle _ _ h.1, hup _ _ _ _ _ h.2 (le_hide hle) hn⟩) (fun pre η1 n1 h => ?_) ?_ ?_) ?_
  · have := hD _ _ _ h.2
    exact hD pre _ n1 (hup _ _ _ _ _ h.2 (fun r o hr => by
      by_cases e : r = n
      · subst e; rw [upd_eq] at hr; cases hr
      · rwa [upd_ne e] at hr) (Nat.le_refl _))
  · refine ⟨upd_eq _ _ _, ?_⟩
    rw [upd_upd]
    exact hy _ _ _ h0
  · intro pre x rest hx η1 n1 ⟨k1, k2⟩
    refine YAC.round k1 (hps x (by rw [hx]; simp)) hp1 hp2 ?_
    refine awp_mono' (fun e s h => ?_) (hround pre x rest hx _ _ k2)
    cases e with
    | normal =>
      refine awp_mono' (fun e s h => ?_) h
      cases e with
      | normal =>
        refine ⟨upd s.η n none, s.n, fun r o hr => ?_, Nat.le_refl _, rfl, upd_eq _ _ _, ?_⟩
        · by_cases e : r = n
          · subst e; rw [upd_eq] at hr; cases hr
          · rwa [upd_ne e] at hr
        · rw [upd_upd, upd_upd]; exact hy _ _ _ h
      | _ => exact h.elim
    | _ => exact h
  · intro v η' n' ⟨k1, k2⟩
    exact ⟨none, k1, hdone _ _ k2⟩
theorem YACK.useF {y : Nat} {args : List AVal} {η : AHeap} {n : Nat} {K K' : AVal → AHeap → Nat → Prop} {g : Tag K} (h : YAC P y args η n K') (hk : ∀ v η' n', K' v η' n' → (∀ r, n' ≤ r → η' r = none) → K v η' n') : YACK P y args η n K g := by
  intro rd m own M w vals p h1 h2 h3 h4
  obtain ⟨r, k1, k2, k3⟩ := h rd m own M w vals p h1 h2 h3 h4
  refine ⟨r, k1, k2, k3.mono fun e w' ⟨u, e1, v, η', n', own', M', g1, g2, g3, g4⟩ => ⟨u, e1, v, η', n', own', M', hk _ _ _ g1 fun r hr => ?_, g2, g3, g4⟩⟩
  cases ho : η' r with
  | none => rfl
  | some o => have := g3.lt ho; omega
end
end Go.Proofs.YtbomkomipaipmaaGreat
namespace Go.Proofs.YtbomkomipaipmaaGreat

/-- what a call made of its part, laid over the whole -/
def mrg (μ η η' : AHeap) : AHeap := fun r => match η' r with
  | some o => some o
  | none => match μ r with
    | some _ => none
    | none => η r
theorem mrg_some {μ η η' : AHeap} {r : Nat} {o : AObj} (h : η' r = some o) : mrg μ η η' r = some o := by simp [mrg, h]
theorem mrg_old {μ η η' : AHeap} {r : Nat} (h : η' r = none) (hm : μ r = none) : mrg μ η η' r = η r := by simp [mrg, h, hm]
theorem mrg_cases {μ η η' : AHeap} {r : Nat} {o : AObj} (h : mrg μ η η' r = some o) : η' r = some o ∨ (η' r = none ∧ μ r = none ∧ η r = some o) := by
  unfold mrg at h
  split at h
  · rename_i x hx; cases h; exact Or.inl hx
  · rename_i hx
    split at h
    · cases h
    · rename_i hm; exact Or.inr ⟨hx, hm, h⟩
/-- an object that has cells, or is none of cells -/
def AObj.real : AObj → Prop
  | .cells _ rows => rows ≠ []
  | _ => True
theorem OR.real {own : Own} {M : Mem} {w : World} {p : Spot} {o : AObj} (h : OR own M w p o) (hr : o.real) : p.s < p.e := by
  cases o with
  | cells k rows =>
    obtain ⟨_, h2, _, h4, _⟩ := h
    have h5 : 0 < rows.length := List.length_pos_iff.2 hr
    have : 1 * 1 ≤ rows.length * k := Nat.mul_le_mul h5 h2
    omega
  | map es => exact h.1
  | loop pend ps as bd fr nt => exact h.1
  | mapR E clk es => exact h.1
  | iter m seen => exact h.1
theorem Out.frame {own : Own} {M : Mem} {μ η : AHeap} {n : Nat} {w w' : World} {K : AVal → AHeap → Nat → Prop} {u : Value} (hst : St own M η n w) (hμ : μ.le η) (h : Out own M μ n w K u w') :
    Out own M η n w (fun v η'' n' => ∃ η', K v η' n' ∧ η'' = mrg μ η η' ∧ (∀ r, n' ≤ r → η' r = none) ∧ (∀ r o, μ r = none → η r = some o → o.real → η' r = none) ∧ n ≤ n') u w' := by
  obtain ⟨v, η', n', own', M', hK, hn, hst', hv, hle, hM, hFr, hKn⟩ := h
  have hold : ∀ r p o, μ r = none → η r = some o → own r = some p → p.s < p.e → ¬ OB own μ p.b := fun r p o h1 h2 h3 h4 ⟨r2, p2, o2, g1, g2, g3, g4⟩ => by
    have hne : r2 ≠ r := fun e => by subst e; rw [h1] at g1; cases g1
    exact hst.inj r2 r p2 p o2 o hne (hμ _ _ g1) h2 g2 h3 g3 h4 g4
  refine ⟨v, _, n', own', M', ⟨η', hK, rfl, fun r hr => ?_, fun r o h1 h2 h3 => ?_, hn⟩, hn, ⟨hst'.fresh, fun r o hr => ?_, fun r r' p p' o o' hne hr hr' hp hp' hs hs' => ?_, hst'.mem⟩, hv, hle, hM, hFr.weaken fun b hb => OB.less hμ hb, fun b hb => ?_, fun b hb => (hKn.2 b hb).imp _root_.id fun h => h.imp (fun h => OB.less hμ h) _root_.id⟩
  · cases ho : η' r with
    | none => rfl
    | some o => have := hst'.lt ho; omega
  · cases ho : η' r with
    | none => rfl
    | some o' =>
      obtain ⟨p, g1, g2⟩ := hst.obj r o h2
      have hs := g2.real h3
      rcases hKn.1 p.b ⟨r, p, o', ho, hle _ _ g1, hs, rfl⟩ with k | k
      · exact absurd k (hold r p o h1 h2 g1 hs)
      · have := g2.lt hs; omega
  · rcases mrg_cases hr with h | ⟨h1, h2, h3⟩
    · exact hst'.obj r o h
    · obtain ⟨p, g1, g2⟩ := hst.obj r o h3
      refine ⟨p, hle _ _ g1, g2.keep hle hM (fun hs => hFr.block _ (g2.lt hs) (hold r p o h2 h3 g1 hs)) fun hs => ?_⟩
      cases hMb : M' p.b with
      | none => rfl
      | some a =>
        rcases hKn.2 p.b (by rw [hMb]; simp) with k | k | k
        · exact absurd (g2.noMem hs) k
        · exact absurd k (hold r p o h2 h3 g1 hs)
        · have := g2.lt hs; omega
  · have mix : ∀ r r' p p' o o', η' r = some o → μ r' = none → η r' = some o' → own' r = some p → own' r' = some p' → p.s < p.e → p'.s < p'.e → p.b ≠ p'.b := fun r r' p p' o o' h1 h2 h3 h4 h5 h6 h7 e => by
      obtain ⟨q, g1, g2⟩ := hst.obj r' o' h3
      have := hle _ _ g1
      rw [h5] at this; cases this
      rcases hKn.1 p.b ⟨r, p, o, h1, h4, h6, rfl⟩ with k | k
      · exact hold r' p' o' h2 h3 g1 h7 (e ▸ k)
      · have := g2.lt h7; omega
    rcases mrg_cases hr with h | ⟨h1, h2, h3⟩ <;> rcases mrg_cases hr' with k | ⟨k1, k2, k3⟩
    · exact hst'.inj r r' p p' o o' hne h k hp hp' hs hs'
    · exact mix r r' p p' o o' h k2 k3 hp hp' hs hs'
    · exact fun e => mix r' r p' p o' o k h2 h3 hp' hp hs' hs e.symm
    · obtain ⟨q, g1, _⟩ := hst.obj r o h3
      obtain ⟨q', g1', _⟩ := hst.obj r' o' k3
      have e1 := hle _ _ g1; rw [hp] at e1; cases e1
      have e2 := hle _ _ g1'; rw [hp'] at e2; cases e2
      exact hst.inj r r' p p' o o' hne h3 k3 g1 g1' hs hs'
  · obtain ⟨r, p, o, h1, h2, h3, h4⟩ := hb
    rcases mrg_cases h1 with h | ⟨k1, k2, k3⟩
    · exact (hKn.1 b ⟨r, p, o, h, h2, h3, h4⟩).imp (fun h => OB.less hμ h) _root_.id
    · obtain ⟨q, g1, _⟩ := hst.obj r o k3
      have e1 := hle _ _ g1; rw [h2] at e1; cases e1
      exact Or.inl ⟨r, p, o, k3, g1, h3, h4⟩

theorem AC.frame {P : Program} {f : FuncId} {args : List AVal} {μ η : AHeap} {n : Nat} {K : AVal → AHeap → Nat → Prop} (hμ : μ.le η) (h : AC P f args μ n K) : AC P f args η n fun v η'' n' => ∃ η', K v η' n' ∧ η'' = mrg μ η η' ∧ (∀ r, n' ≤ r → η' r = none) ∧ (∀ r o, μ r = none → η r = some o → o.real → η' r = none) ∧ n ≤ n' := by
  intro own M w vals hst h2 h3
  refine (h own M w vals (hst.less hμ (Nat.le_refl _)) h2 h3).mono ?_
  rintro e w' ⟨u, rfl, ho⟩
  exact ⟨u, rfl, ho.frame hst hμ⟩
theorem YAC.frame {P : Program} {y : Nat} {args : List AVal} {μ η : AHeap} {n : Nat} {K : AVal → AHeap → Nat → Prop} (hμ : μ.le η) (h : YAC P y args μ n K) : YAC P y args η n fun v η'' n' => ∃ η', K v η' n' ∧ η'' = mrg μ η η' ∧ (∀ r, n' ≤ r → η' r = none) ∧ (∀ r o, μ r = none → η r = some o → o.real → η' r = none) ∧ n ≤ n' := by
  intro rd m own M w vals p hst hp h2 h3
  obtain ⟨r, k1, k2, k3⟩ := h rd m own M w vals p (hst.less hμ (Nat.le_refl _)) hp h2 h3
  refine ⟨r, k1, k2, k3.mono ?_⟩
  rintro e w' ⟨u, rfl, ho⟩
  exact ⟨u, rfl, ho.frame hst hμ⟩
/-- a heap without some numbers -/
def hideN (l : List Nat) (η : AHeap) : AHeap := fun r => if l.contains r then none else η r
theorem hideN_le (l : List Nat) (η : AHeap) : (hideN l η).le η := fun r o h => by
  unfold hideN at h; split at h
  · cases h
  · exact h
theorem hideN_in {l : List Nat} {η : AHeap} {r : Nat} (h : r ∈ l) : hideN l η r = none := by simp [hideN, h]
theorem hideN_out {l : List Nat} {η : AHeap} {r : Nat} (h : ¬ r ∈ l) : hideN l η r = η r := by simp [hideN, h]
/-- a map that is no longer ranged over -/
theorem St.unrange {own : Own} {M : Mem} {η : AHeap} {n : Nat} {w : World} (hst : St own M η n w) {r : Nat} {E : Array MapEntry} {clk : Nat} {es : List (AVal × AVal)} (hr : η r = some (.mapR E clk es)) : St own M (upd η r (some (.map es))) n w := by
  obtain ⟨p, g1, g2⟩ := hst.obj r _ hr
  obtain ⟨h1, h2, h3, h4, h5, h6⟩ := id g2
  exact hst.turn hr g1 ⟨h1, h2, E, clk, h3, h4, h5, h6⟩ (fun _ _ => rfl) h1
theorem AC.unrange {P : Program} {f : FuncId} {args : List AVal} {η : AHeap} {n : Nat} {K : AVal → AHeap → Nat → Prop} {r : Nat} {es : List (AVal × AVal)} (h : AC P f args η n fun v η' n' => (∃ E clk, η' r = some (.mapR E clk es)) ∧ K v (upd η' r (some (.map es))) n') : AC P f args η n K := by
  intro own M w vals hst h2 h3
  refine (h own M w vals hst h2 h3).mono ?_
  rintro e w' ⟨u, rfl, v, η', n', own', M', ⟨⟨E, clk, hr⟩, hK⟩, a1, a2, a3, a4, a5, a6, a7⟩
  exact ⟨u, rfl, v, _, n', own', M', hK, a1, a2.unrange hr, a3, a4, a5, a6, fun b hb => a7.1 b (OB.turn hr hb), a7.2⟩

section
variable {P : Program}
/-- an iterator that may yield one of several lists, and whose own objects R nobody else sees -/
def IterS (P : Program) (gf : FuncId) (caps : List AVal) (S : List (List AVal) → Prop) (step : List (List AVal) → List AVal → Prop) (R : List Nat) (D : AHeap → Prop) : Prop :=
  ∀ (y : Nat) (η : AHeap) (n : Nat) (J : List (List AVal) → AHeap → Nat → Prop), (∀ pre η n η' n', J pre η n → η.le η' → n ≤ n' → J pre η' n') → D η → J [] (hideN R η) n →
    (∀ pre x, step pre x → ∀ η n, J pre η n → YAC P y x η n fun v η' n' => v = .bool true ∧ J (pre ++ [x]) η' n') → AC P gf ([.yld y] ++ caps) η n fun _ η' n' => ∃ xs, S xs ∧ J xs (hideN R η') n' ∧ D η'
theorem hide_upd {R : List Nat} {η : AHeap} {y : Nat} {o : Option AObj} (h : ¬ y ∈ R) : hideN R (upd η y o) = upd (hideN R η) y o := by
  funext r
  unfold hideN upd
  by_cases e : r = y
  · subst e; simp [h]
  · simp [e]
theorem upd_same {η : AHeap} {y : Nat} {o : Option AObj} (h : η y = o) : upd η y o = η := by
  funext r
  by_cases e : r = y
  · subst e; rw [upd_eq, h]
  · rw [upd_ne e]
theorem rangeF.runS {gf : FuncId} {caps : List AVal} {ps : Array Tmp} {as bd : Code} {fr : Nat → AVal} {nt : Nat} {η : AHeap} {n : Nat} {Q : Exit → AState → Prop} {g1 : Tag as} {g2 : Tag bd} {g3 : Tag Q} (S : List (List AVal) → Prop) (step : List (List AVal) → List AVal → Prop) (R : List Nat) (D : AHeap → Prop) (I : List (List AVal) → AHeap → Nat → Prop)
    (hHB : HB P gf = true) (hp1 : plainR as = true) (hp2 : plainR bd = true) (hit : IterS P gf caps S step R D) (hps : ∀ pre x, step pre x → x.length = ps.size) (hn : ¬ n ∈ R) (hup : ∀ pre η n η' n', I pre η n → η.le η' → n ≤ n' → I pre η' n') (hy : ∀ pre η' n', I pre η' n' → I pre (upd η' n none) n')
    (hDu : ∀ o, D (upd η n o)) (hDn : ∀ η', D η' → D (upd η' n none)) (h0 : I [] (hideN R η) (n + 1))
    (hround : ∀ pre x, step pre x → ∀ η' n', I pre η' n' → wpK P as ⟨setPs nt ps.toList x fr, nt, η', n'⟩ (thenP (fun s => wpK P bd s (doneQ fun η n => I (pre ++ [x]) η n) .mk .mk) fun _ _ => False) .mk .mk)
    (hdone : ∀ xs η' n', S xs → I xs (hideN R η') n' → D η' → Q .normal ⟨fr, nt, η', n'⟩) : rangeFK P (.func gf [] caps) ps as bd ⟨fr, nt, η, n⟩ Q g1 g2 g3 := by
  rw [rangeFK_func _ _ _ _ _ _ _ _ _ _ _ _ _ _ hHB]
  refine ACK.use (hit n _ _ (fun pre η' n' => η' n = some (.loop none ps as bd fr nt) ∧ I pre (upd η' n none) n') (fun pre η1 n1 η2 n2 h hle hn => ⟨hle _ _ h.1, hup _ _ _ _ _ h.2 (le_hide hle) hn⟩) (hDu _) ?_ ?_) ?_
  · rw [hide_upd hn]
    refine ⟨upd_eq _ _ _, ?_⟩
    rw [upd_upd]
    exact hy _ _ _ h0
  · intro pre x hx η1 n1 ⟨k1, k2⟩
    refine YAC.round k1 (hps pre x hx) hp1 hp2 ?_
    refine awp_mono' (fun e s h => ?_) (hround pre x hx _ _ k2)
    cases e with
    | normal =>
      refine awp_mono' (fun e s h => ?_) h
      cases e with
      | normal =>
        refine ⟨upd s.η n none, s.n, fun r o hr => ?_, Nat.le_refl _, rfl, upd_eq _ _ _, ?_⟩
        · by_cases e : r = n
          · subst e; rw [upd_eq] at hr; cases hr
          · rwa [upd_ne e] at hr
        · rw [upd_upd, upd_upd]; exact hy _ _ _ h
      | _ => exact h.elim
    | _ => exact h
  · intro v η' n' ⟨xs, hS, ⟨k1, k2⟩, hD⟩
    refine ⟨none, ?_, hdone xs _ _ hS ?_ (hDn _ hD)⟩
    · rw [hideN_out hn] at k1; exact k1
    · rw [hide_upd hn]; exact k2
end
end Go.Proofs.YtbomkomipaipmaaGreat
namespace Go.Proofs.YtbomkomipaipmaaGreat

def ints (l : List Int) : List (List AVal) := l.map fun x => [.int .i64 x]
def pairs (l : List (Int × Int)) : List (List AVal) := l.map fun x => [.int .i64 x.1, .int .i64 x.2]
@[simp] theorem ints_length (l : List Int) : (ints l).length = l.length := by simp [ints]
@[simp] theorem pairs_length (l : List (Int × Int)) : (pairs l).length = l.length := by simp [pairs]
theorem ints_get (l : List Int) (i : Nat) : (ints l)[i]? = (l[i]?).map fun x => [.int .i64 x] := by simp [ints]
theorem pairs_get (l : List (Int × Int)) (i : Nat) : (pairs l)[i]? = (l[i]?).map fun x => [.int .i64 x.1, .int .i64 x.2] := by simp [pairs]

structure Tbl where
  cls : List (Int × Int)
  tmo : Int
structure Actr where
  params : List Int
  regs : List Int
  msgs : List Int
  code : List (Int × Int)
  tabs : List Tbl
structure Sta where
  actor : Int
  pc : Int
  stack : List Int
  regs : List Int
  waiting : Bool
  till : Int
structure Eff where
  kind : Int
  dest : Int
  msg : Int × Int
  actor : Int
  args : List Int
  n : Int
  reason : Int × Int
  taken : Int

def tblC (t : Tbl) : List AVal := [.rs 2 (pairs t.cls), .int .i64 t.tmo]
def tblsC (l : List Tbl) : List (List AVal) := l.map tblC
def actC (a : Actr) : List AVal := [.rs 1 (ints a.params), .rs 1 (ints a.regs), .rs 1 (ints a.msgs), .rs 2 (pairs a.code), .rs 2 (tblsC a.tabs)]
def actsC (m : List Actr) : List (List AVal) := m.map actC
def modV (m : List Actr) : AVal := .agg [.rs 5 (actsC m)]
@[simp] theorem tblsC_length (l : List Tbl) : (tblsC l).length = l.length := by simp [tblsC]
@[simp] theorem actsC_length (m : List Actr) : (actsC m).length = m.length := by simp [actsC]
theorem tblsC_get (l : List Tbl) (i : Nat) : (tblsC l)[i]? = (l[i]?).map tblC := by simp [tblsC]
theorem actsC_get (m : List Actr) (i : Nat) : (actsC m)[i]? = (m[i]?).map actC := by simp [actsC]

/-- a state's cells, its lists wherever they lie -/
def stC (s : Sta) (vs vr : AVal) : List AVal := [.int .i64 s.actor, .int .i64 s.pc, vs, vr, .bool s.waiting, .int .i64 s.till]
def effC (e : Eff) (va : AVal) : List AVal := [.int .i64 e.kind, .int .i64 e.dest, .int .i64 e.msg.1, .int .i64 e.msg.2, .int .i64 e.actor, va, .int .i64 e.n, .int .i64 e.reason.1, .int .i64 e.reason.2, .int .i64 e.taken]
@[simp] theorem ints_at (l : List Int) (i : Nat) (h : i < (ints l).length) : (ints l)[i] = [.int .i64 (l[i]'(by simpa using h))] := by simp [ints]
@[simp] theorem pairs_at (l : List (Int × Int)) (i : Nat) (h : i < (pairs l).length) : (pairs l)[i] = [.int .i64 (l[i]'(by simpa using h)).1, .int .i64 (l[i]'(by simpa using h)).2] := by simp [pairs]
@[simp] theorem tblsC_at (l : List Tbl) (i : Nat) (h : i < (tblsC l).length) : (tblsC l)[i] = tblC (l[i]'(by simpa using h)) := by simp [tblsC]
@[simp] theorem actsC_at (l : List Actr) (i : Nat) (h : i < (actsC l).length) : (actsC l)[i] = actC (l[i]'(by simpa using h)) := by simp [actsC]
end Go.Proofs.YtbomkomipaipmaaGreat
