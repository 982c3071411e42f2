/- Abstract Go, 13: the rules of the operations. -/
import Derived.Test.YtkhoelmbcmkhjaaAc
namespace Go.Proofs.Ytkhoelmbcmkhjaa

section
variable (P : Program)
theorem binA_int (op : BinOp) (t : TypeId) (k k' : IntKind) (a b : Int) : abinA P op t (.int k a) (.int k' b) = abinP op t (.int k a) (.int k' b) := by cases op <;> rfl
@[simp] theorem bin_add (t : TypeId) (k : IntKind) (a b : Int) : abinA P .add t (.int k a) (.int k b) = some (.int k (k.wrap (a + b))) := by rw [binA_int]; simp [abinP, Go.binOp, Op.intArith]; rfl
@[simp] theorem bin_sub (t : TypeId) (k : IntKind) (a b : Int) : abinA P .sub t (.int k a) (.int k b) = some (.int k (k.wrap (a - b))) := by rw [binA_int]; simp [abinP, Go.binOp, Op.intArith]; rfl
@[simp] theorem bin_mul (t : TypeId) (k : IntKind) (a b : Int) : abinA P .mul t (.int k a) (.int k b) = some (.int k (k.wrap (a * b))) := by rw [binA_int]; simp [abinP, Go.binOp, Op.intArith]; rfl
@[simp] theorem bin_eql (t : TypeId) (k : IntKind) (a b : Int) : abinA P .eql t (.int k a) (.int k b) = some (.bool (decide (a = b))) := by rw [binA_int]; simp [abinP, Go.binOp, Op.intCmp]; rfl
@[simp] theorem bin_neq (t : TypeId) (k : IntKind) (a b : Int) : abinA P .neq t (.int k a) (.int k b) = some (.bool (!decide (a = b))) := by rw [binA_int]; simp [abinP, Go.binOp, Op.intCmp]; rfl
@[simp] theorem bin_lss (t : TypeId) (k : IntKind) (a b : Int) : abinA P .lss t (.int k a) (.int k b) = some (.bool (decide (a < b))) := by rw [binA_int]; simp [abinP, Go.binOp, Op.intCmp]; rfl
@[simp] theorem bin_leq (t : TypeId) (k : IntKind) (a b : Int) : abinA P .leq t (.int k a) (.int k b) = some (.bool (decide (a ≤ b))) := by rw [binA_int]; simp [abinP, Go.binOp, Op.intCmp]; rfl
@[simp] theorem bin_gtr (t : TypeId) (k : IntKind) (a b : Int) : abinA P .gtr t (.int k a) (.int k b) = some (.bool (decide (b < a))) := by rw [binA_int]; simp [abinP, Go.binOp, Op.intCmp]; rfl
@[simp] theorem bin_geq (t : TypeId) (k : IntKind) (a b : Int) : abinA P .geq t (.int k a) (.int k b) = some (.bool (decide (b ≤ a))) := by rw [binA_int]; simp [abinP, Go.binOp, Op.intCmp]; rfl
@[simp] theorem bin_quo (t : TypeId) (k : IntKind) (a b : Int) (h : b ≠ 0) : abinA P .quo t (.int k a) (.int k b) = some (.int k (k.wrap (a.tdiv b))) := by rw [binA_int]; simp [abinP, Go.binOp, Op.intDiv, h]; rfl
@[simp] theorem bin_rem (t : TypeId) (k : IntKind) (a b : Int) (h : b ≠ 0) : abinA P .rem t (.int k a) (.int k b) = some (.int k (a.tmod b)) := by rw [binA_int]; simp [abinP, Go.binOp, Op.intDiv, h]; rfl
@[simp] theorem bin_str (op : BinOp) (t : TypeId) (a b : ByteArray) : abinA P op t (.str a) (.str b) = abinP op t (.string a) (.string b) := by cases op <;> rfl
@[simp] theorem bin_eqlB (t : TypeId) (a b : Bool) : abinA P .eql t (.bool a) (.bool b) = (aeqB P t (.bool a) (.bool b)).map .bool := rfl
@[simp] theorem bin_neqB (t : TypeId) (a b : Bool) : abinA P .neq t (.bool a) (.bool b) = (aeqB P t (.bool a) (.bool b)).map fun b => .bool !b := rfl
@[simp] theorem bin_agg (t : TypeId) (a b : List AVal) : abinA P .eql t (.agg a) (.agg b) = (aeqS P t a b).map .bool := rfl
@[simp] theorem bin_aggN (t : TypeId) (a b : List AVal) : abinA P .neq t (.agg a) (.agg b) = (aeqS P t a b).map fun b => .bool !b := rfl
theorem aeqS_of {t : TypeId} {cs ds : List AVal} {b : Bool} (hp : (cs.all isPlain && ds.all isPlain) = true) (h : SEq P t cs ds b) (hA : ∃ A, ∀ own M, VR own M (.agg cs) (.agg A)) (hB : ∃ B, ∀ own M, VR own M (.agg ds) (.agg B)) : aeqS P t cs ds = some b := by
  unfold aeqS
  have hx : (cs.all isPlain && ds.all isPlain) = true ∧ ∃ b, SEq P t cs ds b := ⟨hp, b, h⟩
  rw [dif_pos hx]
  obtain ⟨A, hA⟩ := hA
  obtain ⟨B, hB⟩ := hB
  rw [SEq.unique (Classical.choose_spec hx.2) h hA hB]
@[simp] theorem aun_not (b : Bool) : aun .not (.bool b) = some (.bool !b) := rfl
@[simp] theorem aun_neg (k : IntKind) (n : Int) : aun .neg (.int k n) = some (.int k (k.wrap (0 - n))) := rfl
def bitF (op : BinOp) (k : IntKind) (a b : Int) : Int := match op with
  | .and => k.wrap (BitVec.ofInt k.bits a &&& BitVec.ofInt k.bits b).toNat
  | .or => k.wrap (BitVec.ofInt k.bits a ||| BitVec.ofInt k.bits b).toNat
  | .xor => k.wrap (BitVec.ofInt k.bits a ^^^ BitVec.ofInt k.bits b).toNat
  | _ => 0
@[simp] theorem aun_xor (k : IntKind) (n : Int) : aun .xor (.int k n) = some (.int k (bitF .xor k (if k.signed then -1 else k.max) n)) := rfl
@[simp] theorem bin_or (t : TypeId) (k : IntKind) (a b : Int) : abinA P .or t (.int k a) (.int k b) = some (.int k (bitF .or k a b)) := by rw [binA_int]; simp [abinP, Go.binOp, Op.intBits, bitF]; rfl
@[simp] theorem bin_xor (t : TypeId) (k : IntKind) (a b : Int) : abinA P .xor t (.int k a) (.int k b) = some (.int k (bitF .xor k a b)) := by rw [binA_int]; simp [abinP, Go.binOp, Op.intBits, bitF]; rfl
@[simp] theorem bin_and (t : TypeId) (k : IntKind) (a b : Int) : abinA P .and t (.int k a) (.int k b) = some (.int k (bitF .and k a b)) := by rw [binA_int]; simp [abinP, Go.binOp, Op.intBits, bitF]; rfl
theorem not_neg {b : Int} (h : 0 ≤ b) : ¬ b < 0 := by omega
@[simp] theorem bin_shl (t : TypeId) (k k' : IntKind) (a b : Int) (h : 0 ≤ b) : abinA P .shl t (.int k a) (.int k' b) = some (.int k (k.wrap (a * 2 ^ (min b.toNat k.bits)))) := by rw [binA_int]; simp [abinP, Go.binOp, Op.shift, not_neg h]; rfl
@[simp] theorem bin_shr (t : TypeId) (k k' : IntKind) (a b : Int) (h : 0 ≤ b) : abinA P .shr t (.int k a) (.int k' b) = some (.int k (a.fdiv (2 ^ (min b.toNat k.bits)))) := by rw [binA_int]; simp [abinP, Go.binOp, Op.shift, not_neg h]; rfl
@[simp] theorem aminmax_int (big : Bool) (k : IntKind) (a b : Int) : aminmax big (.int k a) (.int k b) = some (.int k (if big then max a b else min a b)) := by simp [aminmax]
@[simp] theorem aextract_tup (vs : List AVal) (i : Nat) : aextract (.tup vs) i = vs[i]? := rfl


variable (s : AState) (K : AState → Prop) (gK : Tag K) (d : Option Tmp) (ty : TypeId) (ps : String) (af : Array Edge) (gd : Option (Nat × Bool))
@[simp] theorem st_move (x : Operand) (g : Tag (⟨d, .move x, ty, ps, af, gd⟩ : Oper)) : stepK P ⟨d, .move x, ty, ps, af, gd⟩ s K g gK = putK s d (aev s.fr x) K .mk := _root_.id rfl
@[simp] theorem st_assign (x : Operand) (g : Tag (⟨d, .assign x, ty, ps, af, gd⟩ : Oper)) : stepK P ⟨d, .assign x, ty, ps, af, gd⟩ s K g gK = putK s d (aev s.fr x) K .mk := _root_.id rfl
def pickK (c x y : AVal) : Option AVal := match c with
  | .bool t => some (if t then x else y)
  | _ => none
@[simp] theorem pickK_bool (t : Bool) (x y : AVal) : pickK (.bool t) x y = some (if t then x else y) := rfl
def nilK (x : AVal) : Option AVal := match x with
  | .ptr r i j => some (.ptr r i j)
  | .ro cs j => some (.ro cs j)
  | .func f a b => some (.func f a b)
  | _ => none
@[simp] theorem nilK_ptr (r i j : Nat) : nilK (.ptr r i j) = some (.ptr r i j) := rfl
@[simp] theorem nilK_ro (cs : List AVal) (j : Nat) : nilK (.ro cs j) = some (.ro cs j) := rfl
@[simp] theorem nilK_func (f : FuncId) (a b : List AVal) : nilK (.func f a b) = some (.func f a b) := rfl
@[simp] theorem st_pick (c x y : Operand) (g : Tag (⟨d, .pick c x y, ty, ps, af, gd⟩ : Oper)) : stepK P ⟨d, .pick c x y, ty, ps, af, gd⟩ s K g gK = optK (pickK (aev s.fr c) (aev s.fr x) (aev s.fr y)) (fun v => putK s d v K .mk) False .mk .mk := by
  unfold stepK putK astep aval optK pickK
  simp only
  cases aev s.fr c <;> simp [achg]
@[simp] theorem st_nilCheck (x : Operand) (g : Tag (⟨d, .nilCheck x, ty, ps, af, gd⟩ : Oper)) : stepK P ⟨d, .nilCheck x, ty, ps, af, gd⟩ s K g gK = optK (nilK (aev s.fr x)) (fun v => putK s d v K .mk) False .mk .mk := by
  unfold stepK putK astep aval optK nilK
  simp only
  cases aev s.fr x <;> simp [achg]
@[simp] theorem st_load (t : TypeId) (x : Operand) (g : Tag (⟨d, .load t x, ty, ps, af, gd⟩ : Oper)) : stepK P ⟨d, .load t x, ty, ps, af, gd⟩ s K g gK = optK (aload P t (aev s.fr x) s.η) (fun v => putK s d v K .mk) False .mk .mk := by
  unfold stepK putK astep aval optK
  simp only
  cases aload P t (aev s.fr x) s.η <;> simp [achg]
@[simp] theorem st_unOp (op : UnOp) (t : TypeId) (x : Operand) (g : Tag (⟨d, .unOp op t x, ty, ps, af, gd⟩ : Oper)) : stepK P ⟨d, .unOp op t x, ty, ps, af, gd⟩ s K g gK = optK (aun op (aev s.fr x)) (fun v => putK s d v K .mk) False .mk .mk := by
  unfold stepK putK astep aval optK
  simp only
  cases aun op (aev s.fr x) <;> simp [achg]
@[simp] theorem st_convert (a b : TypeId) (x : Operand) (g : Tag (⟨d, .convert a b x, ty, ps, af, gd⟩ : Oper)) : stepK P ⟨d, .convert a b x, ty, ps, af, gd⟩ s K g gK = optK (if (P.underlying a).isSome then aconv P b (aev s.fr x) else none) (fun v => putK s d v K .mk) False .mk .mk := by
  unfold stepK putK astep aval optK
  simp only
  cases (if (P.underlying a).isSome then aconv P b (aev s.fr x) else none) <;> simp [achg]
@[simp] theorem st_slice (t : TypeId) (x : Operand) (lo hi mx : Option Operand) (g : Tag (⟨d, .slice t x lo hi mx, ty, ps, af, gd⟩ : Oper)) : stepK P ⟨d, .slice t x lo hi mx, ty, ps, af, gd⟩ s K g gK = optK (asliceV P t (aev s.fr x) (lo.map (aev s.fr)) (hi.map (aev s.fr)) (mx.map (aev s.fr)) s.η) (fun v => putK s d v K .mk) False .mk .mk := by
  unfold stepK putK astep aval optK
  simp only
  cases asliceV P t (aev s.fr x) (lo.map (aev s.fr)) (hi.map (aev s.fr)) (mx.map (aev s.fr)) s.η <;> simp [achg]
@[simp] theorem st_fieldAddr (t : TypeId) (x : Operand) (f : Nat) (g : Tag (⟨d, .fieldAddr t x f, ty, ps, af, gd⟩ : Oper)) : stepK P ⟨d, .fieldAddr t x f, ty, ps, af, gd⟩ s K g gK = optK (afield P t (aev s.fr x) f) (fun v => putK s d v K .mk) False .mk .mk := by
  unfold stepK putK astep aval optK
  simp only
  cases afield P t (aev s.fr x) f <;> simp [achg]
@[simp] theorem st_field (t : TypeId) (x : Operand) (f : Nat) (g : Tag (⟨d, .field t x f, ty, ps, af, gd⟩ : Oper)) : stepK P ⟨d, .field t x f, ty, ps, af, gd⟩ s K g gK = optK (afldv P t (aev s.fr x) f) (fun v => putK s d v K .mk) False .mk .mk := by
  unfold stepK putK astep aval optK
  simp only
  cases afldv P t (aev s.fr x) f <;> simp [achg]
@[simp] theorem st_indexAddr (t : TypeId) (x y : Operand) (g : Tag (⟨d, .indexAddr t x y, ty, ps, af, gd⟩ : Oper)) : stepK P ⟨d, .indexAddr t x y, ty, ps, af, gd⟩ s K g gK = optK (aindex P t (aev s.fr x) (aev s.fr y) s.η) (fun v => putK s d v K .mk) False .mk .mk := by
  unfold stepK putK astep aval optK
  simp only
  cases aindex P t (aev s.fr x) (aev s.fr y) s.η <;> simp [achg]
@[simp] theorem st_index (t : TypeId) (x y : Operand) (g : Tag (⟨d, .index t x y, ty, ps, af, gd⟩ : Oper)) : stepK P ⟨d, .index t x y, ty, ps, af, gd⟩ s K g gK = optK (aindexv P t (aev s.fr x) (aev s.fr y)) (fun v => putK s d v K .mk) False .mk .mk := by
  unfold stepK putK astep aval optK
  simp only
  cases aindexv P t (aev s.fr x) (aev s.fr y) <;> simp [achg]
@[simp] theorem st_extract (x : Operand) (i : Nat) (g : Tag (⟨d, .extract x i, ty, ps, af, gd⟩ : Oper)) : stepK P ⟨d, .extract x i, ty, ps, af, gd⟩ s K g gK = optK (aextract (aev s.fr x) i) (fun v => putK s d v K .mk) False .mk .mk := by
  unfold stepK putK astep aval optK
  simp only
  cases aextract (aev s.fr x) i <;> simp [achg]
@[simp] theorem st_build (t : TypeId) (parts : List (Nat × Operand)) (g : Tag (⟨d, .build t parts.toArray, ty, ps, af, gd⟩ : Oper)) : stepK P ⟨d, .build t parts.toArray, ty, ps, af, gd⟩ s K g gK = optK (abuild P t (parts.map fun p => (p.1, acells (aev s.fr p.2)))) (fun v => putK s d v K .mk) False .mk .mk := by
  unfold stepK putK astep aval optK
  simp only
  cases abuild P t (parts.map fun p => (p.1, acells (aev s.fr p.2))) <;> simp [achg]
@[simp] theorem st_makeFunc (f : FuncId) (a b : Array Operand) (g : Tag (⟨d, .makeFunc (.func f) a b, ty, ps, af, gd⟩ : Oper)) : stepK P ⟨d, .makeFunc (.func f) a b, ty, ps, af, gd⟩ s K g gK = putK s d (.func f (a.toList.map (aev s.fr)) (b.toList.map (aev s.fr))) K .mk := _root_.id rfl
@[simp] theorem st_len (x : Operand) (t : TypeId) (g : Tag (⟨d, .call ⟨.builtin .len, #[x], #[t]⟩, ty, ps, af, gd⟩ : Oper)) : stepK P ⟨d, .call ⟨.builtin .len, #[x], #[t]⟩, ty, ps, af, gd⟩ s K g gK = optK ((alenT P t (aev s.fr x) s.η).map (.int .i64)) (fun v => putK s d v K .mk) False .mk .mk := by
  unfold stepK putK astep aval acallV optK
  simp only
  cases alenT P t (aev s.fr x) s.η <;> simp [achg]
@[simp] theorem st_cap (x : Operand) (t : TypeId) (g : Tag (⟨d, .call ⟨.builtin .cap, #[x], #[t]⟩, ty, ps, af, gd⟩ : Oper)) : stepK P ⟨d, .call ⟨.builtin .cap, #[x], #[t]⟩, ty, ps, af, gd⟩ s K g gK = optK ((acapT P t (aev s.fr x)).map (.int .i64)) (fun v => putK s d v K .mk) False .mk .mk := by
  unfold stepK putK astep aval acallV optK
  simp only
  cases acapT P t (aev s.fr x) <;> simp [achg]
@[simp] theorem st_min (x y : Operand) (ts : Array TypeId) (g : Tag (⟨d, .call ⟨.builtin .min, #[x, y], ts⟩, ty, ps, af, gd⟩ : Oper)) : stepK P ⟨d, .call ⟨.builtin .min, #[x, y], ts⟩, ty, ps, af, gd⟩ s K g gK = optK (aminmax false (aev s.fr x) (aev s.fr y)) (fun v => putK s d v K .mk) False .mk .mk := by
  unfold stepK putK astep aval acallV optK
  simp only
  cases aminmax false (aev s.fr x) (aev s.fr y) <;> simp [achg]
@[simp] theorem st_max (x y : Operand) (ts : Array TypeId) (g : Tag (⟨d, .call ⟨.builtin .max, #[x, y], ts⟩, ty, ps, af, gd⟩ : Oper)) : stepK P ⟨d, .call ⟨.builtin .max, #[x, y], ts⟩, ty, ps, af, gd⟩ s K g gK = optK (aminmax true (aev s.fr x) (aev s.fr y)) (fun v => putK s d v K .mk) False .mk .mk := by
  unfold stepK putK astep aval acallV optK
  simp only
  cases aminmax true (aev s.fr x) (aev s.fr y) <;> simp [achg]
@[simp] theorem st_binOp (op : BinOp) (t t' : TypeId) (x y : Operand) (g : Tag (⟨d, .binOp op t x y t', ty, ps, af, gd⟩ : Oper)) : stepK P ⟨d, .binOp op t x y t', ty, ps, af, gd⟩ s K g gK =
    optK (abinA P op t (aev s.fr x) (aev s.fr y)) (fun v => putK s d v K .mk) (nilcmp P op t (aev s.fr x) (aev s.fr y) (fun v => putK s d v K .mk) .mk) .mk .mk := by
  unfold stepK putK astep aval optK nilcmp
  simp only
  cases abinA P op t (aev s.fr x) (aev s.fr y) <;> simp only [achg]
  cases op <;> simp only
  all_goals
    cases P.underlying t with
    | none => rfl
    | some D => cases D <;> first | rfl | (cases aev s.fr y <;> rfl)
@[simp] theorem st_lookup (t : TypeId) (x k : Operand) (ok : Bool) (g : Tag (⟨d, .lookup t x k ok, ty, ps, af, gd⟩ : Oper)) : stepK P ⟨d, .lookup t x k ok, ty, ps, af, gd⟩ s K g gK = optK (alookup P t (aev s.fr x) (aev s.fr k) ok s.η) (fun v => putK s d v K .mk) False .mk .mk := by
  unfold stepK putK astep aval optK
  simp only
  cases alookup P t (aev s.fr x) (aev s.fr k) ok s.η <;> simp [achg]
@[simp] theorem st_makeMap (t : TypeId) (g : Tag (⟨d, .makeMap t none, ty, ps, af, gd⟩ : Oper)) : stepK P ⟨d, .makeMap t none, ty, ps, af, gd⟩ s K g gK = putK ⟨s.fr, s.nt, upd s.η s.n (some (.map [])), s.n + 1⟩ d (.mp s.n) K .mk := by
  unfold stepK putK astep aval
  simp only [achg]
@[simp] theorem st_insert (t : TypeId) (m k x : Operand) (g : Tag (⟨d, .insert t m k x, ty, ps, af, gd⟩ : Oper)) : stepK P ⟨d, .insert t m k x, ty, ps, af, gd⟩ s K g gK = heapK (ainsert P t (aev s.fr m) (aev s.fr k) (aev s.fr x) s.η) (fun η' => putK ⟨s.fr, s.nt, η', s.n⟩ d .undef K .mk) .mk := by
  unfold stepK putK astep aval heapK
  simp only [achg]
  cases ainsert P t (aev s.fr m) (aev s.fr k) (aev s.fr x) s.η <;> rfl
@[simp] theorem st_store (t : TypeId) (p x : Operand) (g : Tag (⟨d, .store t p x, ty, ps, af, gd⟩ : Oper)) : stepK P ⟨d, .store t p x, ty, ps, af, gd⟩ s K g gK = heapK (astore P t (aev s.fr p) (aev s.fr x) s.η) (fun η' => putK ⟨s.fr, s.nt, η', s.n⟩ d .undef K .mk) .mk := by
  unfold stepK putK astep aval heapK
  simp only [achg]
  cases astore P t (aev s.fr p) (aev s.fr x) s.η <;> rfl
@[simp] theorem st_callf (f : Operand) (args : Array Operand) (ts : Array TypeId) (g : Tag (⟨d, .call ⟨.value f, args, ts⟩, ty, ps, af, gd⟩ : Oper)) : stepK P ⟨d, .call ⟨.value f, args, ts⟩, ty, ps, af, gd⟩ s K g gK =
    callK P (aev s.fr f) (args.toList.map (aev s.fr)) s.η s.n (fun v η' n' => putK ⟨s.fr, s.nt, η', n'⟩ d v K .mk) .mk := by
  unfold stepK putK astep aval acallV callK
  simp only [achg]
  cases aev s.fr f <;> rfl
@[simp] theorem st_alloc (t : TypeId) (g : Tag (⟨d, .alloc t, ty, ps, af, gd⟩ : Oper)) : stepK P ⟨d, .alloc t, ty, ps, af, gd⟩ s K g gK = zeroK (tzero P t) (fun cs => cs ≠ [] ∧ putK ⟨s.fr, s.nt, upd s.η s.n (some (.cells cs.length [cs])), s.n + 1⟩ d (.ptr s.n 0 0) K .mk) .mk := by
  unfold stepK putK astep aval zeroK
  simp only [achg]
  cases tzero P t <;> rfl
@[simp] theorem st_box (t : TypeId) (x : Operand) (g : Tag (⟨d, .box t x, ty, ps, af, gd⟩ : Oper)) : stepK P ⟨d, .box t x, ty, ps, af, gd⟩ s K g gK = boxK (tsize P t) (acells (aev s.fr x)) (fun cs z => putK ⟨s.fr, s.nt, upd s.η s.n (some (.cells z [cs])), s.n + 1⟩ d (.ptr s.n 0 0) K .mk) .mk := by
  unfold stepK putK astep aval boxK
  simp only [achg]
  cases tsize P t with
  | none => rfl
  | some z => simp [and_assoc]
def abuildS (t : TypeId) (len : Nat) (parts : List (Nat × List AVal)) : Option (List (List AVal)) :=
  match telem P t with
  | some e => match tzero P e with
    | some zs => match afillP (fun i => some (i * zs.length, zs.length)) (List.replicate len zs).flatten parts with
      | some cs => if 0 < zs.length ∧ len * zs.length ≤ 16777216 then some (chunk zs.length len cs) else none
      | none => none
    | none => none
  | none => none
def tek (t : TypeId) : Nat := match telem P t with
  | some e => (tsize P e).getD 0
  | none => 0
theorem zero_len {t : TypeId} {zs : List AVal} (h : tzero P t = some zs) : tsize P t = some zs.length := by
  obtain ⟨_, _, _, _, _, z5⟩ := zero_run (own := fun _ => none) (M := fun _ => none) h (default : World); exact z5
@[simp] theorem st_buildSlice (t : TypeId) (len : Nat) (parts : List (Nat × Operand)) (g : Tag (⟨d, .buildSlice t len parts.toArray, ty, ps, af, gd⟩ : Oper)) : stepK P ⟨d, .buildSlice t len parts.toArray, ty, ps, af, gd⟩ s K g gK =
    rowsK (abuildS P t len (parts.map fun p => (p.1, acells (aev s.fr p.2)))) (fun rows => putK ⟨s.fr, s.nt, upd s.η s.n (some (.cells (tek P t) rows)), s.n + 1⟩ d (.sl s.n 0 len) K .mk) .mk := by
  unfold stepK putK astep aval rowsK abuildS tek
  simp only [achg]
  cases telem P t with
  | none => rfl
  | some e =>
    simp only
    cases hz : tzero P e with
    | none => rfl
    | some zs =>
      have hs := zero_len P hz
      simp only [hs, Option.getD_some]
      cases afillP (fun i => some (i * zs.length, zs.length)) (List.replicate len zs).flatten (parts.map fun p => (p.1, acells (aev s.fr p.2))) with
      | none => rfl
      | some cs =>
        simp only
        by_cases hh : 0 < zs.length ∧ len * zs.length ≤ 16777216
        · rw [if_pos hh]; simp [hh.1, hh.2]
        · rw [if_neg hh]
          simp only [eq_iff_iff, iff_false]
          exact fun h => hh ⟨h.1, h.2.1⟩
@[simp] theorem st_makeSlice (t : TypeId) (l c : Operand) (g : Tag (⟨d, .makeSlice t l c, ty, ps, af, gd⟩ : Oper)) : stepK P ⟨d, .makeSlice t l c, ty, ps, af, gd⟩ s K g gK = makeK P (aev s.fr l) (aev s.fr c) t s.η s.n (fun v η' n' => putK ⟨s.fr, s.nt, η', n'⟩ d v K .mk) .mk := _root_.id rfl
@[simp] theorem st_append (x y : Operand) (t t2 : TypeId) (g : Tag (⟨d, .call ⟨.builtin .append, #[x, y], #[t, t2]⟩, ty, ps, af, gd⟩ : Oper)) : stepK P ⟨d, .call ⟨.builtin .append, #[x, y], #[t, t2]⟩, ty, ps, af, gd⟩ s K g gK =
    appK P t t2 (aev s.fr x) (aev s.fr y) s.η s.n (fun v η' n' => putK ⟨s.fr, s.nt, η', n'⟩ d v K .mk) .mk := _root_.id rfl
@[simp] theorem st_copy (x y : Operand) (t t2 : TypeId) (g : Tag (⟨d, .call ⟨.builtin .copy, #[x, y], #[t, t2]⟩, ty, ps, af, gd⟩ : Oper)) : stepK P ⟨d, .call ⟨.builtin .copy, #[x, y], #[t, t2]⟩, ty, ps, af, gd⟩ s K g gK =
    cpyK P t t2 (aev s.fr x) (aev s.fr y) s.η s.n (fun v η' n' => putK ⟨s.fr, s.nt, η', n'⟩ d v K .mk) .mk := _root_.id rfl
end
end Go.Proofs.Ytkhoelmbcmkhjaa
