/- Abstract Go, 16: rules for a region that draws its order; loops. -/
import Derived.Test.YtkhoelmbcmkhjaaAf
namespace Go.Proofs.Ytkhoelmbcmkhjaa

section
variable (P : Program)
/-- as 'adr', but each place says which loads ahead of it must not turn -/
def adrU (ops : Array Oper) : List (Nat × List Nat) → List (Nat × (AHeap → Prop)) → (AState → Prop) → AState → Prop
  | [], _, K, s => K s
  | (i, u) :: l, lds, K, s => match ops[i]? with
    | none => False
    | some o => aguard ops o s
        (if isChg o.op then achg P o (aev s.fr) s.η s.n fun v η' n' => (∀ q ∈ lds, u.contains q.1 = true → q.2 η') ∧ adrU ops l lds K ({ s with η := η', n := n' }.put o.dst v)
         else match aval P o (aev s.fr) s.η with
          | some v => adrU ops l (if isLd o.op then (i, fun η => aval P o (aev s.fr) η = some v) :: lds else lds) K (s.put o.dst v)
          | none => False)
        (adrU ops l lds K (s.put o.dst (.tup [])))
end
def atB (ops : Array Oper) (i : Nat) (p : Op → Bool) : Bool := match ops[i]? with
  | some o => p o.op
  | none => false
def canonU (ops : Array Oper) (T : Array (List Nat)) : List Nat → List (Nat × List Nat) → Bool
  | _, [] => true
  | ahead, (i, u) :: l => (!(atB ops i isChg) || ahead.all fun k => !(atB ops k isLd) || (T.getD i []).contains k || u.contains k) && canonU ops T (i :: ahead) l

section
variable {P : Program}
theorem adr_of_U {ops : Array Oper} {T : Array (List Nat)} {K : AState → Prop} : ∀ (l : List (Nat × List Nat)) (ahead : List Nat) (lds : List (Nat × (AHeap → Prop))) (s : AState), canonU ops T ahead l = true → (∀ q ∈ lds, q.1 ∈ ahead ∧ atB ops q.1 isLd = true) → adrU P ops l lds K s → adr P ops T (l.map (·.1)) lds K s
  | [], _, _, _, _, _, h => h
  | (i, u) :: l, ahead, lds, s, hc, hl, h => by
    simp only [canonU, Bool.and_eq_true] at hc
    rw [adrU] at h
    rw [List.map_cons, adr]
    cases ho : ops[i]? with
    | none => simp only [ho] at h
    | some o =>
      simp only [ho] at h ⊢
      rw [aguard_iff] at h ⊢
      rcases h with ⟨h1, h2⟩ | ⟨h1, h2⟩
      · refine Or.inl ⟨h1, ?_⟩
        split
        · rename_i hch
          rw [if_pos hch] at h2
          refine achg_mono (fun v η n ⟨k1, k2⟩ => ⟨fun q hq hT => k1 q hq ?_, adr_of_U l (i :: ahead) lds _ hc.2 (fun q hq => ⟨by simp [(hl q hq).1], (hl q hq).2⟩) k2⟩) h2
          have h3 := hc.1
          have hci : atB ops i isChg = true := by unfold atB; rw [ho]; exact hch
          simp only [hci, Bool.not_true, Bool.false_or] at h3
          have := List.all_eq_true.1 h3 q.1 (hl q hq).1
          rw [hT, (hl q hq).2] at this
          simpa using this
        · rename_i hch
          rw [if_neg hch] at h2
          split
          · rename_i v hv
            simp only [hv] at h2
            refine adr_of_U l (i :: ahead) _ _ hc.2 (fun q hq => ?_) h2
            split at hq
            · rename_i hL
              rcases List.mem_cons.1 hq with rfl | hq
              · exact ⟨by simp, by unfold atB; rw [ho]; exact hL⟩
              · exact ⟨by simp [(hl q hq).1], (hl q hq).2⟩
            · exact ⟨by simp [(hl q hq).1], (hl q hq).2⟩
          · rename_i hv; simp only [hv] at h2
      · exact Or.inr ⟨h1, adr_of_U l (i :: ahead) lds _ hc.2 (fun q hq => ⟨by simp [(hl q hq).1], (hl q hq).2⟩) h2⟩

def canonA (ops : Array Oper) (l : List (Nat × List Nat)) : Bool := canonOK ops (l.map (·.1)) && canonU ops (preT ops) [] l

/-- which loads must not turn -/
def chkK (lds : List (Nat × (AHeap → Prop))) (u : List Nat) (η : AHeap) : Prop := ∀ q ∈ lds, u.contains q.1 = true → q.2 η
def drK (P : Program) (ops : Array Oper) (l : List (Nat × List Nat)) (lds : List (Nat × (AHeap → Prop))) (s : AState) (K : AState → Prop) (_ : Tag ops) (_ : Tag lds) (_ : Tag K) : Prop := adrU P ops l lds K s
def drC (P : Program) (ops : Array Oper) (o : Oper) (i : Nat) (u : List Nat) (l : List (Nat × List Nat)) (lds : List (Nat × (AHeap → Prop))) (s : AState) (K : AState → Prop) (_ : Tag ops) (_ : Tag o) (_ : Tag lds) (_ : Tag K) : Prop :=
  if isChg o.op then achg P o (aev s.fr) s.η s.n fun v η' n' => chkK lds u η' ∧ adrU P ops l lds K ({ s with η := η', n := n' }.put o.dst v)
  else match aval P o (aev s.fr) s.η with
    | some v => adrU P ops l (if isLd o.op then (i, fun η => aval P o (aev s.fr) η = some v) :: lds else lds) K (s.put o.dst v)
    | none => False
def atK (ops : Array Oper) (i : Nat) (K : Oper → Prop) (_ : Tag ops) (_ : Tag K) : Prop := match ops[i]? with
  | some o => K o
  | none => False
@[simp] theorem atK_zero (o : Oper) (l : List Oper) (K : Oper → Prop) (g : Tag (o :: l).toArray) (g' : Tag K) : atK (o :: l).toArray 0 K g g' = K o := by simp [atK]
@[simp] theorem atK_lit (o : Oper) (l : List Oper) (j : Nat) [h : NeZero j] (K : Oper → Prop) (g : Tag (o :: l).toArray) (g' : Tag K) : atK (o :: l).toArray j K g g' = atK l.toArray (j - 1) K .mk .mk := by
  obtain ⟨j, rfl⟩ : ∃ k, j = k + 1 := ⟨j - 1, by have := h.out; omega⟩
  simp [atK]

/-- the rule: an order (each place with the loads that must not turn there) -/
theorem drawK.intro {id : Nat} {ops : Array Oper} {s : AState} {Q : Exit → AState → Prop} {g : Tag ops} {g' : Tag Q} (hm : P.follows .mixedOrders = true) (l : List (Nat × List Nat)) (hl : canonA ops l = true) (h : drK P ops l [] s (Q .normal) .mk .mk .mk) : drawK P id ops s Q g g' := by
  unfold canonA at hl
  simp only [Bool.and_eq_true] at hl
  exact DrawP.intro hm (l.map (·.1)) hl.1 (adr_of_U l [] [] s hl.2 (by simp) h)

variable (ops : Array Oper) (gops : Tag ops) (lds : List (Nat × (AHeap → Prop))) (gl : Tag lds) (s : AState) (K : AState → Prop) (gK : Tag K)
@[simp] theorem dr_nil : drK P ops [] lds s K gops gl gK = K s := _root_.id rfl
def drG (P : Program) (ops : Array Oper) (o : Oper) (i : Nat) (u : List Nat) (l : List (Nat × List Nat)) (lds : List (Nat × (AHeap → Prop))) (s : AState) (K : AState → Prop) (_ : Tag ops) (_ : Tag o) (_ : Tag lds) (_ : Tag K) : Prop :=
  aguard ops o s (drC P ops o i u l lds s K .mk .mk .mk .mk) (adrU P ops l lds K (s.put o.dst (.tup [])))
@[simp] theorem dr_cons (i : Nat) (u : List Nat) (l : List (Nat × List Nat)) : drK P ops ((i, u) :: l) lds s K gops gl gK = atK ops i (fun o => drG P ops o i u l lds s K .mk .mk .mk .mk) .mk .mk := by
  unfold drK atK drG drC chkK
  rw [adrU]
  cases ops[i]? <;> rfl
variable (d : Option Tmp) (ty : TypeId) (ps : String) (af : Array Edge) (gd : Option (Nat × Bool)) (op : Op) (i : Nat) (u : List Nat) (l : List (Nat × List Nat))
@[simp] theorem dg_none (g : Tag (⟨d, op, ty, ps, af, none⟩ : Oper)) : drG P ops ⟨d, op, ty, ps, af, none⟩ i u l lds s K gops g gl gK = drC P ops ⟨d, op, ty, ps, af, none⟩ i u l lds s K gops g gl gK := _root_.id rfl
@[simp] theorem dg_some (j : Nat) (b : Bool) (g : Tag (⟨d, op, ty, ps, af, some (j, b)⟩ : Oper)) : drG P ops ⟨d, op, ty, ps, af, some (j, b)⟩ i u l lds s K gops g gl gK =
    guardK (dstOf ops j .mk) s.fr b (drC P ops ⟨d, op, ty, ps, af, some (j, b)⟩ i u l lds s K gops g gl gK) (putK s d (.tup []) (fun s' => drK P ops l lds s' K .mk .mk .mk) .mk) .mk .mk := by
  unfold drG guardK dstOf aguard
  simp only
  cases (ops[j]?).bind (·.dst) with
  | none => rfl
  | some d =>
    simp only
    unfold tstK
    cases s.fr d with
    | bool t => cases b <;> cases t <;> simp [putK, drK, CondP]
    | tup l => cases l <;> rfl
    | _ => rfl
/-- an operation that only looks: its own rule, and it is noted if it loads -/
theorem dc_val (g : Tag (⟨d, op, ty, ps, af, gd⟩ : Oper)) (h1 : isChg op = false) {v : Option AVal} (hv : ∀ η, aval P ⟨d, op, ty, ps, af, gd⟩ (aev s.fr) η = v) (h2 : isLd op = false) : drC P ops ⟨d, op, ty, ps, af, gd⟩ i u l lds s K gops g gl gK = optK v (fun v => putK s d v (fun s' => drK P ops l lds s' K .mk .mk .mk) .mk) False .mk .mk := by
  unfold drC optK putK drK
  simp only [h1, hv, h2, Bool.false_eq_true, if_false]
  cases v <;> rfl
theorem dc_ld (g : Tag (⟨d, op, ty, ps, af, gd⟩ : Oper)) (h1 : isChg op = false) {V : AHeap → Option AVal} (hv : ∀ η, aval P ⟨d, op, ty, ps, af, gd⟩ (aev s.fr) η = V η) (h2 : isLd op = true) : drC P ops ⟨d, op, ty, ps, af, gd⟩ i u l lds s K gops g gl gK =
    optK (V s.η) (fun v => putK s d v (fun s' => drK P ops l ((i, fun η => V η = some v) :: lds) s' K .mk .mk .mk) .mk) False .mk .mk := by
  unfold drC optK putK drK
  simp only [h1, hv, h2, Bool.false_eq_true, if_false, if_true]
  cases V s.η <;> rfl
@[simp] theorem dc_move (x : Operand) (g : Tag (⟨d, .move x, ty, ps, af, gd⟩ : Oper)) : drC P ops ⟨d, .move x, ty, ps, af, gd⟩ i u l lds s K gops g gl gK = putK s d (aev s.fr x) (fun s' => drK P ops l lds s' K .mk .mk .mk) .mk := _root_.id rfl
@[simp] theorem dc_assign (x : Operand) (g : Tag (⟨d, .assign x, ty, ps, af, gd⟩ : Oper)) : drC P ops ⟨d, .assign x, ty, ps, af, gd⟩ i u l lds s K gops g gl gK = putK s d (aev s.fr x) (fun s' => drK P ops l lds s' K .mk .mk .mk) .mk := _root_.id rfl
@[simp] theorem dc_pick (c x y : Operand) (g : Tag (⟨d, .pick c x y, ty, ps, af, gd⟩ : Oper)) : drC P ops ⟨d, .pick c x y, ty, ps, af, gd⟩ i u l lds s K gops g gl gK = optK (pickK (aev s.fr c) (aev s.fr x) (aev s.fr y)) (fun v => putK s d v (fun s' => drK P ops l lds s' K .mk .mk .mk) .mk) False .mk .mk :=
  dc_val ops gops lds gl s K gK d ty ps af gd _ i u l g rfl (fun η => by simp only [aval, pickK]; cases aev s.fr c <;> rfl) rfl
@[simp] theorem dc_build (t : TypeId) (parts : List (Nat × Operand)) (g : Tag (⟨d, .build t parts.toArray, ty, ps, af, gd⟩ : Oper)) : drC P ops ⟨d, .build t parts.toArray, ty, ps, af, gd⟩ i u l lds s K gops g gl gK = optK (abuild P t (parts.map fun p => (p.1, acells (aev s.fr p.2)))) (fun v => putK s d v (fun s' => drK P ops l lds s' K .mk .mk .mk) .mk) False .mk .mk :=
  dc_val ops gops lds gl s K gK d ty ps af gd _ i u l g rfl (fun η => by simp only [aval]) rfl
@[simp] theorem dc_nilCheck (x : Operand) (g : Tag (⟨d, .nilCheck x, ty, ps, af, gd⟩ : Oper)) : drC P ops ⟨d, .nilCheck x, ty, ps, af, gd⟩ i u l lds s K gops g gl gK = optK (nilK (aev s.fr x)) (fun v => putK s d v (fun s' => drK P ops l lds s' K .mk .mk .mk) .mk) False .mk .mk :=
  dc_val ops gops lds gl s K gK d ty ps af gd _ i u l g rfl (fun η => by simp only [aval, nilK]; cases aev s.fr x <;> rfl) rfl
@[simp] theorem dc_binOp (o : BinOp) (t t' : TypeId) (x y : Operand) (g : Tag (⟨d, .binOp o t x y t', ty, ps, af, gd⟩ : Oper)) : drC P ops ⟨d, .binOp o t x y t', ty, ps, af, gd⟩ i u l lds s K gops g gl gK = optK (abinA P o t (aev s.fr x) (aev s.fr y)) (fun v => putK s d v (fun s' => drK P ops l lds s' K .mk .mk .mk) .mk) False .mk .mk :=
  dc_val ops gops lds gl s K gK d ty ps af gd _ i u l g rfl (fun η => by simp only [aval]) rfl
@[simp] theorem dc_unOp (o : UnOp) (t : TypeId) (x : Operand) (g : Tag (⟨d, .unOp o t x, ty, ps, af, gd⟩ : Oper)) : drC P ops ⟨d, .unOp o t x, ty, ps, af, gd⟩ i u l lds s K gops g gl gK = optK (aun o (aev s.fr x)) (fun v => putK s d v (fun s' => drK P ops l lds s' K .mk .mk .mk) .mk) False .mk .mk :=
  dc_val ops gops lds gl s K gK d ty ps af gd _ i u l g rfl (fun η => by simp only [aval]) rfl
@[simp] theorem dc_convert (a b : TypeId) (x : Operand) (g : Tag (⟨d, .convert a b x, ty, ps, af, gd⟩ : Oper)) : drC P ops ⟨d, .convert a b x, ty, ps, af, gd⟩ i u l lds s K gops g gl gK = optK (if (P.underlying a).isSome then aconv P b (aev s.fr x) else none) (fun v => putK s d v (fun s' => drK P ops l lds s' K .mk .mk .mk) .mk) False .mk .mk :=
  dc_val ops gops lds gl s K gK d ty ps af gd _ i u l g rfl (fun η => by simp only [aval]) rfl
@[simp] theorem dc_fieldAddr (t : TypeId) (x : Operand) (f : Nat) (g : Tag (⟨d, .fieldAddr t x f, ty, ps, af, gd⟩ : Oper)) : drC P ops ⟨d, .fieldAddr t x f, ty, ps, af, gd⟩ i u l lds s K gops g gl gK = optK (afield P t (aev s.fr x) f) (fun v => putK s d v (fun s' => drK P ops l lds s' K .mk .mk .mk) .mk) False .mk .mk :=
  dc_val ops gops lds gl s K gK d ty ps af gd _ i u l g rfl (fun η => by simp only [aval]) rfl
@[simp] theorem dc_field (t : TypeId) (x : Operand) (f : Nat) (g : Tag (⟨d, .field t x f, ty, ps, af, gd⟩ : Oper)) : drC P ops ⟨d, .field t x f, ty, ps, af, gd⟩ i u l lds s K gops g gl gK = optK (afldv P t (aev s.fr x) f) (fun v => putK s d v (fun s' => drK P ops l lds s' K .mk .mk .mk) .mk) False .mk .mk :=
  dc_val ops gops lds gl s K gK d ty ps af gd _ i u l g rfl (fun η => by simp only [aval]) rfl
@[simp] theorem dc_index (t : TypeId) (x y : Operand) (g : Tag (⟨d, .index t x y, ty, ps, af, gd⟩ : Oper)) : drC P ops ⟨d, .index t x y, ty, ps, af, gd⟩ i u l lds s K gops g gl gK = optK (aindexv P t (aev s.fr x) (aev s.fr y)) (fun v => putK s d v (fun s' => drK P ops l lds s' K .mk .mk .mk) .mk) False .mk .mk :=
  dc_val ops gops lds gl s K gK d ty ps af gd _ i u l g rfl (fun η => by simp only [aval]) rfl
@[simp] theorem dc_extract (x : Operand) (j : Nat) (g : Tag (⟨d, .extract x j, ty, ps, af, gd⟩ : Oper)) : drC P ops ⟨d, .extract x j, ty, ps, af, gd⟩ i u l lds s K gops g gl gK = optK (aextract (aev s.fr x) j) (fun v => putK s d v (fun s' => drK P ops l lds s' K .mk .mk .mk) .mk) False .mk .mk :=
  dc_val ops gops lds gl s K gK d ty ps af gd _ i u l g rfl (fun η => by simp only [aval]) rfl
@[simp] theorem dc_makeFunc (f : FuncId) (a b : Array Operand) (g : Tag (⟨d, .makeFunc (.func f) a b, ty, ps, af, gd⟩ : Oper)) : drC P ops ⟨d, .makeFunc (.func f) a b, ty, ps, af, gd⟩ i u l lds s K gops g gl gK = putK s d (.func f (a.toList.map (aev s.fr)) (b.toList.map (aev s.fr))) (fun s' => drK P ops l lds s' K .mk .mk .mk) .mk := _root_.id rfl
@[simp] theorem dc_load (t : TypeId) (x : Operand) (g : Tag (⟨d, .load t x, ty, ps, af, gd⟩ : Oper)) : drC P ops ⟨d, .load t x, ty, ps, af, gd⟩ i u l lds s K gops g gl gK = optK (aload P t (aev s.fr x) s.η) (fun v => putK s d v (fun s' => drK P ops l ((i, fun η => aload P t (aev s.fr x) η = some v) :: lds) s' K .mk .mk .mk) .mk) False .mk .mk :=
  dc_ld ops gops lds gl s K gK d ty ps af gd _ i u l g rfl (fun η => by simp only [aval]) rfl
@[simp] theorem dc_slice (t : TypeId) (x : Operand) (lo hi mx : Option Operand) (g : Tag (⟨d, .slice t x lo hi mx, ty, ps, af, gd⟩ : Oper)) : drC P ops ⟨d, .slice t x lo hi mx, ty, ps, af, gd⟩ i u l lds s K gops g gl gK =
    optK (asliceV P t (aev s.fr x) (lo.map (aev s.fr)) (hi.map (aev s.fr)) (mx.map (aev s.fr)) s.η) (fun v => putK s d v (fun s' => drK P ops l ((i, fun η => asliceV P t (aev s.fr x) (lo.map (aev s.fr)) (hi.map (aev s.fr)) (mx.map (aev s.fr)) η = some v) :: lds) s' K .mk .mk .mk) .mk) False .mk .mk :=
  dc_ld ops gops lds gl s K gK d ty ps af gd _ i u l g rfl (fun η => by simp only [aval]) rfl
@[simp] theorem dc_indexAddr (t : TypeId) (x y : Operand) (g : Tag (⟨d, .indexAddr t x y, ty, ps, af, gd⟩ : Oper)) : drC P ops ⟨d, .indexAddr t x y, ty, ps, af, gd⟩ i u l lds s K gops g gl gK =
    optK (aindex P t (aev s.fr x) (aev s.fr y) s.η) (fun v => putK s d v (fun s' => drK P ops l ((i, fun η => aindex P t (aev s.fr x) (aev s.fr y) η = some v) :: lds) s' K .mk .mk .mk) .mk) False .mk .mk :=
  dc_ld ops gops lds gl s K gK d ty ps af gd _ i u l g rfl (fun η => by simp only [aval]) rfl
@[simp] theorem dc_len (x : Operand) (t : TypeId) (g : Tag (⟨d, .call ⟨.builtin .len, #[x], #[t]⟩, ty, ps, af, gd⟩ : Oper)) : drC P ops ⟨d, .call ⟨.builtin .len, #[x], #[t]⟩, ty, ps, af, gd⟩ i u l lds s K gops g gl gK =
    optK ((alenT P t (aev s.fr x) s.η).map (.int .i64)) (fun v => putK s d v (fun s' => drK P ops l ((i, fun η => (alenT P t (aev s.fr x) η).map (.int .i64) = some v) :: lds) s' K .mk .mk .mk) .mk) False .mk .mk :=
  dc_ld ops gops lds gl s K gK d ty ps af gd (.call ⟨.builtin .len, #[x], #[t]⟩) i u l g rfl (V := fun η => (alenT P t (aev s.fr x) η).map (.int .i64)) (fun η => by simp only [aval, acallV]) rfl
@[simp] theorem dc_min (x y : Operand) (ts : Array TypeId) (g : Tag (⟨d, .call ⟨.builtin .min, #[x, y], ts⟩, ty, ps, af, gd⟩ : Oper)) : drC P ops ⟨d, .call ⟨.builtin .min, #[x, y], ts⟩, ty, ps, af, gd⟩ i u l lds s K gops g gl gK =
    optK (aminmax false (aev s.fr x) (aev s.fr y)) (fun v => putK s d v (fun s' => drK P ops l ((i, fun _ => aminmax false (aev s.fr x) (aev s.fr y) = some v) :: lds) s' K .mk .mk .mk) .mk) False .mk .mk :=
  dc_ld ops gops lds gl s K gK d ty ps af gd (.call ⟨.builtin .min, #[x, y], ts⟩) i u l g rfl (V := fun _ => aminmax false (aev s.fr x) (aev s.fr y)) (fun η => by simp only [aval, acallV]) rfl
theorem aval_chg {o : Oper} {ρ : Operand → AVal} {η : AHeap} (h : isChg o.op = true) : aval P o ρ η = none := by
  unfold aval
  cases hop : o.op <;> rw [hop] at h <;> simp [isChg] at h ⊢
  rename_i c
  obtain ⟨callee, args, ts⟩ := c
  unfold acallV
  simp only at h ⊢
  cases callee with
  | builtin b => cases b <;> simp_all
  | _ => rfl
/-- what writes or makes: its own rule, then the look at the loads -/
def lkK (P : Program) (ops : Array Oper) (lds : List (Nat × (AHeap → Prop))) (u : List Nat) (l : List (Nat × List Nat)) (s : AState) (K : AState → Prop) (_ : Tag ops) (_ : Tag lds) (_ : Tag K) : Prop := chkK lds u s.η ∧ adrU P ops l lds K s
theorem dc_chg (g : Tag (⟨d, op, ty, ps, af, gd⟩ : Oper)) (h : isChg op = true) : drC P ops ⟨d, op, ty, ps, af, gd⟩ i u l lds s K gops g gl gK = stepK P ⟨d, op, ty, ps, af, gd⟩ s (fun s' => lkK P ops lds u l s' K .mk .mk .mk) .mk .mk := by
  unfold drC stepK astep lkK
  rw [if_pos h, aval_chg (o := ⟨d, op, ty, ps, af, gd⟩) h]
  simp only
  congr 1
  funext v η' n'
  have := (AState.put_η (s := { s with η := η', n := n' }) (d := d) (v := v)).1
  rw [this]
@[simp] theorem lk_nil : lkK P ops lds [] l s K gops gl gK = drK P ops l lds s K .mk .mk .mk := by
  unfold lkK drK chkK; simp
theorem lk_some (x : Nat) : lkK P ops lds (x :: u) l s K gops gl gK = (chkK lds (x :: u) s.η ∧ drK P ops l lds s K .mk .mk .mk) := rfl
theorem chk_nil (η : AHeap) : chkK [] u η = True := by simp [chkK]
theorem chk_cons (j : Nat) (C : AHeap → Prop) (η : AHeap) : chkK ((j, C) :: lds) u η = ((u.contains j = true → C η) ∧ chkK lds u η) := by
  unfold chkK; simp
@[simp] theorem dc_store (t : TypeId) (p x : Operand) (g : Tag (⟨d, .store t p x, ty, ps, af, gd⟩ : Oper)) : drC P ops ⟨d, .store t p x, ty, ps, af, gd⟩ i u l lds s K gops g gl gK = stepK P ⟨d, .store t p x, ty, ps, af, gd⟩ s (fun s' => lkK P ops lds u l s' K .mk .mk .mk) .mk .mk := dc_chg ops gops lds gl s K gK d ty ps af gd _ i u l g rfl
@[simp] theorem dc_box (t : TypeId) (x : Operand) (g : Tag (⟨d, .box t x, ty, ps, af, gd⟩ : Oper)) : drC P ops ⟨d, .box t x, ty, ps, af, gd⟩ i u l lds s K gops g gl gK = stepK P ⟨d, .box t x, ty, ps, af, gd⟩ s (fun s' => lkK P ops lds u l s' K .mk .mk .mk) .mk .mk := dc_chg ops gops lds gl s K gK d ty ps af gd _ i u l g rfl
@[simp] theorem dc_alloc (t : TypeId) (g : Tag (⟨d, .alloc t, ty, ps, af, gd⟩ : Oper)) : drC P ops ⟨d, .alloc t, ty, ps, af, gd⟩ i u l lds s K gops g gl gK = stepK P ⟨d, .alloc t, ty, ps, af, gd⟩ s (fun s' => lkK P ops lds u l s' K .mk .mk .mk) .mk .mk := dc_chg ops gops lds gl s K gK d ty ps af gd _ i u l g rfl
@[simp] theorem dc_buildSlice (t : TypeId) (n : Nat) (x : Array (Nat × Operand)) (g : Tag (⟨d, .buildSlice t n x, ty, ps, af, gd⟩ : Oper)) : drC P ops ⟨d, .buildSlice t n x, ty, ps, af, gd⟩ i u l lds s K gops g gl gK = stepK P ⟨d, .buildSlice t n x, ty, ps, af, gd⟩ s (fun s' => lkK P ops lds u l s' K .mk .mk .mk) .mk .mk := dc_chg ops gops lds gl s K gK d ty ps af gd _ i u l g rfl
@[simp] theorem dc_makeSlice (t : TypeId) (x y : Operand) (g : Tag (⟨d, .makeSlice t x y, ty, ps, af, gd⟩ : Oper)) : drC P ops ⟨d, .makeSlice t x y, ty, ps, af, gd⟩ i u l lds s K gops g gl gK = stepK P ⟨d, .makeSlice t x y, ty, ps, af, gd⟩ s (fun s' => lkK P ops lds u l s' K .mk .mk .mk) .mk .mk := dc_chg ops gops lds gl s K gK d ty ps af gd _ i u l g rfl
@[simp] theorem dc_callf (f : Operand) (args : Array Operand) (ts : Array TypeId) (g : Tag (⟨d, .call ⟨.value f, args, ts⟩, ty, ps, af, gd⟩ : Oper)) : drC P ops ⟨d, .call ⟨.value f, args, ts⟩, ty, ps, af, gd⟩ i u l lds s K gops g gl gK = stepK P ⟨d, .call ⟨.value f, args, ts⟩, ty, ps, af, gd⟩ s (fun s' => lkK P ops lds u l s' K .mk .mk .mk) .mk .mk := dc_chg ops gops lds gl s K gK d ty ps af gd _ i u l g rfl
@[simp] theorem dc_append (x y : Operand) (t t2 : TypeId) (g : Tag (⟨d, .call ⟨.builtin .append, #[x, y], #[t, t2]⟩, ty, ps, af, gd⟩ : Oper)) : drC P ops ⟨d, .call ⟨.builtin .append, #[x, y], #[t, t2]⟩, ty, ps, af, gd⟩ i u l lds s K gops g gl gK = stepK P ⟨d, .call ⟨.builtin .append, #[x, y], #[t, t2]⟩, ty, ps, af, gd⟩ s (fun s' => lkK P ops lds u l s' K .mk .mk .mk) .mk .mk := dc_chg ops gops lds gl s K gK d ty ps af gd _ i u l g rfl
@[simp] theorem dc_copy (x y : Operand) (t t2 : TypeId) (g : Tag (⟨d, .call ⟨.builtin .copy, #[x, y], #[t, t2]⟩, ty, ps, af, gd⟩ : Oper)) : drC P ops ⟨d, .call ⟨.builtin .copy, #[x, y], #[t, t2]⟩, ty, ps, af, gd⟩ i u l lds s K gops g gl gK = stepK P ⟨d, .call ⟨.builtin .copy, #[x, y], #[t, t2]⟩, ty, ps, af, gd⟩ s (fun s' => lkK P ops lds u l s' K .mk .mk .mk) .mk .mk := dc_chg ops gops lds gl s K gK d ty ps af gd _ i u l g rfl

/-! ### From one state to another that says less -/
theorem Gh.refl (s : AState) : Gh s s := fun _ _ _ h => h
theorem Gh.trans {a b c : AState} (h : Gh a b) (k : Gh b c) : Gh a c := fun κ x w r => k κ x w (h κ x w r)
/-- values forgotten, objects forgotten, numbers passed over -/
theorem Gh.of {fr fr' : Nat → AVal} {nt : Nat} {η η' : AHeap} {n n' : Nat} (hf : ∀ t, fr' t = fr t ∨ fr' t = .undef) (hη : η'.le η) (hn : n ≤ n') : Gh ⟨fr, nt, η, n⟩ ⟨fr', nt, η', n'⟩ := by
  intro κ a w ⟨own, M, h⟩
  refine ⟨own, M, h.st.less hη hn, fun t => ?_, h.nt, h.df, h.le, h.mle, h.frm, ⟨fun b hb => h.ob.1 b (OB.less hη hb), h.ob.2⟩, Nat.le_trans h.n hn⟩
  show VR own M (fr' t) _
  rcases hf t with e | e
  · rw [e]; exact h.fr t
  · rw [e]; exact .undef _

/-- a frame of which some slots are not known -/
def mask (W : List Nat) (fr : Nat → AVal) : Nat → AVal := fun t => if W.contains t then .undef else fr t
@[simp] theorem mask_apply (W : List Nat) (fr : Nat → AVal) (t : Nat) : mask W fr t = if W.contains t then .undef else fr t := rfl

def resL (P : Program) (s : AState) : List ResultVar → Option (List AVal)
  | [] => some []
  | r :: rs => match resV P s r, resL P s rs with
    | some v, some vs => some (v :: vs)
    | _, _ => none
theorem resL_eq (s : AState) : ∀ rs : List ResultVar, rs.mapM (resV P s) = resL P s rs
  | [] => rfl
  | r :: rs => by
    rw [List.mapM_cons, resL_eq s rs, resL]
    cases resV P s r with
    | none => rfl
    | some v => cases resL P s rs <;> rfl
theorem ares_one {fn : Func} {r : ResultVar} (h : fn.results = #[r]) (s : AState) : ares P fn s = resV P s r := by unfold ares; rw [h]
theorem ares_many {fn : Func} {rs : List ResultVar} (h : fn.results = rs.toArray) (hl : rs.length ≠ 1) (s : AState) : ares P fn s = (resL P s rs).map .tup := by
  unfold ares; rw [h]
  simp only
  match rs, hl with
  | [r], hl => simp at hl
  | [], _ => rfl
  | a :: b :: l, _ =>
    have := resL_eq (P := P) s (a :: b :: l)
    rw [← this]
@[simp] theorem resL_nil (s : AState) : resL P s [] = some [] := rfl
@[simp] theorem resV_tmp (s : AState) (t : Tmp) : resV P s (.tmp t) = some (s.fr t) := rfl
@[simp] theorem resV_cell (s : AState) (t : Tmp) (ty : TypeId) : resV P s (.cell t ty) = aload P ty (s.fr t) s.η := rfl
@[simp] theorem resL_cons (s : AState) (r : ResultVar) (rs : List ResultVar) : resL P s (r :: rs) = match resV P s r, resL P s rs with
    | some v, some vs => some (v :: vs)
    | _, _ => none := rfl
end
end Go.Proofs.Ytkhoelmbcmkhjaa
