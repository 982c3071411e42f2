/- Abstract Go, 3: what an operation that leaves memory alone yields, and that the model yields it. -/
import Derived.Test.YtkhoelmbcmkhjaaAm
namespace Go.Proofs.Ytkhoelmbcmkhjaa

section
variable (P : Program)
def aeqN (x y : AVal) : Option Bool :=
  match x, y with
  | .nilp, .nilp => some true
  | .ptr _ _ _, .nilp | .ro _ _, .nilp | .nilp, .ptr _ _ _ | .nilp, .ro _ _ => some false
  | .nilf, .nilf => some true
  | .func _ _ _, .nilf | .nilf, .func _ _ _ => some false
  | .nils, .nils => some true
  | .nilm, .nilm => some true
  | .mp _, .nilm | .nilm, .mp _ => some false
  | _, _ => none
/-- the type fits the two operands -/
def aeqT (t : TypeId) (x _ : AVal) : Bool :=
  match P.underlying t, x with
  | some (.pointer _), .nilp | some (.pointer _), .ptr _ _ _ | some (.pointer _), .ro _ _ => true
  | some (.func _ _ _), .nilf | some (.func _ _ _), .func _ _ _ => true
  | some (.slice _), .nils => true
  | some (.map _ _), .nilm | some (.map _ _), .mp _ => true
  | _, _ => false
def aeqB (t : TypeId) (x y : AVal) : Option Bool :=
  match P.underlying t, x, y with
  | some .bool, .bool a, .bool b => some (a == b)
  | _, _, _ => if aeqT P t x y then aeqN x y else none
def isPlain : AVal → Bool
  | .int _ _ | .bool _ | .str _ => true
  | _ => false
/-- two structs or arrays of plain cells: a fact on their equality -/
def SEq (t : TypeId) (cs ds : List AVal) (b : Bool) : Prop :=
  ∀ (A B : Array Value) (w : World), (∀ own M, VR own M (.agg cs) (.agg A)) → (∀ own M, VR own M (.agg ds) (.agg B)) → ∀ x y, (eqGuard .eql t x y (.agg A) (.agg B)).run P w = .ok () w ∧ (Op.equal t (.agg A) (.agg B)).run P w = .ok b w
open Classical in
noncomputable def aeqS (t : TypeId) (cs ds : List AVal) : Option Bool :=
  if h : (cs.all isPlain && ds.all isPlain) = true ∧ ∃ b, SEq P t cs ds b then some (Classical.choose h.2) else none
noncomputable def abinA (op : BinOp) (t : TypeId) (x y : AVal) : Option AVal :=
  match op with
  | .eql => match x, y with
    | .agg cs, .agg ds => (aeqS P t cs ds).map .bool
    | .int _ _, .int _ _ | .str _, .str _ => abin op t x y
    | _, _ => (aeqB P t x y).map .bool
  | .neq => match x, y with
    | .agg cs, .agg ds => (aeqS P t cs ds).map fun b => .bool !b
    | .int _ _, .int _ _ | .str _, .str _ => abin op t x y
    | _, _ => (aeqB P t x y).map fun b => .bool !b
  | _ => abin op t x y
/-- where a struct's fields lie: first cell, cells -/
def tplaces (t : TypeId) : Option (List (Nat × Nat)) :=
  match P.underlying t with
  | some (.struct fs) => fs.toList.mapM fun f => (tsize P f.type).map fun n => (f.offset, n)
  | _ => none
def aplace (t : TypeId) : Option (Nat → Option (Nat × Nat)) :=
  match tarr P t with
  | some (_, e) => (tsize P e).map fun z i => some (i * z, z)
  | none => (tplaces P t).map fun pl i => pl[i]?
def afillP (place : Nat → Option (Nat × Nat)) (cs : List AVal) : List (Nat × List AVal) → Option (List AVal)
  | [] => some cs
  | (i, ds) :: rest => match place i with
    | some (o, z) => if ds.length = z ∧ o + ds.length ≤ cs.length ∧ ds.all AVal.sc = true then afillP place (cs.take o ++ ds ++ cs.drop (o + ds.length)) rest else none
    | none => none
def abuild (t : TypeId) (parts : List (Nat × List AVal)) : Option AVal :=
  match tzero P t, aplace P t with
  | some z, some pl => (afillP pl z parts).map .agg
  | _, _ => none
def aminmax (big : Bool) (x y : AVal) : Option AVal :=
  match x, y with
  | .int k a, .int k' b => if k = k' then some (.int k (if big then max a b else min a b)) else none
  | _, _ => none
def alenT (t : TypeId) (x : AVal) (η : AHeap) : Option Int :=
  match P.underlying t, x with
  | some (.slice _), .sl _ _ n => some n
  | some (.slice _), .rs _ rows => some rows.length
  | some (.slice _), .nils => some 0
  | some (.slice _), .e0 => some 0
  | some (.slice _), .arr _ _ _ n _ => some n
  | some .string, .str s => some s.size
  | some (.map _ _), .nilm => some 0
  | some (.map _ _), .mp r => match η r with
    | some (.map es) => some es.length
    | _ => none
  | _, _ => none
def acapT (t : TypeId) (x : AVal) : Option Int :=
  match P.underlying t, x with
  | some (.slice _), .nils => some 0
  | some (.slice _), .e0 => some 0
  | _, _ => none
def acallV (c : Call) (ρ : Operand → AVal) (η : AHeap) : Option AVal :=
  match c.callee with
  | .builtin b => match b, c.args.toList, c.argTypes.toList with
    | .len, [x], [t] => (alenT P t (ρ x) η).map (.int .i64)
    | .cap, [x], [t] => (acapT P t (ρ x)).map (.int .i64)
    | .min, [x, y], _ => aminmax false (ρ x) (ρ y)
    | .max, [x, y], _ => aminmax true (ρ x) (ρ y)
    | _, _, _ => none
  | _ => none
noncomputable def aval (o : Oper) (ρ : Operand → AVal) (η : AHeap) : Option AVal :=
  match o.op with
  | .move x | .assign x => some (ρ x)
  | .pick c a b => match ρ c with
    | .bool t => some (if t then ρ a else ρ b)
    | _ => none
  | .build t parts => abuild P t (parts.toList.map fun p => (p.1, acells (ρ p.2)))
  | .load t a => aload P t (ρ a) η
  | .nilCheck x => match ρ x with
    | .ptr r i j => some (.ptr r i j)
    | .ro cs j => some (.ro cs j)
    | .func f a b => some (.func f a b)
    | _ => none
  | .binOp op t x y _ => abinA P op t (ρ x) (ρ y)
  | .unOp op _ x => aun op (ρ x)
  | .convert src dst x => if (P.underlying src).isSome then aconv P dst (ρ x) else none
  | .makeFunc fn first caps => match fn with
    | .func f => some (.func f (first.toList.map ρ) (caps.toList.map ρ))
    | _ => none
  | .slice t x lo hi mx => asliceV P t (ρ x) (lo.map ρ) (hi.map ρ) (mx.map ρ) η
  | .fieldAddr s x f => afield P s (ρ x) f
  | .field s x f => afldv P s (ρ x) f
  | .indexAddr t x ix => aindex P t (ρ x) (ρ ix) η
  | .index t x ix => aindexv P t (ρ x) (ρ ix)
  | .extract t ix => aextract (ρ t) ix
  | .call c => acallV P c ρ η
  | .lookup t x k ok => alookup P t (ρ x) (ρ k) ok η
  | _ => none
end

section
variable {P : Program} {own : Own} {M : Mem} {η : AHeap} {n : Nat} {w : World}

theorem tsh_run {t : TypeId} {g : Bool} {n : Nat} (h : tsh P t = some (g, n)) (w : World) : (isAgg t).run P w = .ok g w ∧ (sizeOf t).run P w = .ok n w := by
  unfold tsh at h
  split at h
  · rename_i d i h1 h2
    simp only [Option.some.injEq, Prod.mk.injEq] at h
    obtain ⟨rfl, rfl⟩ := h
    constructor
    · unfold isAgg underlying
      simp only [Sem.run_bind, run_program, Result.andThen_ok, h1, Sem.run_pure]
      unfold isAggD
      cases d <;> rfl
    · unfold sizeOf typeInfo
      simp only [Sem.run_bind, run_program, Result.andThen_ok, h2, Sem.run_pure]
  · cases h
theorem tsize_run {t : TypeId} {n : Nat} (h : tsize P t = some n) (w : World) : (sizeOf t).run P w = .ok n w := by
  unfold tsize at h
  cases h2 : P.info? t with
  | none => rw [h2] at h; simp at h
  | some i =>
    rw [h2] at h; simp at h
    unfold sizeOf typeInfo
    simp only [Sem.run_bind, run_program, Result.andThen_ok, h2, Sem.run_pure, h]

theorem add_plain (b o k : Nat) : (⟨b, o, none⟩ : Addr).add k = ⟨b, o + k, none⟩ := by
  unfold Addr.add
  split
  · subst_vars; rfl
  · rfl

theorem list_pick {α β : Type} : ∀ (p : Nat → α → β → Prop) (cs : List α), (∀ (i : Nat) c, cs[i]? = some c → ∃ v, p i c v) → ∃ l : List β, l.length = cs.length ∧ ∀ (i : Nat) c, cs[i]? = some c → ∃ v, l[i]? = some v ∧ p i c v
  | _, [], _ => ⟨[], rfl, fun i c h => by simp at h⟩
  | p, x :: cs, h => by
    obtain ⟨v, hv⟩ := h 0 x rfl
    obtain ⟨l, h1, h2⟩ := list_pick (fun i => p (i + 1)) cs fun i c hi => h (i + 1) c (by simpa using hi)
    refine ⟨v :: l, by simp [h1], fun i c hi => ?_⟩
    cases i with
    | zero => simp at hi; subst hi; exact ⟨v, rfl, hv⟩
    | succ i => obtain ⟨u, k1, k2⟩ := h2 i c (by simpa using hi); exact ⟨u, by simpa using k1, k2⟩

/-- cells that read as known ones -/
theorem run_cells {a : Addr} {cs : List AVal} (h : ∀ (i : Nat) c, cs[i]? = some c → ∃ v, w.cell? (a.add i) = some v ∧ VR own M c v) :
    ∃ A : Array Value, (loadCells a cs.length).run P w = .ok A w ∧ A.size = cs.length ∧ ∀ (i : Nat) c, cs[i]? = some c → VR own M c (A.getD i undef) := by
  obtain ⟨l, h1, h2⟩ := list_pick (fun i c v => w.cell? (a.add i) = some v ∧ VR own M c v) cs h
  refine ⟨l.toArray, ?_, by simp [h1], fun i c hi => ?_⟩
  · rw [← h1]
    refine run_loadCells_list w a l fun j v hj => ?_
    have hjl := (List.getElem?_eq_some_iff.1 hj).1
    obtain ⟨u, k1, k2, _⟩ := h2 j cs[j] (List.getElem?_eq_getElem (by omega))
    rw [hj] at k1; cases k1
    exact k2
  · obtain ⟨u, k1, _, k3⟩ := h2 i c hi
    have : l.toArray.getD i undef = u := by simp [Array.getD_eq_getD_getElem?, k1]
    rw [this]; exact k3

theorem apart_load {t : TypeId} {g : Bool} {n : Nat} (ht : tsh P t = some (g, n)) {cs : List AVal} {j : Nat} {v : AVal} (h : apart g n cs j = some v) {b o : Nat}
    (hc : ∀ (i : Nat) c, cs[i]? = some c → ∃ u, w.cell? ⟨b, o + i, none⟩ = some u ∧ VR own M c u) :
    ∃ u, (loadVar t ⟨b, o + j, none⟩).run P w = .ok u w ∧ VR own M v u := by
  obtain ⟨h1, h2⟩ := tsh_run ht w
  unfold apart at h
  split at h
  · rename_i hg
    subst hg
    split at h
    · rename_i hh
      obtain ⟨hj, hs⟩ := hh
      cases h
      have hlen : ((cs.drop j).take n).length = n := by simp; omega
      obtain ⟨A, k1, k2, k3⟩ := run_cells (P := P) (w := w) (own := own) (M := M) (a := ⟨b, o + j, none⟩) (cs := (cs.drop j).take n) (fun i c hi => by
        have hil := (List.getElem?_eq_some_iff.1 hi).1
        rw [List.getElem?_take, if_pos (by omega), List.getElem?_drop] at hi
        rw [add_plain]
        have := hc _ c hi
        rwa [← Nat.add_assoc] at this)
      refine ⟨.agg A, ?_, .agg _ A k2 (fun c hc => List.all_eq_true.1 hs c hc) k3⟩
      unfold loadVar
      rw [hlen] at k1
      simp only [Sem.run_bind, h1, h2, Result.andThen_ok, if_true, k1, Sem.run_pure]
    · cases h
  · rename_i hg
    have hg : g = false := by simpa using hg
    subst hg
    obtain ⟨u, k1, k2⟩ := hc j v h
    refine ⟨u, ?_, k2⟩
    unfold loadVar
    simp only [Sem.run_bind, h1, Result.andThen_ok, Bool.false_eq_true, if_false, run_load, k1]

theorem aload_sound (hst : St own M η n w) {t : TypeId} {p v : AVal} {u : Value} (hp : VR own M p u) (h : aload P t p η = some v) : ∃ x, (Instr.loadAt t u).run P w = .ok x w ∧ VR own M v x := by
  unfold aload at h
  cases ht : tsh P t with
  | none => rw [ht] at h; cases h
  | some gn =>
    obtain ⟨g, m⟩ := gn
    rw [ht] at h
    simp only at h
    cases hp with
    | ro cs j b o arr hb hl hc =>
      simp only at h
      obtain ⟨T, z, hh⟩ := hst.mem b arr hb
      obtain ⟨x, k1, k2⟩ := apart_load ht (w := w) (own := own) (M := M) h (b := b) (o := o) (fun i c hi => by
        refine ⟨arr.getD (o + i) undef, ?_, hc i c hi⟩
        have := hl i c hi
        simp [World.cell?, hh, this, Array.getD_eq_getD_getElem?])
      exact ⟨x, by unfold Instr.loadAt Instr.sureAddr; simpa using k1, k2⟩
    | ptr r i j p hr =>
      simp only at h
      split at h
      · rename_i k rows hη
        split at h
        · rename_i row hrow
          obtain ⟨p', g1, g2⟩ := hst.obj r _ hη
          rw [hr] at g1; cases g1
          obtain ⟨e1, _, _, _, _, g6⟩ := g2
          obtain ⟨x, k1, k2⟩ := apart_load ht (w := w) (own := own) (M := M) h (b := p.b) (o := p.s + i * p.k) (fun q c hq => by
            rw [e1]; exact g6 i q row c hrow hq)
          exact ⟨x, by unfold Instr.loadAt Instr.sureAddr; simpa using k1, k2⟩
        · cases h
      · cases h
    | _ => simp at h
end
end Go.Proofs.Ytkhoelmbcmkhjaa
