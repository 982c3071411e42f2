/- From what an argument reads as to an abstract value; from an abstract contract to a law's row. No function of the program in sight. The laws' arguments: lists of messages, modules, states. Layer 5: modules that are right; the reference's. Layer 5: Right; the reference's. Layer 5: the reference's Right. Layer 6 (check): what its functions compute; the look's block. Layer 6 (check): names, pop, repeat. Layer 6 (check): send, behind. Abstract Go: a region in which two changes may come in either order. Layer 6 (check): goes, receives, at. Layer 6 (check): at. Layer 6 (check): at, by the program. -/
import Derived.ProofKit
import Derived.LaidMore
import Derived.OpenShut
import Derived.Stop.Joined
import Derived.Carry
import Derived.SizedLaws
import Derived.Deep.Slices
import Derived.Test.YtbomkomipaipmaaGreatVe
namespace Go.Proofs.YtbomkomipaipmaaGreat
open Go.ChangeShapes Go.WideShapes Go.ChangeAt Go.WideMaps Go.WideElems Go.RowKit

def own0 : Own := fun _ => none
def heap0 : AHeap := fun _ => none
theorem st0 (w : World) : St own0 (memOf w) heap0 0 w := by
  refine ⟨fun _ _ => rfl, fun r o (h : heap0 r = some o) => absurd h (by simp [heap0]), fun r r' p p' o o' _ (h : heap0 r = some o) => absurd h (by simp [heap0]), fun b arr h => ?_⟩
  unfold memOf at h
  split at h
  · rename_i a T z hb; cases h; exact ⟨T, z, hb⟩
  · cases h

theorem cell_mem {w : World} {b o : Nat} {v : Value} (h : w.cell? ⟨b, o, none⟩ = some v) : ∃ arr, memOf w b = some arr ∧ arr[o]? = some v := by
  unfold World.cell? at h
  unfold memOf
  simp only at h
  cases hb : w.heap[b]? with
  | none => rw [hb] at h; simp at h
  | some ob =>
    rw [hb] at h
    cases ob with
    | cells arr T z =>
      simp only [Option.isSome_none, Bool.false_eq_true, if_false] at h
      exact ⟨arr, rfl, h⟩
    | _ => simp at h

def Rep (w : World) (cs : List Value) (l : List AVal) : Prop := cs.length = l.length ∧ ∀ (j : Nat) (c : AVal), l[j]? = some c → VR own0 (memOf w) c (cs.getD j undef)

theorem Rep.nil (w : World) : Rep w [] [] := ⟨rfl, fun j c h => by simp at h⟩
theorem Rep.one {w : World} {v : Value} {c : AVal} (h : VR own0 (memOf w) c v) : Rep w [v] [c] := ⟨rfl, fun j d hj => by
  cases j with
  | zero => simp at hj; subst hj; exact h
  | succ j => simp at hj⟩
theorem Rep.append {w : World} {cs ds : List Value} {l m : List AVal} (h : Rep w cs l) (k : Rep w ds m) : Rep w (cs ++ ds) (l ++ m) := by
  refine ⟨by simp [h.1, k.1], fun j c hj => ?_⟩
  rw [List.getD_eq_getElem?_getD]
  rcases Nat.lt_or_ge j l.length with g | g
  · rw [List.getElem?_append_left g] at hj
    rw [List.getElem?_append_left (by rw [h.1]; exact g), ← List.getD_eq_getElem?_getD]
    exact h.2 j c hj
  · rw [List.getElem?_append_right g] at hj
    rw [List.getElem?_append_right (by rw [h.1]; exact g), ← List.getD_eq_getElem?_getD, h.1]
    exact k.2 _ c hj

/-- what reads as a type's datum stands for a known value -/
def Lies {α : Type} (P : Program) (w : World) (t : TypeId) (f : α → List AVal) (ok : α → Prop) : Prop :=
  ∀ (H : Type) (enc : TypeId × Value → H) (sp : Nat → Bool) (held : Bool) (fuel : Nat) (cs : List Value) (d : DataW H) (ps : List MemPlace), DataW.trod enc P w 0 sp held fuel t cs = some (d, ps) → (∀ n ∈ d.weights P t, n ≤ reachBytes) →
    ∃ x, ok x ∧ Rep w cs (f x)

section
variable {P : Program} {w : World} {α β : Type}
theorem Lies.map {t : TypeId} {f : α → List AVal} {ok : α → Prop} (h : Lies P w t f ok) (g : α → β) (f' : β → List AVal) (ok' : β → Prop) (hg : ∀ x, ok x → f x = f' (g x) ∧ ok' (g x)) : Lies P w t f' ok' := by
  intro H enc sp held fuel cs d ps h1 h2
  obtain ⟨x, h3, h4⟩ := h H enc sp held fuel cs d ps h1 h2
  obtain ⟨h5, h6⟩ := hg x h3
  exact ⟨g x, h6, h5 ▸ h4⟩
theorem lies_int {t : TypeId} {k : IntKind} (ht : P.underlying t = some (.int k)) : Lies P w t (fun x : Int => [.int k x]) (fun x => (Lit.int k x).wf = true) := by
  intro H enc sp held fuel cs d ps h _
  obtain ⟨x, rfl, _, h3⟩ := DataW.trod_int ht h
  exact ⟨x, h3, Rep.one (.int k x)⟩
theorem lies_i64 {t : TypeId} (ht : P.underlying t = some (.int .i64)) : Lies P w t (fun x : Int => [.int .i64 x]) I64 :=
  (lies_int ht).map _root_.id _ _ fun x h => ⟨rfl, by simp only [Lit.wf, Bool.and_eq_true, decide_eq_true_eq] at h; exact h⟩
theorem lies_bool {t : TypeId} (ht : P.underlying t = some .bool) : Lies P w t (fun x : Bool => [.bool x]) (fun _ => True) := by
  intro H enc sp held fuel cs d ps h _
  obtain ⟨x, rfl, _⟩ := DataW.trod_bool ht h
  exact ⟨x, trivial, Rep.one (.bool x)⟩
theorem weightsAll_mem {H : Type} {P : Program} {e : TypeId} : ∀ {l : List (DataW H)} {i : Nat} {d : DataW H}, l[i]? = some d → ∀ n ∈ d.weights P e, n ∈ DataW.weightsAll P e l
  | d0 :: l, 0, d, h, n, hn => by
    simp only [List.getElem?_cons_zero, Option.some.injEq] at h
    subst h
    simp only [DataW.weightsAll, List.mem_append]
    exact Or.inl hn
  | d0 :: l, i + 1, d, h, n, hn => by
    simp only [List.getElem?_cons_succ] at h
    simp only [DataW.weightsAll, List.mem_append]
    exact Or.inr (weightsAll_mem h n hn)
  | [], _, _, h, _, _ => by simp at h
theorem lies_sliceB {t e : TypeId} {k : Nat} {f : α → List AVal} {ok : α → Prop} (ht : P.underlying t = some (.slice e)) (hc : P.cellsOf e = k) (hk : 0 < k) (hby : 8 ≤ P.bytesOf e) [Inhabited α] (he : Lies P w e f ok) :
    Lies P w t (fun l : List α => [.rs k (l.map f)]) (fun l => l.length * P.bytesOf e ≤ 140737488351232 ∧ l.length ≤ 17592186044416 ∧ ∀ x ∈ l, ok x) := by
  intro H enc sp held fuel cs d ps h hsz
  subst hc
  rcases Go.Deep.open_slice ht h with ⟨rfl, h2⟩ | ⟨a, len, cap, m, n, D, Pl, rfl, _, hl, hm, hmm, h2, hx⟩
  · refine ⟨[], ⟨by simp, by simp, by simp⟩, Rep.one ?_⟩
    exact .rs _ [] none 0 0 0 #[] (by simp) (by omega) (by simp [lenMax]) (fun h => absurd h (by simp)) (fun h => absurd h (by simp)) (fun i row h => by simp at h) (fun i j row c h => by simp at h) (fun i j row c h => by simp at h)
  · simp only [Prod.mk.injEq] at h2
    obtain ⟨rfl, -⟩ := h2
    have hlm : len ≤ m := by rw [hmm]; split <;> omega
    simp only [DataW.weights, ht] at hsz
    have hw0 := hsz _ (List.mem_cons_self)
    simp only [List.length_map, List.length_range] at hw0
    have hbyt : len * P.bytesOf e ≤ 140737488351232 := Nat.le_trans (Nat.mul_le_mul_right _ (by omega)) hw0
    have hlen : len ≤ 17592186044416 := by
      have h8 : (len + (m - len)) * 8 ≤ reachBytes := Nat.le_trans (Nat.mul_le_mul_left _ hby) hw0
      have : reachBytes = 140737488351232 := rfl
      omega
    obtain ⟨X, hX⟩ := Go.Deep.choose_lt (α := α) (n := len) (p := fun i x => ∃ cs', w.cells? 0 (a.add (i * P.cellsOf e)) (P.cellsOf e) = some cs' ∧ ok x ∧ Rep w cs' (f x)) (fun i hi => by
      obtain ⟨cs', g1, g2⟩ := hx i (by omega)
      obtain ⟨x, g3, g4⟩ := he H enc sp held _ _ _ _ g2 (fun q hq => hsz q (List.mem_cons_of_mem _ (List.mem_append_left _ (weightsAll_mem (i := i) (by simp [hi]) q hq))))
      exact ⟨x, cs', g1, g3, g4⟩)
    refine ⟨(List.range len).map X, ⟨by simpa using hbyt, by simpa using hlen, fun x hx => ?_⟩, Rep.one ?_⟩
    · simp only [List.mem_map, List.mem_range] at hx
      obtain ⟨i, hi, rfl⟩ := hx
      obtain ⟨_, _, g, _⟩ := hX i hi
      exact g
    -- where the elements lie
    have hcell : ∀ i, i < len → ∃ cs', cs'.length = P.cellsOf e ∧ Rep w cs' (f (X i)) ∧ ∀ j v, cs'[j]? = some v → w.cell? ((a.add (i * P.cellsOf e)).add j) = some v := fun i hi => by
      obtain ⟨cs', g1, _, g2⟩ := hX i hi
      obtain ⟨_, g3, g4⟩ := World.cells?_some g1
      refine ⟨cs', g3, g2, fun j v hj => ?_⟩
      have hj' : j < P.cellsOf e := by rw [← g3]; exact (List.getElem?_eq_some_iff.1 hj).1
      have := g4 j hj'
      rwa [hj] at this
    have hspot : 0 < len → a.spot = none := by
      intro h0
      obtain ⟨cs', g3, _, g4⟩ := hcell 0 h0
      have g5 := g4 0 cs'[0] (List.getElem?_eq_getElem (by omega))
      unfold World.cell? at g5
      split at g5
      · split at g5
        · cases g5
        · rename_i hn; simpa [Addr.add] using hn
      · cases g5
    have hrow : ∀ i row, (((List.range len).map X).map f)[i]? = some row → i < len ∧ row = f (X i) := fun i row hi => by
      have hil := (List.getElem?_eq_some_iff.1 hi).1
      simp at hil
      simp [hil] at hi
      exact ⟨hil, hi.symm⟩
    obtain ⟨b, o, s⟩ := a
    have harr : ∀ i, i < len → ∀ j v, (∃ cs' : List Value, cs'[j]? = some v ∧ ∀ j v, cs'[j]? = some v → w.cell? ((Addr.add ⟨b, o, s⟩ (i * P.cellsOf e)).add j) = some v) → ∃ arr, memOf w b = some arr ∧ arr[o + i * P.cellsOf e + j]? = some v := fun i hi j v ⟨cs', h1, h2⟩ => by
      have h3 := h2 j v h1
      have hs := hspot (by omega)
      simp only at hs
      subst hs
      rw [add_plain, add_plain] at h3
      exact cell_mem h3
    have hmem : 0 < len → ∃ arr, memOf w b = some arr := fun h0 => by
      obtain ⟨cs', g3, _, g4⟩ := hcell 0 h0
      obtain ⟨arr, h, _⟩ := harr 0 h0 0 cs'[0] ⟨cs', List.getElem?_eq_getElem (by omega), g4⟩
      exact ⟨arr, h⟩
    have key : ∀ arr, (0 < len → memOf w b = some arr) → VR own0 (memOf w) (.rs (P.cellsOf e) (((List.range len).map X).map f)) (.slice (some ⟨b, o, s⟩) len cap) := fun arr hM => by
      have hln : (((List.range len).map X).map f).length = len := by simp
      have cellAt : ∀ i j row c, (((List.range len).map X).map f)[i]? = some row → row[j]? = some c → o + i * P.cellsOf e + j < arr.size ∧ VR own0 (memOf w) c (arr.getD (o + i * P.cellsOf e + j) undef) := fun i j row c hi hj => by
        obtain ⟨hil, rfl⟩ := hrow i row hi
        obtain ⟨cs', g3, g5, g4⟩ := hcell i hil
        have hjl := (List.getElem?_eq_some_iff.1 hj).1
        have hjc : j < cs'.length := by rw [g5.1]; exact hjl
        obtain ⟨arr', h1, h2⟩ := harr i hil j cs'[j] ⟨cs', List.getElem?_eq_getElem hjc, g4⟩
        rw [hM (by omega)] at h1
        cases h1
        refine ⟨(Array.getElem?_eq_some_iff.1 h2).1, ?_⟩
        have h5 := g5.2 j c hj
        rw [List.getD_eq_getElem?_getD, List.getElem?_eq_getElem hjc] at h5
        rw [Array.getD_eq_getD_getElem?, h2]
        exact h5
      have := VR.rs (own := own0) (M := memOf w) (P.cellsOf e) (((List.range len).map X).map f) (some ⟨b, o, s⟩) cap b o arr (by rw [hln]; exact hl) (Nat.le_trans hm (by decide)) (by rw [hln]; simpa [lenMax] using hlen)
        (fun h0 => by rw [hln] at h0; rw [show s = none from hspot h0]) (fun h0 => hM (by rw [hln] at h0; exact h0)) (fun i row hi => by
          obtain ⟨hil, rfl⟩ := hrow i row hi
          obtain ⟨cs', g3, g5, _⟩ := hcell i hil
          rw [← g5.1]; exact g3) (fun i j row c hi hj => (cellAt i j row c hi hj).1) (fun i j row c hi hj => (cellAt i j row c hi hj).2)
      rwa [hln] at this
    by_cases h0 : 0 < len
    · obtain ⟨arr, h⟩ := hmem h0
      exact key arr fun _ => h
    · exact key #[] fun h => absurd h h0

/-- fields, one behind another -/
theorem lies_slice {t e : TypeId} {k : Nat} {f : α → List AVal} {ok : α → Prop} (ht : P.underlying t = some (.slice e)) (hc : P.cellsOf e = k) (hk : 0 < k) (hby : 8 ≤ P.bytesOf e) [Inhabited α] (he : Lies P w e f ok) :
    Lies P w t (fun l : List α => [.rs k (l.map f)]) (fun l => l.length ≤ 17592186044416 ∧ ∀ x ∈ l, ok x) := fun H enc sp held fuel cs d ps h hsz => by
  obtain ⟨x, h1, h2⟩ := lies_sliceB ht hc hk hby he H enc sp held fuel cs d ps h hsz
  exact ⟨x, h1.2, h2⟩
def LiesF {α : Type} (P : Program) (w : World) (fs : List Field) (base size : Nat) (f : α → List AVal) (ok : α → Prop) : Prop :=
  ∀ (H : Type) (enc : TypeId × Value → H) (sp : Nat → Bool) (held : Bool) (n : Nat) (cs : List Value) (xs : List (DataW H × List MemPlace)), xs.length = fs.length → base + size ≤ cs.length →
    (∀ (i : Nat) (fd : Field), fs[i]? = some fd → DataW.trod enc P w 0 sp held n fd.type ((cs.drop fd.offset).take (P.cellsOf fd.type)) = xs[i]?) → (∀ m ∈ DataW.weightsEach P (fs.map (·.type)) (xs.map (·.1)), m ≤ reachBytes) →
    ∃ x, ok x ∧ Rep w ((cs.drop base).take size) (f x)
theorem liesF_one {fd : Field} {base z : Nat} {f : α → List AVal} {ok : α → Prop} (ho : fd.offset = base) (hz : P.cellsOf fd.type = z) (h : Lies P w fd.type f ok) : LiesF P w [fd] base z f ok := by
  intro H enc sp held n cs xs hl hs hx hw
  obtain ⟨y, rfl⟩ := List.length_eq_one_iff.1 hl
  have h0 := hx 0 fd rfl
  simp only [List.getElem?_cons_zero] at h0
  subst ho hz
  obtain ⟨d, p⟩ := y
  exact h H enc sp held n _ d p h0 fun m hm => hw m (by simpa [DataW.weightsEach] using hm)
theorem liesF_cons {fd : Field} {fs : List Field} {base z size : Nat} {f : α → List AVal} {ok : α → Prop} {g : β → List AVal} {ok2 : β → Prop} (ho : fd.offset = base) (hz : P.cellsOf fd.type = z) (h : Lies P w fd.type f ok) (h2 : LiesF P w fs (base + z) size g ok2) :
    LiesF P w (fd :: fs) base (z + size) (fun p : α × β => f p.1 ++ g p.2) (fun p => ok p.1 ∧ ok2 p.2) := by
  intro H enc sp held n cs xs hl hs hx hw
  cases xs with
  | nil => simp at hl
  | cons y xs =>
    obtain ⟨d, p⟩ := y
    have h0 := hx 0 fd rfl
    simp only [List.getElem?_cons_zero] at h0
    subst ho hz
    obtain ⟨x, a1, a2⟩ := h H enc sp held n _ d p h0 fun m hm => hw m (by simp only [List.map_cons, DataW.weightsEach, List.mem_append]; exact Or.inl hm)
    obtain ⟨y, b1, b2⟩ := h2 H enc sp held n cs xs (by simpa using hl) (by omega) (fun i fd hi => by simpa using hx (i + 1) fd (by simpa using hi)) fun m hm => hw m (by simp only [List.map_cons, DataW.weightsEach, List.mem_append]; exact Or.inr hm)
    refine ⟨(x, y), ⟨a1, b1⟩, ?_⟩
    have : (cs.drop fd.offset).take (P.cellsOf fd.type + size) = (cs.drop fd.offset).take (P.cellsOf fd.type) ++ (cs.drop (fd.offset + P.cellsOf fd.type)).take size := by
      rw [List.take_add, List.drop_drop]
    rw [this]
    exact a2.append b2
theorem lies_struct {t : TypeId} {fs : Array Field} {f : α → List AVal} {ok : α → Prop} {size : Nat} (ht : P.underlying t = some (.struct fs)) (hz : P.cellsOf t = size) (h : LiesF P w fs.toList 0 size f ok) : Lies P w t f ok := by
  intro H enc sp held fuel cs d ps h1 h2
  obtain ⟨xs, n, _, hx, hl, hxl, hf⟩ := DataW.trod_struct ht h1
  simp only [Prod.mk.injEq] at hx
  obtain ⟨rfl, -⟩ := hx
  simp only [DataW.weights, ht] at h2
  obtain ⟨x, a1, a2⟩ := h H enc sp held n cs xs (by rw [hxl]; simp) (by rw [hl, hz]; simp) (fun i fd hi => hf i fd (by simpa using hi)) h2
  refine ⟨x, a1, ?_⟩
  have : (cs.drop 0).take size = cs := by rw [List.drop_zero, List.take_of_length_le (by rw [hl, hz]; exact Nat.le_refl _)]
  rwa [this] at a2
/-! ### Arguments -/
section
variable {H : Type} {enc : TypeId × Value → H} {sp : Nat → Bool} {held : Bool} {v : Value} {d : DataW H} {ps : List MemPlace} {base : Nat} {r : Reach} {t : TypeId}
theorem arg_one {c : α → AVal} {ok : α → Prop} (hL : Lies P w t (fun x => [c x]) ok) (hv : ∀ a, v ≠ .agg a) (h : DataW.Trod enc P w 0 sp held t v d ps) (hsz : ∀ n ∈ d.weights P t, n ≤ reachBytes) : ∃ x, ok x ∧ VR own0 (memOf w) (c x) v := by
  obtain ⟨fuel, h⟩ := h
  have hc : v.cells.toList = [v] := by cases v <;> first | rfl | exact absurd rfl (hv _)
  rw [hc] at h
  obtain ⟨x, h1, h2⟩ := hL H enc sp held fuel _ d ps h hsz
  exact ⟨x, h1, by simpa using h2.2 0 _ rfl⟩
theorem arg_slice {e : TypeId} {c : α → AVal} {ok : α → Prop} (ht : P.underlying t = some (.slice e)) (hv : Value.okWide P w r base t v) (hL : Lies P w t (fun x => [c x]) ok) (h : DataW.Trod enc P w 0 sp held t v d ps) (hsz : ∀ n ∈ d.weights P t, n ≤ reachBytes) : ∃ x, ok x ∧ VR own0 (memOf w) (c x) v :=
  arg_one hL (fun a e => by obtain ⟨_, _, _, e'⟩ := okWide_slice ht hv; rw [e'] at e; cases e) h hsz
theorem arg_int {k : IntKind} {c : α → AVal} {ok : α → Prop} (ht : P.underlying t = some (.int k)) (hv : Value.okWide P w r base t v) (hL : Lies P w t (fun x => [c x]) ok) (h : DataW.Trod enc P w 0 sp held t v d ps) (hsz : ∀ n ∈ d.weights P t, n ≤ reachBytes) : ∃ x, ok x ∧ VR own0 (memOf w) (c x) v :=
  arg_one hL (fun a e => by obtain ⟨_, e'⟩ := okWide_int ht hv; rw [e'] at e; cases e) h hsz
theorem arg_agg {f : α → List AVal} {ok : α → Prop} (hv : ∃ cs, v = .agg cs) (hs : ∀ x, (f x).all AVal.sc = true) (hL : Lies P w t f ok) (h : DataW.Trod enc P w 0 sp held t v d ps) (hsz : ∀ n ∈ d.weights P t, n ≤ reachBytes) : ∃ x, ok x ∧ VR own0 (memOf w) (.agg (f x)) v := by
  obtain ⟨cs, rfl⟩ := hv
  obtain ⟨fuel, h⟩ := h
  obtain ⟨x, h1, h2⟩ := hL H enc sp held fuel _ d ps h hsz
  refine ⟨x, h1, .agg _ _ (by simpa [Value.cells] using h2.1) (fun c hc => List.all_eq_true.1 (hs x) c hc) fun i c hi => ?_⟩
  have := h2.2 i c hi
  simpa [Value.cells, Array.getD_eq_getD_getElem?, List.getD_eq_getElem?_getD] using this
theorem okWide_agg {fs : Array Field} (ht : P.underlying t = some (.struct fs)) (hv : Value.okWide P w r base t v) : ∃ cs, v = .agg cs := by
  obtain ⟨cs, h, _⟩ := okWide_struct ht hv; exact ⟨cs, h⟩
end
end

/-! ### A law's row -/
theorem trodAll_below {H : Type} {enc : TypeId × Value → H} {P : Program} {W W' : World} (hl : laidOutB P = true) (hb : Below W.heap.size W W') (sp' : Nat → Bool) :
    ∀ {ts : List TypeId} {vs : List Value} {ds : List (DataW H)} {ps : List MemPlace}, (ts.all fun t => P.readableRec t && decide (t < P.types.size)) = true → DataW.TrodAll enc P W 0 (fun _ => true) true ts vs ds ps →
      (∀ x ∈ ps, x.block < W.heap.size) → (∀ x ∈ ps, sp' x.block = true) → DataW.TrodAll enc P W' 0 sp' true ts vs ds ps
  | [], vs, ds, ps, _, h, _, _ => by
    obtain ⟨rfl, rfl, rfl⟩ := trodAll_nil h
    exact h
  | t :: ts, vs, ds, ps, hp, h, hlt, hsp => by
    obtain ⟨v, vs1, d, ds1, a, b, rfl, rfl, rfl, h1, h2⟩ := trodAll_cons h
    simp only [List.all_cons, Bool.and_eq_true, decide_eq_true_eq] at hp
    refine ⟨a, b, Trod_stays hl hp.1.1 hp.1.2 h1 (fun x hx => hb.same (hlt x (List.mem_append_left _ hx))) (fun x hx => hsp x (List.mem_append_left _ hx)), ?_, rfl⟩
    exact trodAll_below hl hb sp' hp.2 h2 (fun x hx => hlt x (List.mem_append_right _ hx)) (fun x hx => hsp x (List.mem_append_right _ hx))

theorem post_true {H : Type} {enc : TypeId × Value → H} {P : Program} {f : Func} {s : ChangeSpec} {W W' : World} {args : Array Value} {ds gs : List (DataW H)} {before : List MemPlace} {tb : TypeId}
    (hl : laidOutB P = true) (hp : (f.params.toList.all fun t => P.readableRec t && decide (t < P.types.size)) = true) (hv : s.vars = []) (hres : f.resultTypes = #[tb]) (htb : P.underlying tb = some .bool)
    (hW : DataW.Whole enc P f.params.toList s.vars false W args.toList ds gs before) (hs : s.fn H ds = { results := [.lit (.bool true)], args := ds, vars := [] }) (hb : Below W.heap.size W W') :
    s.post enc P f false true false false W args (.bool true) W' := by
  have hlt := hW.lt
  obtain ⟨p, q, hA, hV, rfl, hz, hn⟩ := id hW
  have hV' := hV
  rw [hv] at hV'
  obtain ⟨rfl, rfl⟩ := trodVars_none hV'
  rw [List.append_nil] at *
  refine ⟨ds, [], p, [], p, [], hW, ?_, ?_, ?_, hb.frame _, fun h => by cases h⟩
  · rw [List.append_nil, hs, hres]
    exact trodAll_mk1 (shut_bool htb _)
  · rw [List.append_nil, hs]
    exact trodAll_below hl hb _ hp hA hlt (fun x hx => by simpa using hlt x hx)
  · rw [List.append_nil, hs, hv]
    rw [hv] at hV
    exact hV

/-- A law that returns true, as a call from an argument's world. -/
theorem law_calls {P : Program} {f : FuncId} {args : List AVal} {W : World} {vals : Array Value} (h : AC P f args heap0 0 fun v _ _ => v = .bool true) (hn : vals.size = args.length) (hv : ∀ (i : Nat) c, args[i]? = some c → VR own0 (memOf W) c (vals.getD i undef)) :
    Calls P f vals W fun e W' => e = .returned (.bool true) ∧ Below W.heap.size W W' := by
  refine (h own0 (memOf W) W vals (st0 W) hn hv).mono ?_
  rintro e w' ⟨u, rfl, v, η', n', own', M', rfl, _, _, hu, _, _, hf, _⟩
  cases hu
  refine ⟨rfl, hf.os, hf.tape, hf.output, hf.size, fun b hb => hf.block b hb fun ⟨r, p, o, h1, _⟩ => by cases h1⟩
theorem args1 {own : Own} {M : Mem} {a : AVal} {u : Value} (h : VR own M a u) : ∀ (i : Nat) c, [a][i]? = some c → VR own M c (#[u].getD i undef)
  | 0, c, e => by simp at e; subst e; exact h
  | i + 1, c, e => by simp at e
theorem args2 {own : Own} {M : Mem} {a b : AVal} {u v : Value} (h : VR own M a u) (k : VR own M b v) : ∀ (i : Nat) c, [a, b][i]? = some c → VR own M c (#[u, v].getD i undef)
  | 0, c, e => by simp at e; subst e; exact h
  | 1, c, e => by simp at e; subst e; exact k
  | i + 2, c, e => by simp at e
end Go.Proofs.YtbomkomipaipmaaGreat
namespace Go.Proofs.YtbomkomipaipmaaGreat
set_option maxRecDepth 100000
def Msgs64 (l : List (Int × Int)) : Prop := l.length ≤ 17592186044416 ∧ ∀ x ∈ l, I64 x.1 ∧ I64 x.2
theorem lies_pair {w : World} {t t1 t2 : TypeId} {fs : Array Field} {f1 f2 : Field} (ht : Tryz.prog.underlying t = some (.struct fs)) (hz : Tryz.prog.cellsOf t = 2) (hf : fs.toList = [f1, f2]) (o1 : f1.offset = 0) (o2 : f2.offset = 1) (e1 : f1.type = t1) (e2 : f2.type = t2)
    (u1 : Tryz.prog.underlying t1 = some (.int .i64)) (u2 : Tryz.prog.underlying t2 = some (.int .i64)) (c1 : Tryz.prog.cellsOf t1 = 1) (c2 : Tryz.prog.cellsOf t2 = 1) : Lies Tryz.prog w t (fun x : Int × Int => [.int .i64 x.1, .int .i64 x.2]) (fun x => I64 x.1 ∧ I64 x.2) := by
  subst e1 e2
  refine lies_struct ht hz ?_
  rw [hf]
  exact liesF_cons o1 c1 (lies_i64 u1) (liesF_one o2 c2 (lies_i64 u2))
theorem lies_instr {w : World} : Lies Tryz.prog w 75 (fun x : Int × Int => [.int .i64 x.1, .int .i64 x.2]) (fun x => I64 x.1 ∧ I64 x.2) := lies_pair Tryz.underlying75 (by kernel_rfl) rfl rfl rfl rfl rfl Tryz.underlying3 Tryz.underlying2 (by kernel_rfl) (by kernel_rfl)
theorem lies_clause {w : World} : Lies Tryz.prog w 147 (fun x : Int × Int => [.int .i64 x.1, .int .i64 x.2]) (fun x => I64 x.1 ∧ I64 x.2) := lies_pair Tryz.underlying147 (by kernel_rfl) rfl rfl rfl rfl rfl Tryz.underlying3 Tryz.underlying3 (by kernel_rfl) (by kernel_rfl)
theorem lies_code {w : World} : Lies Tryz.prog w 70 (fun l : List (Int × Int) => [.rs 2 (pairs l)]) Msgs64 := lies_slice Tryz.underlying70 (by kernel_rfl) (by decide) (of_decide_eq_true (by kernel_rfl)) lies_instr
theorem lies_clauses {w : World} : Lies Tryz.prog w 143 (fun l : List (Int × Int) => [.rs 2 (pairs l)]) Msgs64 := lies_slice Tryz.underlying143 (by kernel_rfl) (by decide) (of_decide_eq_true (by kernel_rfl)) lies_clause
def Ints64 (l : List Int) : Prop := l.length ≤ 17592186044416 ∧ ∀ x ∈ l, I64 x
theorem lies_types {w : World} : Lies Tryz.prog w 69 (fun l : List Int => [.rs 1 (ints l)]) Ints64 := lies_slice Tryz.underlying69 (by kernel_rfl) (by decide) (of_decide_eq_true (by kernel_rfl)) (lies_i64 Tryz.underlying164)
def Tbl64 (t : Tbl) : Prop := Msgs64 t.cls ∧ I64 t.tmo
theorem lies_tbl {w : World} : Lies Tryz.prog w 145 tblC Tbl64 := by
  refine Lies.map (lies_struct Tryz.underlying145 (size := 2) (by kernel_rfl) (liesF_cons (z := 1) rfl (by kernel_rfl) lies_clauses (liesF_one (z := 1) rfl (by kernel_rfl) (lies_i64 Tryz.underlying3)))) (fun p => (⟨p.1, p.2⟩ : Tbl)) tblC Tbl64 ?_
  intro p h
  exact ⟨rfl, h⟩
instance : Inhabited Tbl := ⟨⟨[], 0⟩⟩
instance : Inhabited Actr := ⟨⟨[], [], [], [], []⟩⟩
def Tbls64 (l : List Tbl) : Prop := l.length ≤ 17592186044416 ∧ ∀ x ∈ l, Tbl64 x
theorem lies_tbls {w : World} : Lies Tryz.prog w 71 (fun l : List Tbl => [.rs 2 (tblsC l)]) Tbls64 := lies_slice Tryz.underlying71 (by kernel_rfl) (by decide) (of_decide_eq_true (by kernel_rfl)) lies_tbl
structure Act64 (a : Actr) : Prop where
  params : Ints64 a.params
  regs : Ints64 a.regs
  msgs : Ints64 a.msgs
  code : Msgs64 a.code
  tabs : Tbls64 a.tabs
theorem lies_act {w : World} : Lies Tryz.prog w 73 actC Act64 := by
  refine Lies.map (lies_struct Tryz.underlying73 (size := 5) (by kernel_rfl) (liesF_cons (z := 1) rfl (by kernel_rfl) lies_types (liesF_cons (z := 1) rfl (by kernel_rfl) lies_types (liesF_cons (z := 1) rfl (by kernel_rfl) lies_types (liesF_cons (z := 1) rfl (by kernel_rfl) lies_code (liesF_one (z := 1) rfl (by kernel_rfl) lies_tbls)))))) (fun p => (⟨p.1, p.2.1, p.2.2.1, p.2.2.2.1, p.2.2.2.2⟩ : Actr)) actC Act64 ?_
  intro p h
  exact ⟨rfl, ⟨h.1, h.2.1, h.2.2.1, h.2.2.2.1, h.2.2.2.2⟩⟩
def Mod64 (m : List Actr) : Prop := m.length ≤ 17592186044416 ∧ ∀ x ∈ m, Act64 x
theorem lies_mod {w : World} : Lies Tryz.prog w 24 (fun m : List Actr => [.rs 5 (actsC m)]) Mod64 := by
  refine lies_struct Tryz.underlying24 (size := 1) (by kernel_rfl) (liesF_one (z := 1) rfl (by kernel_rfl) (lies_slice Tryz.underlying22 (by kernel_rfl) (by decide) (of_decide_eq_true (by kernel_rfl)) lies_act))
end Go.Proofs.YtbomkomipaipmaaGreat
namespace Go.Proofs.YtbomkomipaipmaaGreat
set_option maxRecDepth 100000

theorem allA_ac {η : AHeap} {n : Nat} (l : List Actr) (f : FuncId) (caps : List AVal) (p : Actr → Bool) (hb : HB Tryz.prog f = true) (hp : ∀ a ∈ l, ∀ q, n ≤ q → AC Tryz.prog f ([.agg (actC a)] ++ caps) (upd η q (some (.cells 5 [actC a]))) (q + 1) (Rt (.bool (p a)) (upd η q (some (.cells 5 [actC a]))) (q + 1))) (hl : l.length ≤ 17592186044416) :
    AC Tryz.prog 134 [.rs 5 (actsC l), .func f [] caps] η n (Rt (.bool (l.all p)) η n) := by
  refine AC.pure (.bool _) ?_
  refine AC.fresh fun hf => ?_; refine AC.enter Tryz.func134 rfl Tryz.ntmps134 (by simp) ?_
  simp
  refine loopK.inv [4, 6, 9, 10, 11, 12, 13, 14, 15, 16, 17] (fun x : Nat × Nat => x.1 ≤ l.length ∧ n ≤ x.2 ∧ l.all p = (l.drop x.1).all p) (fun x => [(9, .int .i64 x.1)]) (fun _ => η) (fun x => x.2) (fun x => l.length - x.1) (0, n) (by simp) (by simp) (by simp) (Nat.le_refl _) ?_
  intro ⟨k, q⟩ ⟨g1, g2, g3⟩
  simp only at g1 g2 g3
  simp
  have hup : ∀ o, η.le (upd η q o) := fun o => le_upd (AHeap.le_rfl _) (hf q g2)
  refine CondP.dec (fun h => ?_) (fun h => ?_)
  · have h' : k < l.length := by omega
    have hx := hp l[k] (List.getElem_mem ..) q g2
    have ew : IntKind.i64.wrap ((k : Int) + 1) = (k : Int) + 1 := wrap_id (by omega) (by omega)
    rw [List.drop_eq_getElem_cons h', List.all_cons] at g3
    simp only [actC] at hx
    simp [h', aindex, aload, apart, hb, actC, astore, upd_eq, upd_upd]
    refine ACK.rt hx ?_
    cases hpx : p l[k]
    · simp
      exact resK.of (η' := η) (hup _) _ (Nat.le_refl _) ⟨by rw [g3, hpx]; rfl, rfl⟩
    · simp [ew]
      exact endK.intro (k + 1, q + 1) ⟨by omega, by omega, by rw [g3, hpx]; rfl⟩ (by simp) (by repeat (first | exact Agree.mask _ _ | refine Agree.setf rfl ?_ | refine Agree.inner rfl ?_)) (hup _) (Nat.le_refl _) (show l.length - (k + 1) < l.length - k by omega)
  · simp [h]
    exact resK.of (η' := η) (AHeap.le_rfl _) _ (Nat.le_refl _) ⟨by rw [g3, List.drop_eq_nil_of_le (by omega)]; rfl, rfl⟩
def tabsFew (l : List Tbl) : Bool := l.all fun t => decide (t.cls.length ≤ 8)
def littleF (a : Actr) : Bool := tabsFew a.tabs && decide (a.params.length ≤ 4 ∧ a.regs.length ≤ 16 ∧ a.msgs.length ≤ 8 ∧ a.code.length ≤ 200 ∧ a.tabs.length ≤ 8)
theorem little_ac (a : Actr) (η : AHeap) (n : Nat) (ha : a.tabs.length ≤ 17592186044416) : AC Tryz.prog 135 [.agg (actC a)] η n (Rt (.bool (littleF a)) η n) := by
  refine AC.pure (.bool _) ?_
  refine AC.fresh fun hf => ?_; refine AC.enter Tryz.func135 rfl Tryz.ntmps135 (by simp) ?_
  simp [actC, aload, afield, apart, upd_eq]
  refine loopK.inv [2, 4, 8, 9, 10, 11, 12, 13, 14, 15, 16] (fun x : Nat × Nat => x.1 ≤ a.tabs.length ∧ n + 1 ≤ x.2 ∧ tabsFew a.tabs = tabsFew (a.tabs.drop x.1)) (fun x => [(8, .int .i64 x.1)]) (fun _ => upd η n (some (.cells 5 [actC a]))) (fun x => x.2) (fun x => a.tabs.length - x.1) (0, n + 1) (by simp) (by simp) (by simp [actC]) (Nat.le_refl _) ?_
  intro ⟨k, q⟩ ⟨g1, g2, g3⟩
  simp only at g1 g2 g3
  have hnq : n ≠ q := by omega
  have hq0 : upd η n (some (.cells 5 [actC a])) q = none := by rw [upd_ne (Ne.symm hnq)]; exact hf q (by omega)
  have hup : ∀ o, (upd η n (some (.cells 5 [actC a]))).le (upd (upd η n (some (.cells 5 [actC a]))) q o) := fun o => le_upd (AHeap.le_rfl _) hq0
  have le0 : ∀ o, η.le (upd η n o) := fun o => le_upd (AHeap.le_rfl _) (hf n (Nat.le_refl _))
  have hle : ∀ o, η.le (upd (upd η n (some (.cells 5 [actC a]))) q o) := fun o => fun r o' hr => hup o r o' (le0 _ r o' hr)
  simp
  refine CondP.dec (fun h => ?_) (fun h => ?_)
  · have h' : k < a.tabs.length := by omega
    have ew : IntKind.i64.wrap ((k : Int) + 1) = (k : Int) + 1 := wrap_id (by omega) (by omega)
    rw [List.drop_eq_getElem_cons h'] at g3
    simp [h', aindex, aload, apart, afield, tblC, astore, upd_eq, upd_upd]
    refine CondP.dec (fun h2 => ?_) (fun h2 => ?_)
    · simp [h2]
      refine resK.of (η' := η) (hle _) _ (Nat.le_refl _) ⟨?_, rfl⟩
      have h3 : ¬ a.tabs[k].cls.length ≤ 8 := by omega
      have : tabsFew a.tabs = false := by rw [g3, tabsFew, List.all_cons]; simp [h3]
      simp [littleF, this]
    · have h3 : a.tabs[k].cls.length ≤ 8 := by omega
      simp [h2, ew]
      exact endK.intro (k + 1, q + 1) ⟨by omega, by omega, by rw [g3]; unfold tabsFew; rw [List.all_cons]; simp [h3]⟩ (by simp) (by repeat (first | exact Agree.mask _ _ | refine Agree.setf rfl ?_ | refine Agree.inner rfl ?_)) (hup _) (Nat.le_refl _) (show a.tabs.length - (k + 1) < a.tabs.length - k by omega)
  · have ht : tabsFew a.tabs = true := by rw [g3, List.drop_eq_nil_of_le (by omega)]; rfl
    simp [h, aload, afield, apart, upd_eq, actC]
    refine CondP.dec (fun h1 => ?_) (fun h1 => ?_)
    · simp [h1, aload, afield, apart, upd_eq]
      refine CondP.dec (fun h2 => ?_) (fun h2 => ?_)
      · simp [h2, aload, afield, apart, upd_eq]
        refine CondP.dec (fun h3 => ?_) (fun h3 => ?_)
        · simp [h3, aload, afield, apart, upd_eq]
          refine CondP.dec (fun h4 => ?_) (fun h4 => ?_)
          · simp [h4, aload, afield, apart, upd_eq]
            refine resK.of (η' := η) (le0 _) _ (Nat.le_refl _) ⟨?_, rfl⟩
            have e1 : a.params.length ≤ 4 := by omega
            have e2 : a.regs.length ≤ 16 := by omega
            have e3 : a.msgs.length ≤ 8 := by omega
            have e4 : a.code.length ≤ 200 := by omega
            simp [littleF, ht, e1, e2, e3, e4]; omega
          · simp [h4]
            refine resK.of (η' := η) (le0 _) _ (Nat.le_refl _) ⟨?_, rfl⟩
            have : littleF a = false := by simp only [littleF, ht, Bool.true_and, decide_eq_false_iff_not]; omega
            rw [this]
        · simp [h3]
          refine resK.of (η' := η) (le0 _) _ (Nat.le_refl _) ⟨?_, rfl⟩
          have : littleF a = false := by simp only [littleF, ht, Bool.true_and, decide_eq_false_iff_not]; omega
          rw [this]
      · simp [h2]
        refine resK.of (η' := η) (le0 _) _ (Nat.le_refl _) ⟨?_, rfl⟩
        have : littleF a = false := by simp only [littleF, ht, Bool.true_and, decide_eq_false_iff_not]; omega
        rw [this]
    · simp [h1]
      refine resK.of (η' := η) (le0 _) _ (Nat.le_refl _) ⟨?_, rfl⟩
      have : littleF a = false := by simp only [littleF, ht, Bool.true_and, decide_eq_false_iff_not]; omega
      rw [this]
theorem r1_ac (i : Int × Int) (η : AHeap) (m : Nat) : AC Tryz.prog 183 [.agg [.int .i64 i.1, .int .i64 i.2]] η m (Rt (.bool (!rightI i)) η m) := by
  refine AC.pure (.bool _) ?_
  refine AC.fresh fun hf => ?_; refine AC.enter Tryz.func183 rfl Tryz.ntmps183 (by simp) ?_
  simp [aload, apart, upd_eq]
  refine ACK.rt (iright_ac i _ _) ?_
  simp
  exact resK.of (η' := η) (le_upd (AHeap.le_rfl _) (hf m (Nat.le_refl _))) _ (Nat.le_refl _) ⟨rfl, rfl⟩
theorem r2_ac (t : Tbl) (η : AHeap) (m : Nat) (hl : t.cls.length ≤ 17592186044416) : AC Tryz.prog 186 [.agg (tblC t)] η m (Rt (.bool (!tableOK t)) η m) := by
  have ht := fun η m => table_ac t η m hl
  simp only [tblC] at ht ⊢
  refine AC.pure (.bool _) ?_
  refine AC.fresh fun hf => ?_; refine AC.enter Tryz.func186 rfl Tryz.ntmps186 (by simp) ?_
  simp [aload, apart, upd_eq]
  refine ACK.rt (ht _ _) ?_
  simp
  exact resK.of (η' := η) (le_upd (AHeap.le_rfl _) (hf m (Nat.le_refl _))) _ (Nat.le_refl _) ⟨rfl, rfl⟩
def rightA (a : Actr) (n : Int) : Bool := allT (a.params ++ a.regs ++ a.msgs) n && (decide (a.code ≠ [] ∧ a.params.length ≤ a.regs.length) && (a.code.all rightI && (a.tabs.all tableOK && decide (a.params = a.regs.take a.params.length))))
end Go.Proofs.YtbomkomipaipmaaGreat
namespace Go.Proofs.YtbomkomipaipmaaGreat
set_option maxRecDepth 100000

theorem right_ac (a : Actr) (n : Int) (η : AHeap) (m : Nat) (ha : Act64 a) (hs : littleF a = true) : AC Tryz.prog 137 [.agg (actC a), .int .i64 n] η m (Rt (.bool (rightA a n)) η m) := by
  have hs2 := hs
  simp only [littleF, Bool.and_eq_true, decide_eq_true_eq] at hs2
  obtain ⟨_, l1, l2, l3, l4, l5⟩ := hs2
  refine AC.pure (.bool _) ?_
  refine AC.fresh fun hf => ?_; refine AC.enter Tryz.func137 rfl Tryz.ntmps137 (by simp) ?_
  have le0 : ∀ o, η.le (upd η m o) := fun o => le_upd (AHeap.le_rfl _) (hf m (Nat.le_refl _))
  have le2 : ∀ o o', η.le (upd (upd η m o) (m + 1) o') := fun o o' => le_upd (le0 _) (hf (m + 1) (by omega))
  simp [aload, afield, apart, upd_eq, actC, abuildS, chunk, tek, afillP]
  refine ACK.rt (concat_ac (vs := [.rs 1 (ints a.params), .rs 1 (ints a.regs), .rs 1 (ints a.msgs)]) (ls := [a.params, a.regs, a.msgs]) (upd_eq ..) rfl (fun i h h' => ?_) (by simp; omega) (by simp)) ?_
  · match i, h with
    | 0, _ => exact Or.inl rfl
    | 1, _ => exact Or.inl rfl
    | 2, _ => exact Or.inl rfl
  have ec : ([a.params, a.regs, a.msgs] : List (List Int)).flatten = a.params ++ a.regs ++ a.msgs := by simp
  rw [ec]
  simp
  refine ACK.rt (kall_ac (a.params ++ (a.regs ++ a.msgs)) n (by simp; omega)) ?_
  rw [← List.append_assoc]
  cases h1 : allT (a.params ++ a.regs ++ a.msgs) n
  · simp
    exact resK.of (η' := η) (le2 _ _) _ (Nat.le_refl _) ⟨by simp only [rightA, h1, Bool.false_and], rfl⟩
  simp [aload, afield, apart, upd_apply]
  refine CondP.dec (fun h2 => ?_) (fun h2 => ?_)
  · simp [h2]
    exact resK.of (η' := η) (le2 _ _) _ (Nat.le_refl _) ⟨by simp [rightA, h2], rfl⟩
  simp [h2, aload, afield, apart, upd_apply]
  refine CondP.dec (fun h3 => ?_) (fun h3 => ?_)
  · simp [h3]
    have : ¬ a.params.length ≤ a.regs.length := by omega
    exact resK.of (η' := η) (le2 _ _) _ (Nat.le_refl _) ⟨by simp [rightA, this], rfl⟩
  have h3' : a.params.length ≤ a.regs.length := by omega
  simp [h3, aload, afield, apart, upd_apply]
  refine ACK.rt (containsI_ac a.code 183 [] (fun i => !rightI i) (by simp) (fun x _ => r1_ac x _ _) (by omega)) ?_
  simp [aload, afield, apart, upd_apply]
  refine ACK.rt (containsB_ac a.tabs 186 [] (fun t => !tableOK t) (by simp) (fun x hx => r2_ac x _ _ (ha.tabs.2 x hx).1.1) (by omega)) ?_
  simp
  refine drawK.intro mixed [(0, []), (1, []), (2, []), (3, []), (4, []), (5, []), (6, []), (7, []), (8, []), (9, []), (10, []), (11, []), (12, []), (13, []), (14, []), (15, []), (16, []), (17, [])] (by kernel_rfl) ?_
  have e1 := any_not a.code rightI
  have e2 := any_not a.tabs tableOK
  cases h4 : a.code.any fun i => !rightI i
  · rw [h4] at e1
    cases h5 : a.tabs.any fun i => !tableOK i
    · rw [h5] at e2
      have hsl : List.take a.params.length (ints a.regs) = ints (a.regs.take a.params.length) := by simp [ints]
      simp [aload, afield, apart, upd_apply, asliceV, abnd, h3', hsl]
      refine ACK.rt (ksame_ac (l1 := a.params) (l2 := a.regs.take a.params.length) (Or.inl rfl) (Or.inl rfl) (by omega)) ?_
      simp
      refine resK.of (η' := η) (le2 _ _) _ (Nat.le_refl _) ⟨?_, rfl⟩
      simp only [Bool.not_false] at e1 e2
      simp only [rightA, h1, ← e1, ← e2, Bool.true_and]
      simp [h2, h3']
    · rw [h5] at e2
      simp
      refine resK.of (η' := η) (le2 _ _) _ (Nat.le_refl _) ⟨?_, rfl⟩
      simp only [Bool.not_true] at e2
      simp only [rightA, ← e2, Bool.false_and, Bool.and_false]
  · rw [h4] at e1
    simp
    refine resK.of (η' := η) (le2 _ _) _ (Nat.le_refl _) ⟨?_, rfl⟩
    simp only [Bool.not_true] at e1
    simp only [rightA, ← e1, Bool.false_and, Bool.and_false]
theorem Rr1_ac (a : Actr) (n : Int) (q : Nat) (η : AHeap) (m : Nat) (ha : Act64 a) (hs : littleF a = true) (hq : η q = some (.cells 1 [[.int .i64 n]])) : AC Tryz.prog 136 [.agg (actC a), .ptr q 0 0] η m (Rt (.bool (rightA a n)) η m) := by
  have hr := fun η m => right_ac a n η m ha hs
  simp only [actC] at hr ⊢
  refine AC.pure (.bool _) ?_
  refine AC.fresh fun hf => ?_; refine AC.enter Tryz.func136 rfl Tryz.ntmps136 (by simp) ?_
  have hqm : ¬ q = m := fun e => by rw [e, hf m (Nat.le_refl _)] at hq; cases hq
  simp [aload, apart, upd_apply, hq, hqm]
  refine ACK.rt (hr _ _) ?_
  simp
  exact resK.of (η' := η) (le_upd (AHeap.le_rfl _) (hf m (Nat.le_refl _))) _ (Nat.le_refl _) ⟨rfl, rfl⟩
def rightM (m : List Actr) : Int :=
  if 8 < m.length ∨ m.all littleF = false then 3
  else if m = [] ∨ 0 < (actr m 0).params.length ∨ (m.all fun a => rightA a m.length) = false then 4 else 0
theorem mright_ac (l : List Actr) (η : AHeap) (m : Nat) (hm : Mod64 l) : AC Tryz.prog 82 [modV l] η m (Rt (.int .i64 (rightM l)) η m) := by
  refine AC.pure (.int _ _) ?_
  have hl := hm.1
  refine AC.fresh fun hf => ?_; refine AC.enter Tryz.func82 rfl Tryz.ntmps82 (by simp) ?_
  have le0 : ∀ o, η.le (upd η m o) := fun o => le_upd (AHeap.le_rfl _) (hf m (Nat.le_refl _))
  have le2 : ∀ o o' o'', η.le (upd (upd (upd η m o) (m + 1) o') (m + 1) o'') := fun o o' o'' => by rw [upd_upd]; exact le_upd (le0 _) (hf (m + 1) (by omega))
  simp [modV, aload, afield, apart, upd_apply, astore]
  refine CondP.dec (fun h1 => ?_) (fun h1 => ?_)
  · simp [h1]
    have : 8 < l.length := by omega
    exact resK.of (η' := η) (le2 _ _ _) _ (Nat.le_refl _) ⟨by simp [rightM, this], rfl⟩
  have h1' : ¬ 8 < l.length := by omega
  simp [h1, aload, afield, apart, upd_apply]
  refine ACK.rt (allA_ac l 135 [] littleF (by simp) (fun a ha q hq => little_ac a _ _ (hm.2 a ha).tabs.1) hl) ?_
  cases h2 : l.all littleF
  · simp
    exact resK.of (η' := η) (le2 _ _ _) _ (Nat.le_refl _) ⟨by simp [rightM, h2], rfl⟩
  simp [aload, apart, upd_apply]
  refine CondP.dec (fun h3 => ?_) (fun h3 => ?_)
  · simp [h3]
    exact resK.of (η' := η) (le2 _ _ _) _ (Nat.le_refl _) ⟨by simp [rightM, h3], rfl⟩
  have h0 : 0 < l.length := List.length_pos_iff.2 h3
  have ea : actr l 0 = l[0] := by simp [actr, List.getD_eq_getElem?_getD, h0]
  simp [h3, aload, afield, apart, upd_apply, aindex, h0, actC]
  refine CondP.dec (fun h4 => ?_) (fun h4 => ?_)
  · simp [h4]
    exact resK.of (η' := η) (le2 _ _ _) _ (Nat.le_refl _) ⟨by simp [rightM, h1', h2, ea, h4], rfl⟩
  simp [h4, aload, afield, apart, upd_apply]
  refine ACK.rt (allA_ac l 136 [.ptr (m + 1) 0 0] (fun a => rightA a l.length) (by simp) (fun a ha q hq => Rr1_ac a l.length (m + 1) _ _ (hm.2 a ha) (List.all_eq_true.1 h2 a ha) (by rw [upd_ne (by omega)]; simp [upd_apply])) hl) ?_
  cases h5 : l.all fun a => rightA a l.length
  · simp
    exact resK.of (η' := η) (le2 _ _ _) _ (Nat.le_refl _) ⟨by simp only [rightM, h5]; simp [h1', h2], rfl⟩
  · simp
    refine resK.of (η' := η) (le2 _ _ _) _ (Nat.le_refl _) ⟨?_, rfl⟩
    have : ¬ (8 < l.length ∨ l.all littleF = false) := by simp [h2]; omega
    have h6 : ¬ (l = [] ∨ 0 < (actr l 0).params.length ∨ (l.all fun a => rightA a l.length) = false) := by rw [h5, ea]; simp [h3]; simpa using h4
    simp only [rightM]; rw [if_neg this, if_neg h6]
end Go.Proofs.YtbomkomipaipmaaGreat
namespace Go.Proofs.YtbomkomipaipmaaGreat
set_option maxRecDepth 100000

end Go.Proofs.YtbomkomipaipmaaGreat
namespace Go.Proofs.YtbomkomipaipmaaGreat
set_option maxRecDepth 100000

structure Lc where
  m : List Actr
  k : Nat
  own : Actr
structure Lx where
  shapes : List (List Int)
  has : List Bool
  todo : List Bool
def bools (l : List Bool) : List AVal := l.map .bool
def lookC (c : Lc) (shv : AVal) (has todo : List Bool) : List AVal :=
  .rs 5 (actsC c.m) :: .int .i64 c.k :: .rs 1 (ints c.own.params) :: .rs 1 (ints c.own.regs) :: .rs 1 (ints c.own.msgs) :: .rs 2 (pairs c.own.code) :: .rs 2 (tblsC c.own.tabs) :: shv :: (bools has ++ bools todo)
section
variable (c : Lc) (v : AVal) (hs td : List Bool)
@[simp] theorem lookC_0 : (lookC c v hs td)[0]? = some (.rs 5 (actsC c.m)) := rfl
@[simp] theorem lookC_1 : (lookC c v hs td)[1]? = some (.int .i64 c.k) := rfl
@[simp] theorem lookC_2 : (lookC c v hs td)[2]? = some (.rs 1 (ints c.own.params)) := rfl
@[simp] theorem lookC_3 : (lookC c v hs td)[3]? = some (.rs 1 (ints c.own.regs)) := rfl
@[simp] theorem lookC_4 : (lookC c v hs td)[4]? = some (.rs 1 (ints c.own.msgs)) := rfl
@[simp] theorem lookC_5 : (lookC c v hs td)[5]? = some (.rs 2 (pairs c.own.code)) := rfl
@[simp] theorem lookC_6 : (lookC c v hs td)[6]? = some (.rs 2 (tblsC c.own.tabs)) := rfl
@[simp] theorem lookC_7 : (lookC c v hs td)[7]? = some v := rfl
theorem lookC_tail (i : Nat) : (lookC c v hs td)[8 + i]? = (bools hs ++ bools td)[i]? := by
  rw [show 8 + i = i + 8 by omega]; rfl
theorem lookC_has (h : hs.length = 200) (i : Nat) (hi : i < 200) : (lookC c v hs td)[8 + i]? = some (.bool (hs.getD i false)) := by
  rw [lookC_tail, List.getElem?_append_left (by simp [bools]; omega)]
  simp [bools, List.getD_eq_getElem?_getD, h, hi]
theorem lookC_todo (h : hs.length = 200) (h' : td.length = 200) (i : Nat) (hi : i < 200) : (lookC c v hs td)[208 + i]? = some (.bool (td.getD i false)) := by
  rw [show 208 + i = 8 + (200 + i) by omega, lookC_tail, List.getElem?_append_right (by simp [bools]; omega)]
  have : 200 + i - (bools hs).length = i := by simp [bools]; omega
  rw [this]
  simp [bools, List.getD_eq_getElem?_getD, h', hi]
theorem lookC_len (h : hs.length = 200) (h' : td.length = 200) : (lookC c v hs td).length = 408 := by simp [lookC, bools, h, h']
theorem lookC_set (i : Nat) (x : AVal) : (lookC c v hs td).set (8 + i) x = (lookC c v hs td).take 8 ++ (bools hs ++ bools td).set i x := by
  rw [show 8 + i = i + 8 by omega]; rfl
theorem lookC_setHas (h : hs.length = 200) (i : Nat) (hi : i < 200) (b : Bool) : (lookC c v hs td).set (8 + i) (.bool b) = lookC c v (hs.set i b) td := by
  rw [lookC_set, List.set_append_left _ _ (by simp [bools]; omega)]
  simp [lookC, bools, List.map_set]
theorem lookC_setTodo (h : hs.length = 200) (i : Nat) (hi : i < 200) (b : Bool) : (lookC c v hs td).set (208 + i) (.bool b) = lookC c v hs (td.set i b) := by
  rw [show 208 + i = 8 + (200 + i) by omega, lookC_set, List.set_append_right _ _ (by simp [bools]; omega)]
  have : 200 + i - (bools hs).length = i := by simp [bools]; omega
  rw [this]
  simp [lookC, bools, List.map_set]
theorem lookC_setShapes (v' : AVal) : (lookC c v hs td).set 7 v' = lookC c v' hs td := rfl
end
/-- one cell of one row -/
theorem astore_cell {P : Program} {t : TypeId} {r j k : Nat} {x : AVal} {η : AHeap} {row : List AVal} (h1 : η r = some (.cells k [row])) (h2 : tsize P t = some 1) (h3 : acells x = [x]) (h4 : x.sc = true) (h5 : j < k) (h6 : row.length = k) :
    astore P t (.ptr r 0 j) x η = some (upd η r (some (.cells k [row.set j x]))) := by
  have : row.take j ++ x :: row.drop (j + 1) = row.set j x := set_mid _ _ _ (by omega)
  unfold astore
  simp [h1, h2, h3, h4, this]
  omega
/-- one cell of a list of cells -/
theorem astore_row {P : Program} {t : TypeId} {r i : Nat} {x : AVal} {η : AHeap} {vs : List AVal} (h1 : η r = some (.cells 1 (vs.map fun v => [v]))) (h2 : tsize P t = some 1) (h3 : acells x = [x]) (h4 : x.sc = true) (h5 : i < vs.length) :
    astore P t (.ptr r i 0) x η = some (upd η r (some (.cells 1 ((vs.set i x).map fun v => [v])))) := by
  have e : (vs.map fun v => [v])[i]? = some [vs[i]] := by simp [h5]
  unfold astore
  simp only [h1, h2, e, h3]
  simp [h4, List.map_set]

def namesL (c : Lc) (i : Int × Int) : Bool :=
  if i.1 = 4 ∨ i.1 = 5 then decide (i.2 < c.own.regs.length) else if i.1 = 19 then decide (i.2 < c.m.length) else if i.1 = 21 then decide (i.2 < c.own.tabs.length) else true
def popL (s w : List Int) : List Int × Int := if s.length < w.length then ([], 12) else if s.drop (s.length - w.length) = w then (s.take (s.length - w.length), 0) else ([], 10)
def effL (c : Lc) (i : Int × Int) : List Int × List Int :=
  if i.1 = 1 then ([], [1]) else if i.1 = 2 ∨ i.1 = 3 then ([], [2]) else if i.1 = 4 then ([], [c.own.regs.getD i.2.toNat 0]) else if i.1 = 5 then ([c.own.regs.getD i.2.toNat 0], [])
  else if 6 ≤ i.1 ∧ i.1 ≤ 10 then ([1, 1], [1]) else if i.1 = 11 ∨ i.1 = 12 then ([1, 1], [2]) else if i.1 = 13 then ([2], [2]) else if i.1 = 14 ∨ i.1 = 15 then ([2, 2], [2]) else if i.1 = 17 then ([2], [])
  else if i.1 = 18 then ([], [16 + (c.k : Int)]) else if i.1 = 19 then ((actr c.m i.2).params, [16 + i.2]) else if i.1 = 23 ∨ i.1 = 24 ∨ (i.1 = 21 ∧ 0 ≤ (tbl c.own i.2).tmo) then ([1], []) else ([], [])
def sendL (c : Lc) (a : Int) (s : List Int) : List Int × Int :=
  if s.length < 2 then ([], 12) else if (actT (s.getD (s.length - 2) 0)).2 = false then ([], 10)
  else if a < (actr c.m (actT (s.getD (s.length - 2) 0)).1).msgs.length then (s.take (s.length - 2), if s.drop (s.length - 1) = [(actr c.m (actT (s.getD (s.length - 2) 0)).1).msgs.getD a.toNat 0] then 0 else 10)
  else ([], 6)
def high (o : List Int) (e : Int) : List Int × Int := (o, if e = 0 ∧ 16 < o.length then 12 else e)
def behL (c : Lc) (i : Int × Int) (s : List Int) : List Int × Int :=
  if namesL c i = false then ([], 6) else if i.1 = 20 then sendL c i.2 s
  else if i.1 = 22 ∨ i.1 = 25 ∨ i.1 = 26 then
    if s = [] then ([], 12) else if i.1 = 22 ∧ (actT (s.getLastD 0)).2 = false then ([], 10) else high (if i.1 = 26 then s ++ [s.getLastD 0] else s.dropLast) 0
  else high ((popL s (effL c i).1).1 ++ (effL c i).2) (popL s (effL c i).1).2
def goesL (c : Lc) (x : Lx) (to : Nat) (s : List Int) : Lx × Int :=
  if c.own.code.length ≤ to then (x, 11) else if x.has.getD to false = false then (⟨x.shapes.set to s, x.has.set to true, x.todo.set to true⟩, 0) else if x.shapes.getD to [] = s then (x, 0) else (x, 10)
def recvL (c : Lc) (tmo : Int) (s : List Int) : List (Int × Int) → Lx → Lx × Int
  | [], x => if tmo < 0 then (x, 0) else goesL c x tmo.toNat s
  | cl :: r, x => if (c.own.msgs.length : Int) ≤ cl.1 then (x, 6) else if 16 < s.length + 1 then (x, 12)
    else if (goesL c x cl.2.toNat (s ++ [c.own.msgs.getD cl.1.toNat 0])).2 = 0 then recvL c tmo s r (goesL c x cl.2.toNat (s ++ [c.own.msgs.getD cl.1.toNat 0])).1 else goesL c x cl.2.toNat (s ++ [c.own.msgs.getD cl.1.toNat 0])
def atL (c : Lc) (x : Lx) (p : Nat) : Lx × Int :=
  let i := c.own.code.getD p (0, 0)
  let b := behL c i (x.shapes.getD p [])
  if b.2 ≠ 0 then (x, b.2) else if i.1 = 0 ∨ i.1 = 23 then (x, 0) else if i.1 = 16 then goesL c x i.2.toNat b.1
  else if i.1 = 21 then recvL c (tbl c.own i.2).tmo b.1 (tbl c.own i.2).cls x
  else if i.1 = 17 then (if (goesL c x i.2.toNat b.1).2 = 0 then goesL c (goesL c x i.2.toNat b.1).1 (p + 1) b.1 else goesL c x i.2.toNat b.1)
  else goesL c x (p + 1) b.1
end Go.Proofs.YtbomkomipaipmaaGreat
namespace Go.Proofs.YtbomkomipaipmaaGreat
set_option maxRecDepth 100000

theorem IsL.cut {P : Program} {t e : TypeId} (ht : telem P t = some e) (hz : tsize P e = some 1) {η : AHeap} {v : AVal} {l : List Int} (h : IsL η v l) {lo hi : Option AVal} {a b : Nat} (hb : abnd lo hi l.length = some (a, b)) (hab : a ≤ b) (hbl : b ≤ l.length) :
    ∃ u, asliceV P t v lo hi none η = some u ∧ IsL η u ((l.take b).drop a) := by
  rcases h with rfl | ⟨rfl, rfl⟩ | ⟨r, o, I, J, rfl, ho, hr⟩
  · refine ⟨.rs 1 (ints ((l.take b).drop a)), ?_, Or.inl rfl⟩
    simp [asliceV, ht, hz, hb]
    simp [ints]
  · have : a = 0 ∧ b = 0 := by simp at hbl; omega
    obtain ⟨rfl, rfl⟩ := this
    refine ⟨.nils, ?_, Or.inr (Or.inl ⟨rfl, rfl⟩)⟩
    simp at hb
    simp [asliceV, ht, hz, hb]
  · refine ⟨.sl r (o + a) (b - a), ?_, ?_⟩
    · simp [asliceV, ht, hz, hb, hr]
    · refine Or.inr (Or.inr ⟨r, o + a, I ++ l.take a, l.drop b ++ J, ?_, ?_, ?_⟩)
      · simp; omega
      · simp; omega
      · rw [hr]
        have : l = l.take a ++ ((l.take b).drop a ++ l.drop b) := by
          conv => lhs; rw [← List.take_append_drop a l]
          congr 1
          rw [← List.take_append_drop (b - a) (l.drop a), List.drop_drop, List.drop_take]
          simp; congr 2; omega
        conv => lhs; rw [this]
        simp
theorem IsL.cutLo {P : Program} {t e : TypeId} (ht : telem P t = some e) (hz : tsize P e = some 1) {η : AHeap} {v : AVal} {l : List Int} (h : IsL η v l) {k : IntKind} {x : Int} (h0 : 0 ≤ x) (hx : x ≤ l.length) :
    ∃ u, asliceV P t v (some (.int k x)) none none η = some u ∧ IsL η u (l.drop x.toNat) := by
  obtain ⟨u, h1, h2⟩ := h.cut ht hz (lo := some (.int k x)) (hi := none) (a := x.toNat) (b := l.length) (by simp [abnd, h0, hx]) (by omega) (Nat.le_refl _)
  exact ⟨u, h1, by simpa using h2⟩
theorem IsL.cutHi {P : Program} {t e : TypeId} (ht : telem P t = some e) (hz : tsize P e = some 1) {η : AHeap} {v : AVal} {l : List Int} (h : IsL η v l) {k : IntKind} {x : Int} (h0 : 0 ≤ x) (hx : x ≤ l.length) :
    ∃ u, asliceV P t v none (some (.int k x)) none η = some u ∧ IsL η u (l.take x.toNat) := by
  obtain ⟨u, h1, h2⟩ := h.cut ht hz (lo := none) (hi := some (.int k x)) (a := 0) (b := x.toNat) (by simp [abnd, h0, hx]) (by omega) (by omega)
  exact ⟨u, h1, by simpa using h2⟩
theorem IsL.cut1 {P : Program} {t e : TypeId} (ht : telem P t = some e) (hz : tsize P e = some 1) {η : AHeap} {v : AVal} {l : List Int} (h : IsL η v l) {k k' : IntKind} {x y : Int} (h0 : 0 ≤ x) (hx : x < l.length) (hy : y = x + 1) :
    ∃ u, asliceV P t v (some (.int k x)) (some (.int k' y)) none η = some u ∧ IsL η u [l.getD x.toNat 0] := by
  subst hy
  have e2 : (x + 1).toNat = x.toNat + 1 := by omega
  have e3 : x + 1 ≤ l.length := by omega
  have hxn : x.toNat < l.length := by omega
  obtain ⟨u, h1, h2⟩ := h.cut ht hz (lo := some (.int k x)) (hi := some (.int k' (x + 1))) (a := x.toNat) (b := x.toNat + 1) (by simp [abnd, e2, e3, show 0 ≤ x + 1 by omega, h0, show x ≤ x + 1 by omega]) (by omega) (by omega)
  refine ⟨u, h1, ?_⟩
  have : (l.take (x.toNat + 1)).drop x.toNat = [l.getD x.toNat 0] := by
    rw [List.drop_take, show x.toNat + 1 - x.toNat = 1 by omega, List.drop_eq_getElem_cons hxn, List.take_succ_cons, List.take_zero, List.getD_eq_getElem?_getD, List.getElem?_eq_getElem hxn, Option.getD_some]
  rwa [this] at h2

theorem lnames_ac {c : Lc} {v : AVal} {hs td : List Bool} {g : Nat} {η : AHeap} {n : Nat} (i : Int × Int) (hg : η g = some (.cells 408 [lookC c v hs td])) : AC Tryz.prog 248 [.ptr g 0 0, .agg [.int .i64 i.1, .int .i64 i.2]] η n (Rt (.bool (namesL c i)) η n) := by
  obtain ⟨op, a⟩ := i
  refine AC.pure (.bool _) ?_
  refine AC.fresh fun hf => ?_; refine AC.enter Tryz.func248 rfl Tryz.ntmps248 (by simp) ?_
  have le1 : ∀ o, η.le (upd η n o) := fun o => le_upd (AHeap.le_rfl _) (hf n (Nat.le_refl _))
  have hgn : g ≠ n := fun e => by subst e; rw [hf g (Nat.le_refl _)] at hg; cases hg
  have hg1 : ∀ o, (upd η n o) g = some (.cells 408 [lookC c v hs td]) := fun o => by rw [upd_ne hgn]; exact hg
  simp [aload, afield, apart, upd_eq]
  refine CondP.dec (fun h1 => ?_) (fun h1 => ?_)
  · simp [h1]
    refine drawK.intro mixed [(0, []), (1, []), (2, []), (3, []), (4, []), (5, []), (6, []), (7, []), (8, []), (9, [])] (by kernel_rfl) ?_
    simp [aload, afield, apart, upd_eq, hg1]
    exact resK.of (η' := η) (le1 _) _ (Nat.le_refl _) ⟨by simp [namesL, h1], rfl⟩
  simp [h1]
  refine CondP.dec (fun h2 => ?_) (fun h2 => ?_)
  · simp [h2]
    refine drawK.intro mixed [(0, []), (1, []), (2, []), (3, []), (4, []), (5, []), (6, []), (7, []), (8, []), (9, [])] (by kernel_rfl) ?_
    simp [aload, afield, apart, upd_eq, hg1]
    exact resK.of (η' := η) (le1 _) _ (Nat.le_refl _) ⟨by simp [namesL, h2], rfl⟩
  simp [h2]
  refine CondP.dec (fun h3 => ?_) (fun h3 => ?_)
  · simp [h3]
    refine drawK.intro mixed [(0, []), (1, []), (2, []), (3, []), (4, []), (5, []), (6, []), (7, []), (8, []), (9, [])] (by kernel_rfl) ?_
    simp [aload, afield, apart, upd_eq, hg1]
    exact resK.of (η' := η) (le1 _) _ (Nat.le_refl _) ⟨by simp [namesL, h3], rfl⟩
  simp [h3]
  refine CondP.dec (fun h4 => ?_) (fun h4 => ?_)
  · simp [h4]
    refine drawK.intro mixed [(0, []), (1, []), (2, []), (3, []), (4, []), (5, []), (6, []), (7, []), (8, []), (9, [])] (by kernel_rfl) ?_
    simp [aload, afield, apart, upd_eq, hg1]
    exact resK.of (η' := η) (le1 _) _ (Nat.le_refl _) ⟨by simp [namesL, h4], rfl⟩
  simp [h4]
  exact resK.of (η' := η) (le1 _) _ (Nat.le_refl _) ⟨by simp [namesL, h1, h2, h3, h4], rfl⟩

/-- a list of numbers and an error; the list counts when there is none -/
def PE (η : AHeap) (n : Nat) (l : List Int) (e : Int) : AVal → AHeap → Nat → Prop := fun r η' n' => (∃ v, r = .tup [v, .int .i64 e] ∧ IsL η v l) ∧ η' = η ∧ n' = n
theorem PE.of {η : AHeap} {n : Nat} {l : List Int} {e e' : Int} {v : AVal} (he : e' = e) (hv : IsL η v l) : PE η n l e (.tup [v, .int .i64 e']) η n := ⟨⟨v, by rw [he], hv⟩, rfl, rfl⟩
theorem IsL.nil' {η : AHeap} {l : List Int} (h : l = []) : IsL η .nils l := Or.inr (Or.inl ⟨rfl, h⟩)
theorem lpop_ac {η : AHeap} {n : Nat} {v1 v2 : AVal} {s w : List Int} (h1 : IsL η v1 s) (h2 : IsL η v2 w) (hl : s.length ≤ 17592186044416) (hl2 : w.length ≤ 17592186044416) : AC Tryz.prog 252 [v1, v2] η n (PE η n (popL s w).1 (popL s w).2) := by
  have z1 : ∀ η', alenT Tryz.prog 69 v1 η' = some (s.length : Int) := h1.len (by simp)
  have z2 : ∀ η', alenT Tryz.prog 69 v2 η' = some (w.length : Int) := h2.len (by simp)
  have e1 : IntKind.i64.wrap ((s.length : Int) - (w.length : Int)) = (s.length : Int) - (w.length : Int) := wrap_id (by omega) (by omega)
  refine AC.enter Tryz.func252 rfl Tryz.ntmps252 (by simp) ?_
  simp [z1, z2, e1]
  refine CondP.dec (fun h => ?_) (fun h => ?_)
  · have : s.length < w.length := by omega
    simp [h]
    exact resK.rt (PE.of (by simp [popL, this]) (IsL.nil' (by simp [popL, this])))
  · have hn : ¬ s.length < w.length := by omega
    have q0 : 0 ≤ (s.length : Int) - (w.length : Int) := by omega
    have q1 : (s.length : Int) - (w.length : Int) ≤ s.length := by omega
    have q2 : ((s.length : Int) - (w.length : Int)).toNat = s.length - w.length := by omega
    obtain ⟨u1, d1, d2⟩ := h1.cutLo (P := Tryz.prog) (t := 69) (e := 164) (by simp) (by simp) (k := .i64) q0 q1
    obtain ⟨u2, f1, f2⟩ := h1.cutHi (P := Tryz.prog) (t := 69) (e := 164) (by simp) (by simp) (k := .i64) q0 q1
    rw [q2] at d2 f2
    simp [h, d1]
    refine ACK.rt (ksame_ac d2 h2 (by simp; omega)) ?_
    by_cases h3 : s.drop (s.length - w.length) = w
    · simp [h3, f1]
      exact resK.rt (PE.of (by simp [popL, hn, h3]) (by simpa [popL, hn, h3] using f2))
    · simp [h3]
      exact resK.rt (PE.of (by simp [popL, hn, h3]) (IsL.nil' (by simp [popL, hn, h3])))
/-! ### repeat, of one or two -/
theorem bmul_ac (b : Int) (hb : b = 1 ∨ b = 2) (η : AHeap) (n : Nat) : AC Tryz.prog 276 [.int .u64 1, .int .u64 b] η n (Rt (.tup [.int .u64 0, .int .u64 b]) η n) := by
  rcases hb with rfl | rfl
  · refine AC.enter Tryz.func276 rfl Tryz.ntmps276 (by simp) ?_
    simp
    exact resK.rt ⟨by kernel_rfl, rfl, rfl⟩
  · refine AC.enter Tryz.func276 rfl Tryz.ntmps276 (by simp) ?_
    simp
    exact resK.rt ⟨by kernel_rfl, rfl, rfl⟩
theorem bmulU_ac (b : Int) (hb : b = 1 ∨ b = 2) (η : AHeap) (n : Nat) : AC Tryz.prog 274 [.int .u64 1, .int .u64 b] η n (Rt (.tup [.int .u64 0, .int .u64 b]) η n) := by
  refine AC.enter Tryz.func274 rfl Tryz.ntmps274 (by simp) ?_
  simp
  refine ACK.rt (bmul_ac b hb _ _) ?_
  simp
  exact resK.rt ⟨rfl, rfl, rfl⟩
theorem sRepeat_ac {η : AHeap} {n p : Nat} {t : Int} (c : Nat) (hc : c = 1 ∨ c = 2) (hp : η p = some (.cells 1 [[.int .i64 t]])) :
    AC Tryz.prog 272 [.sl p 0 1, .int .i64 c] η n (Rt (.rs 1 (ints (List.replicate c t))) η n) := by
  refine AC.listNew (by simp only [lenMax, List.length_replicate]; omega) ?_
  have e1 : ¬ ((c : Int) < 0) := by omega
  have e2 : IntKind.u64.wrap (c : Int) = c := by rw [IntKind.wrap_u64]; omega
  have e3 : IntKind.i64.wrap (c : Int) = c := wrap_id (by omega) (by omega)
  have e4 : ¬ (9223372036854775807 : Int) < c := by omega
  have e5 : IntKind.u64.wrap (1 : Int) = 1 := by rw [IntKind.wrap_u64]; omega
  refine AC.fresh fun hf => ?_; refine AC.enter Tryz.func272 rfl Tryz.ntmps272 (by simp) ?_
  simp [e1, aconv, e2, e5]
  refine ACK.rt (bmulU_ac _ (by omega) _ _) ?_
  simp [aconv, e3, e4]
  have b1 : 8 * (c : Int) ≤ 281474976710656 := by omega
  have b2 : (c : Int) ≤ 9223372036854775807 := by omega
  have hpn : p ≠ n := fun e => by subst e; rw [hf p (Nat.le_refl _)] at hp; cases hp
  simp [makeK, b1, b2]
  refine cpyK.own (e := 164) (z := 1) (e2 := 164) (by simp) (by simp) (by simp) (by omega) (news := [[.int .i64 t]]) (by simp [arows, upd_ne hpn, hp]) (by simp) (upd_eq ..) (by simp) ?_
  have em : min 1 c = 1 := by omega
  simp [em, upd_upd]
  have er : [AVal.int .i64 t] :: List.replicate (c - 1) [AVal.int .i64 0] = ints (List.replicate 1 t ++ List.replicate (c - 1) 0) := by simp [ints]
  rw [er]
  refine loopK.inv [8, 34, 35, 36, 37, 38, 39, 40, 41, 42, 43, 44, 45, 46] (fun k : Nat => k = 1 ∨ k = c) (fun k => [(8, .int .i64 k)]) (fun k => upd η n (some (.cells 1 (ints (List.replicate k t ++ List.replicate (c - k) 0))))) (fun _ => n + 1) (fun k => c - k) 1 (Or.inl rfl) (by simp) (AHeap.le_rfl _) (Nat.le_refl _) ?_
  intro k hk
  simp
  refine CondP.dec (fun h => ?_) (fun h => ?_)
  · have hk1 : k = 1 := by omega
    have hc2 : c = 2 := by omega
    subst hk1 hc2
    simp
    refine drawK.intro mixed [(0, []), (1, []), (2, []), (3, []), (4, []), (5, []), (6, []), (7, []), (8, []), (9, [])] (by kernel_rfl) ?_
    simp [asliceV, abnd, upd_eq]
    refine cpyK.own (e := 164) (z := 1) (e2 := 164) (by simp) (by simp) (by simp) (by omega) (news := [[.int .i64 t]]) (by simp [arows, upd_eq, ints]) (by simp) (upd_eq ..) (by simp) ?_
    have ew : IntKind.i64.wrap (2 : Int) = 2 := wrap_id (by omega) (by omega)
    simp [upd_upd, ew]
    exact endK.intro 2 (Or.inr rfl) (by simp) (by repeat (first | exact Agree.mask _ _ | refine Agree.setf rfl ?_ | refine Agree.inner rfl ?_)) (by simp [ints]) (Nat.le_refl _) (by omega)
  · have hk1 : k = c := by omega
    subst hk1
    simp
    refine resK.rt ⟨?_, fun x hx => upd_ne (by omega)⟩
    exact Or.inr ⟨n, [], by simp, by rw [upd_eq]; simp, Nat.le_refl _⟩
theorem ints_nr (l : List Int) : NR (.rs 1 (ints l)) := by
  refine .rs _ _ fun row hr c hc => ?_
  simp [ints] at hr
  obtain ⟨x, _, rfl⟩ := hr
  simp at hc; subst hc; exact .int _ _
theorem repeat_ac {η : AHeap} {n : Nat} (t : Int) (c : Nat) (hc : c = 1 ∨ c = 2) : AC Tryz.prog 268 [.int .i64 t, .int .i64 c] η n (Rt (.rs 1 (ints (List.replicate c t))) η n) := by
  refine AC.pure (ints_nr _) ?_
  refine AC.fresh fun hf => ?_; refine AC.enter Tryz.func268 rfl Tryz.ntmps268 (by simp) ?_
  simp [abuildS, afillP]
  refine ACK.rt (sRepeat_ac c hc (upd_eq ..)) ?_
  simp
  exact resK.of (η' := η) (le_upd (AHeap.le_rfl _) (hf _ (Nat.le_refl _))) _ (Nat.le_refl _) ⟨rfl, rfl⟩
theorem repeat1_ac {η : AHeap} {n : Nat} (t : Int) : AC Tryz.prog 268 [.int .i64 t, .int .i64 1] η n (Rt (.rs 1 (ints [t])) η n) := repeat_ac t 1 (Or.inl rfl)
theorem repeat2_ac {η : AHeap} {n : Nat} (t : Int) : AC Tryz.prog 268 [.int .i64 t, .int .i64 2] η n (Rt (.rs 1 (ints [t, t])) η n) := repeat_ac t 2 (Or.inr rfl)
/-! ### effect -/
def RoL (u : AVal) (l : List Int) : Prop := u = .rs 1 (ints l) ∨ (u = .nils ∧ l = [])
theorem RoL.isL {η : AHeap} {u : AVal} {l : List Int} (h : RoL u l) : IsL η u l := h.elim Or.inl fun h => Or.inr (Or.inl h)
theorem RoL.nr {u : AVal} {l : List Int} (h : RoL u l) : NR u := by
  rcases h with rfl | ⟨rfl, _⟩
  · exact ints_nr _
  · exact .nils
theorem rs_cut1 {l : List Int} {x : Int} {k k' : IntKind} {η : AHeap} (h0 : 0 ≤ x) (hx : x < l.length) : asliceV Tryz.prog 69 (.rs 1 (ints l)) (some (.int k x)) (some (.int k' (x + 1))) none η = some (.rs 1 (ints [l.getD x.toNat 0])) := by
  have hxn : x.toNat < l.length := by omega
  have e2 : (x + 1).toNat = x.toNat + 1 := by omega
  have hb : abnd (some (.int k x)) (some (.int k' (x + 1))) l.length = some (x.toNat, x.toNat + 1) := by simp [abnd, e2, show 0 ≤ x + 1 by omega, h0, show x ≤ x + 1 by omega, show x + 1 ≤ (l.length : Int) by omega]
  simp [asliceV, hb]
  have : (l.take (x.toNat + 1)).drop x.toNat = [l.getD x.toNat 0] := by
    rw [List.drop_take, show x.toNat + 1 - x.toNat = 1 by omega, List.drop_eq_getElem_cons hxn, List.take_succ_cons, List.take_zero, List.getD_eq_getElem?_getD, List.getElem?_eq_getElem hxn, Option.getD_some]
  rw [show List.drop x.toNat (List.take (x.toNat + 1) (ints l)) = ints ((l.take (x.toNat + 1)).drop x.toNat) by simp [ints], this]
  simp [ints]
def EffR (c : Lc) (i : Int × Int) (r : AVal) : Prop := ∃ u v, r = .tup [u, v] ∧ RoL u (effL c i).1 ∧ RoL v (effL c i).2
theorem effect_ac {c : Lc} {v : AVal} {hs td : List Bool} {g : Nat} {η : AHeap} {n : Nat} (i : Int × Int) (hg : η g = some (.cells 408 [lookC c v hs td])) (hA : 0 ≤ i.2 ∨ i.1 = 1) (hA2 : i.2 < 9223372036854775807 ∨ i.1 = 1) (hnm : namesL c i = true) (hk : c.k < 100) (hm : c.m.length < 100) :
    AC Tryz.prog 251 [.ptr g 0 0, .agg [.int .i64 i.1, .int .i64 i.2]] η n (fun r η' n' => EffR c i r ∧ η' = η ∧ n' = n) := by
  obtain ⟨op, a⟩ := i
  refine AC.reset ?_ fun r ⟨u, v, e, h1, h2⟩ => by subst e; exact .tup _ (by simp; exact ⟨h1.nr, h2.nr⟩)
  refine AC.fresh fun hf => ?_; refine AC.enter Tryz.func251 rfl Tryz.ntmps251 (by simp) ?_
  have hgn : g ≠ n := fun e => by subst e; rw [hf g (Nat.le_refl _)] at hg; cases hg
  have hg1 : ∀ o, (upd η n o) g = some (.cells 408 [lookC c v hs td]) := fun o => by rw [upd_ne hgn]; exact hg
  have fin : ∀ {fr : Nat → AVal} {nt : Nat} {o : Option AObj} {u v : AVal} {l1 l2 : List Int} {g}, effL c (op, a) = (l1, l2) → RoL u l1 → RoL v l2 → resK (some (.tup [u, v])) ⟨fr, nt, upd η n o, n + 1⟩ (fun r η' _ => EffR c (op, a) r ∧ η' = η) g :=
    fun he h1 h2 => resK.of (η' := η) (le_upd (AHeap.le_rfl _) (hf n (Nat.le_refl _))) _ (Nat.le_refl _) ⟨⟨_, _, rfl, by rw [he]; exact h1, by rw [he]; exact h2⟩, rfl⟩
  simp only at hA hA2
  have hreg : op = 4 ∨ op = 5 → a < c.own.regs.length := fun h => by simpa [namesL, h] using hnm
  have hspn : op = 19 → a < c.m.length := fun h => by simpa [namesL, h] using hnm
  have hrcv : op = 21 → a < c.own.tabs.length := fun h => by simpa [namesL, h] using hnm
  have ek : IntKind.i64.wrap (16 + (c.k : Int)) = 16 + (c.k : Int) := wrap_id (by omega) (by omega)
  simp [aload, afield, apart, upd_eq]
  refine CondP.dec (fun h1 => ?_) (fun h1 => ?_)
  · simp [h1]
    refine ACK.rt (repeat1_ac 1) ?_
    simp
    exact fin (l1 := []) (l2 := [1]) (by simp [effL, h1]) (Or.inr ⟨rfl, rfl⟩) (Or.inl rfl)
  simp [h1]
  replace hA : 0 ≤ a := by omega
  replace hA2 : a < 9223372036854775807 := by omega
  have ew : IntKind.i64.wrap (a + 1) = a + 1 := wrap_id (by omega) (by omega)
  refine CondP.dec (fun h2 => ?_) (fun h2 => ?_)
  · simp [h2]
    refine ACK.rt (repeat1_ac 2) ?_
    simp
    exact fin (l1 := []) (l2 := [2]) (by simp [effL, h2]) (Or.inr ⟨rfl, rfl⟩) (Or.inl rfl)
  simp [h2]
  refine CondP.dec (fun h3 => ?_) (fun h3 => ?_)
  · simp [h3]
    refine ACK.rt (repeat1_ac 2) ?_
    simp
    exact fin (l1 := []) (l2 := [2]) (by simp [effL, h3]) (Or.inr ⟨rfl, rfl⟩) (Or.inl rfl)
  simp [h3]
  refine CondP.dec (fun h4 => ?_) (fun h4 => ?_)
  · simp [h4]
    have e1 := fun y => rs_cut1 (k := .i64) (k' := .i64) (η := y) hA (hreg (Or.inl h4))
    refine drawK.intro mixed [(0, []), (1, []), (2, []), (3, []), (4, []), (5, []), (6, []), (7, []), (8, []), (9, []), (10, []), (11, [])] (by kernel_rfl) ?_
    simp [aload, afield, apart, upd_eq, hg1, ew, e1]
    exact fin (l1 := []) (l2 := [c.own.regs.getD a.toNat 0]) (by simp [effL, h4]) (Or.inr ⟨rfl, rfl⟩) (Or.inl rfl)
  simp [h4]
  refine CondP.dec (fun h5 => ?_) (fun h5 => ?_)
  · simp [h5]
    have e1 := fun y => rs_cut1 (k := .i64) (k' := .i64) (η := y) hA (hreg (Or.inr h5))
    refine drawK.intro mixed [(0, []), (1, []), (2, []), (3, []), (4, []), (5, []), (6, []), (7, []), (8, []), (9, []), (10, []), (11, [])] (by kernel_rfl) ?_
    simp [aload, afield, apart, upd_eq, hg1, ew, e1]
    exact fin (l1 := [c.own.regs.getD a.toNat 0]) (l2 := []) (by simp [effL, h5]) (Or.inl rfl) (Or.inr ⟨rfl, rfl⟩)
  simp [h5]
  by_cases h6 : 6 ≤ op ∧ op ≤ 10
  · simp [h6.1, h6.2]
    refine ACK.rt (repeat2_ac 1) ?_
    simp
    refine ACK.rt (repeat1_ac 1) ?_
    simp
    exact fin (l1 := [1, 1]) (l2 := [1]) (by simp [effL, h1, h2, h3, h4, h5, h6]) (Or.inl rfl) (Or.inl rfl)
  have h6' : ¬ (6 ≤ op ∧ op ≤ 10) := h6
  refine CondP.dec (fun h7 => ?_) (fun h7 => ?_)
  rotate_left
  · have q : ∀ x : Int, 6 ≤ x → ¬ op = x := fun x hx => by omega
    have w1 := q 11 (by omega); have w2 := q 12 (by omega); have w3 := q 13 (by omega); have w4 := q 14 (by omega); have w5 := q 15 (by omega); have w6 := q 17 (by omega); have w7 := q 18 (by omega); have w8 := q 19 (by omega); have w9 := q 23 (by omega); have wa := q 24 (by omega); have wb := q 21 (by omega)
    simp [h7, w1, w2, w3, w4, w5, w6, w7, w8, w9, wa]
    refine drawK.intro mixed [(0, []), (1, []), (2, []), (3, []), (4, []), (5, []), (6, []), (7, []), (8, []), (9, []), (10, []), (11, []), (12, []), (13, []), (14, []), (15, [])] (by kernel_rfl) ?_
    simp [wb]
    exact fin (l1 := []) (l2 := []) (by simp [effL, h1, h2, h3, h4, h5, h6, w1, w2, w3, w4, w5, w6, w7, w8, w9, wa, wb]) (Or.inr ⟨rfl, rfl⟩) (Or.inr ⟨rfl, rfl⟩)
  have h8 : ¬ op ≤ 10 := by omega
  simp [h7, h8]
  refine CondP.dec (fun h11 => ?_) (fun h11 => ?_)
  · simp [h11]
    refine ACK.rt (repeat2_ac 1) ?_
    simp
    refine ACK.rt (repeat1_ac 2) ?_
    simp
    exact fin (l1 := [1, 1]) (l2 := [2]) (by simp [effL, h11]) (Or.inl rfl) (Or.inl rfl)
  simp [h11]
  refine CondP.dec (fun h12 => ?_) (fun h12 => ?_)
  · simp [h12]
    refine ACK.rt (repeat2_ac 1) ?_
    simp
    refine ACK.rt (repeat1_ac 2) ?_
    simp
    exact fin (l1 := [1, 1]) (l2 := [2]) (by simp [effL, h12]) (Or.inl rfl) (Or.inl rfl)
  simp [h12]
  refine CondP.dec (fun h13 => ?_) (fun h13 => ?_)
  · simp [h13]
    refine ACK.rt (repeat1_ac 2) ?_
    simp
    refine ACK.rt (repeat1_ac 2) ?_
    simp
    exact fin (l1 := [2]) (l2 := [2]) (by simp [effL, h13]) (Or.inl rfl) (Or.inl rfl)
  simp [h13]
  refine CondP.dec (fun h14 => ?_) (fun h14 => ?_)
  · simp [h14]
    refine ACK.rt (repeat2_ac 2) ?_
    simp
    refine ACK.rt (repeat1_ac 2) ?_
    simp
    exact fin (l1 := [2, 2]) (l2 := [2]) (by simp [effL, h14]) (Or.inl rfl) (Or.inl rfl)
  simp [h14]
  refine CondP.dec (fun h15 => ?_) (fun h15 => ?_)
  · simp [h15]
    refine ACK.rt (repeat2_ac 2) ?_
    simp
    refine ACK.rt (repeat1_ac 2) ?_
    simp
    exact fin (l1 := [2, 2]) (l2 := [2]) (by simp [effL, h15]) (Or.inl rfl) (Or.inl rfl)
  simp [h15]
  refine CondP.dec (fun h17 => ?_) (fun h17 => ?_)
  · simp [h17]
    refine ACK.rt (repeat1_ac 2) ?_
    simp
    exact fin (l1 := [2]) (l2 := []) (by simp [effL, h17]) (Or.inl rfl) (Or.inr ⟨rfl, rfl⟩)
  simp [h17]
  refine CondP.dec (fun h18 => ?_) (fun h18 => ?_)
  · simp [h18]
    simp [aload, afield, apart, hg1, ek]
    refine ACK.rt (repeat1_ac _) ?_
    simp
    exact fin (l1 := []) (l2 := [16 + (c.k : Int)]) (by simp [effL, h18]) (Or.inr ⟨rfl, rfl⟩) (Or.inl rfl)
  simp [h18]
  refine CondP.dec (fun h19 => ?_) (fun h19 => ?_)
  · simp [h19]
    have hsp := hspn h19
    obtain ⟨j, rfl⟩ : ∃ j : Nat, a = (j : Int) := ⟨a.toNat, by omega⟩
    have hj : j < c.m.length := by omega
    have ej : IntKind.i64.wrap (16 + (j : Int)) = 16 + j := wrap_id (by omega) (by omega)
    refine drawK.intro mixed [(0, []), (1, []), (2, []), (3, []), (4, []), (5, []), (6, []), (7, []), (8, []), (9, []), (10, []), (11, []), (12, []), (13, [4, 6, 7, 9]), (14, []), (15, [])] (by kernel_rfl) ?_
    simp [aload, afield, apart, upd_eq, hg1, aindex, actsC, actC, hj, lk_some, chkK, ej]
    refine ACK.rt (repeat1_ac _) ?_
    simp [upd_eq, hg1, actsC, actC, hj]
    have ea : actr c.m (j : Int) = c.m[j] := by simp [actr, List.getD_eq_getElem?_getD, hj]
    rw [← ea]
    exact fin (l1 := (actr c.m (j : Int)).params) (l2 := [16 + (j : Int)]) (by simp [effL, h19]) (Or.inl rfl) (Or.inl rfl)
  simp [h19]
  refine CondP.dec (fun h23 => ?_) (fun h23 => ?_)
  · simp [h23]
    refine ACK.rt (repeat1_ac 1) ?_
    simp
    exact fin (l1 := [1]) (l2 := []) (by simp [effL, h23]) (Or.inl rfl) (Or.inr ⟨rfl, rfl⟩)
  simp [h23]
  refine CondP.dec (fun h24 => ?_) (fun h24 => ?_)
  · simp [h24]
    refine ACK.rt (repeat1_ac 1) ?_
    simp
    exact fin (l1 := [1]) (l2 := []) (by simp [effL, h24]) (Or.inl rfl) (Or.inr ⟨rfl, rfl⟩)
  simp [h24]
  by_cases h21 : op = 21
  · have hrc := hrcv h21
    obtain ⟨j, rfl⟩ : ∃ j : Nat, a = (j : Int) := ⟨a.toNat, by omega⟩
    have hj : j < c.own.tabs.length := by omega
    have et : tbl c.own (j : Int) = c.own.tabs[j] := by simp [tbl, List.getD_eq_getElem?_getD, hj]
    simp only [h21] at fin
    simp [h21]
    refine drawK.intro mixed [(0, []), (1, []), (2, []), (3, []), (4, []), (5, []), (6, []), (7, []), (8, []), (9, []), (10, []), (11, []), (12, []), (13, []), (14, []), (15, [])] (by kernel_rfl) ?_
    by_cases h0 : 0 ≤ c.own.tabs[j].tmo
    · simp [aload, afield, apart, upd_eq, hg1, aindex, tblsC, tblC, hj, h0]
      refine ACK.rt (repeat1_ac _) ?_
      simp
      exact fin (l1 := [1]) (l2 := []) (by simp [effL, et, h0]) (Or.inl rfl) (Or.inr ⟨rfl, rfl⟩)
    · simp [aload, afield, apart, upd_eq, hg1, aindex, tblsC, tblC, hj, h0]
      exact fin (l1 := []) (l2 := []) (by simp [effL, et, h0]) (Or.inr ⟨rfl, rfl⟩) (Or.inr ⟨rfl, rfl⟩)
  · refine drawK.intro mixed [(0, []), (1, []), (2, []), (3, []), (4, []), (5, []), (6, []), (7, []), (8, []), (9, []), (10, []), (11, []), (12, []), (13, []), (14, []), (15, [])] (by kernel_rfl) ?_
    simp [h21]
    exact fin (l1 := []) (l2 := []) (by simp [effL, h1, h2, h3, h4, h5, h6, h11, h12, h13, h14, h15, h17, h18, h19, h23, h24, h21]) (Or.inr ⟨rfl, rfl⟩) (Or.inr ⟨rfl, rfl⟩)

def TyOK (n : Nat) (s : List Int) : Prop := ∀ x ∈ s, rightT x n = true
theorem rightT_i64 {x : Int} {n : Nat} (h : rightT x n = true) : I64 x := by
  simp only [rightT, decide_eq_true_eq] at h; unfold I64; omega
theorem actT_of {x : Int} {n : Nat} (h : rightT x n = true) (h2 : (actT x).2 = true) : ∃ j : Nat, (actT x).1 = j ∧ j < n := by
  unfold actT at *
  split at h2
  · rename_i hh
    rw [if_pos hh]
    simp only [rightT, decide_eq_true_eq] at h
    exact ⟨(x - 16).toNat, by simp only; omega, by omega⟩
  · simp at h2
/-- a list and an error, whatever was made -/
theorem AC.listE {P : Program} {f : FuncId} {args : List AVal} {η : AHeap} {n : Nat} {l : List Int} {e : Int} (hl : l.length ≤ lenMax) (h : AC P f args η n fun r η' _ => (∃ v, r = .tup [v, .int .i64 e] ∧ IsL η' v l) ∧ ∀ x, x < n → η' x = η x) : AC P f args η n (PE η n l e) := by
  refine (AC.ground (R := fun r => ∃ u, r = .tup [u, .int .i64 e] ∧ IsL η u l) 2 (h.mono ?_) ?_).mono fun r η' n' h => h
  · rintro r η' n' ⟨⟨v, rfl, h1⟩, h2⟩
    exact ⟨h2, _, Ent.refl _, gnd n η' 1 v, by simp [gnd_tup], h1.gnd h2 hl 0⟩
  · rintro r ⟨u, rfl, h⟩
    exact .tup _ (by simp; exact ⟨h.nq, .int _ _⟩)
theorem ACK.pe {P : Program} {f : FuncId} {args : List AVal} {η : AHeap} {n : Nat} {l : List Int} {e : Int} {K : AVal → AHeap → Nat → Prop} {g : Tag K} (h : AC P f args η n (PE η n l e)) (hk : ∀ v, IsL η v l → K (.tup [v, .int .i64 e]) η n) : ACK P f args η n K g :=
  ACK.use h fun r η' n' ⟨⟨v, e1, h1⟩, e2, e3⟩ => by subst e1 e2 e3; exact hk v h1
theorem ACK.pl {P : Program} {f : FuncId} {args : List AVal} {η : AHeap} {n : Nat} {l : List Int} {K : AVal → AHeap → Nat → Prop} {g : Tag K} (h : AC P f args η n (PL η n l)) (hk : ∀ v, IsL η v l → K v η n) : ACK P f args η n K g :=
  ACK.use h fun r η' n' ⟨h1, e2, e3⟩ => by subst e2 e3; exact hk r h1
theorem sendL_len (c : Lc) (a : Int) (s : List Int) : (sendL c a s).1.length ≤ s.length := by
  unfold sendL; repeat' split
  all_goals simp
theorem send_ac {c : Lc} {v : AVal} {hs td : List Bool} {g : Nat} {η : AHeap} {n : Nat} {sv : AVal} {s : List Int} (i : Int × Int) (hg : η g = some (.cells 408 [lookC c v hs td])) (hA : 0 ≤ i.2) (h : IsL η sv s) (hT : TyOK c.m.length s) (hl : s.length ≤ 1000) :
    AC Tryz.prog 249 [.ptr g 0 0, .agg [.int .i64 i.1, .int .i64 i.2], sv] η n (PE η n (sendL c i.2 s).1 (sendL c i.2 s).2) := by
  obtain ⟨op, a⟩ := i
  simp only at hA
  have z1 : ∀ η', alenT Tryz.prog 69 sv η' = some (s.length : Int) := h.len (by simp)
  refine AC.listE (Nat.le_trans (sendL_len ..) (by simp only [lenMax]; omega)) ?_
  have e2 : IntKind.i64.wrap ((s.length : Int) - 2) = (s.length : Int) - 2 := wrap_id (by omega) (by omega)
  refine AC.fresh fun hf => ?_; refine AC.enter Tryz.func249 rfl Tryz.ntmps249 (by simp) ?_
  have hgn : g ≠ n := fun e => by subst e; rw [hf g (Nat.le_refl _)] at hg; cases hg
  have hg1 : ∀ o, (upd η n o) g = some (.cells 408 [lookC c v hs td]) := fun o => by rw [upd_ne hgn]; exact hg
  have hs' : ∀ o, IsL (upd η n o) sv s := fun o => h.keep hf fun r hr => upd_ne (by omega)
  have le1 : ∀ o, η.le (upd η n o) := fun o => le_upd (AHeap.le_rfl _) (hf n (Nat.le_refl _))
  have fin : ∀ {u : AVal} {l : List Int} {e : Int}, sendL c a s = (l, e) → IsL η u l → (∃ v, AVal.tup [u, .int .i64 e] = .tup [v, .int .i64 (sendL c a s).2] ∧ IsL η v (sendL c a s).1) ∧ ∀ x, x < n → η x = η x := fun he hu => ⟨⟨_, by rw [he], by rw [he]; exact hu⟩, fun _ _ => rfl⟩
  simp [z1]
  refine CondP.dec (fun h1 => ?_) (fun h1 => ?_)
  · have h1' : s.length < 2 := by omega
    simp [h1]
    exact resK.of (η' := η) (le1 _) _ (Nat.le_refl _) (fin (by simp [sendL, h1']) (IsL.nil' rfl))
  have h1' : ¬ s.length < 2 := by omega
  have hk : s.length - 2 < s.length := by omega
  have ek : (s.length : Int) - 2 = ((s.length - 2 : Nat) : Int) := by omega
  obtain ⟨p1, a1, a2⟩ := (hs' (some (.cells 2 [[.int .i64 op, .int .i64 a]]))).idx (P := Tryz.prog) (t := 69) (e := 164) (by simp) (by simp) (by simp) hk
  have hr := hT s[s.length - 2] (List.getElem_mem ..)
  have eg : s.getD (s.length - 2) 0 = s[s.length - 2] := by simp [List.getD_eq_getElem?_getD, hk]
  have e3 : IntKind.i64.wrap ((s.length - 2 : Nat) : Int) = ((s.length - 2 : Nat) : Int) := wrap_id (by omega) (by omega)
  simp [z1, h1, e3, ek, a1, a2]
  refine ACK.rt (kactor_ac _ _ _ (rightT_i64 hr)) ?_
  cases h2 : (actT s[s.length - 2]).2
  · simp
    exact resK.of (η' := η) (le1 _) _ (Nat.le_refl _) (fin (by simp only [sendL]; rw [if_neg h1', eg, if_pos h2]) (IsL.nil' rfl))
  obtain ⟨j, ej, hj⟩ := actT_of hr h2
  have ea : actr c.m (j : Int) = c.m[j] := by simp [actr, List.getD_eq_getElem?_getD, hj]
  simp [aload, afield, apart, upd_eq, hg1, ej, aindex, actsC, actC, hj]
  refine CondP.dec (fun h3 => ?_) (fun h3 => ?_)
  · obtain ⟨b, rfl⟩ : ∃ b : Nat, a = (b : Int) := ⟨a.toNat, by omega⟩
    have hb : b < c.m[j].msgs.length := by omega
    have le2 : ∀ o o', η.le (upd (upd η n o) (n + 1) o') := fun o o' => le_upd (le1 o) (hf _ (by omega))
    have hs2 : ∀ o o', IsL (upd (upd η n o) (n + 1) o') sv s := fun o o' => h.keep hf fun r hr => by rw [upd_ne (by omega), upd_ne (by omega)]
    obtain ⟨u, f1, f2⟩ := (hs2 (some (.cells 2 [[.int .i64 op, .int .i64 b]])) (some (.cells 1 [[.int .i64 c.m[j].msgs[b]]]))).cutHi (P := Tryz.prog) (t := 69) (e := 164) (by simp) (by simp) (k := .i64) (x := ((s.length - 2 : Nat) : Int)) (by omega) (by omega)
    simp [h3, aload, afield, apart, upd_eq, aindex, hb, abuildS, afillP, tek, chunk]
    have et : c.m[j].msgs.getD (b : Int).toNat 0 = c.m[j].msgs[b] := by simp [List.getD_eq_getElem?_getD, hb]
    have es : sendL c b s = (s.take (s.length - 2), if s.drop (s.length - 1) = [c.m[j].msgs[b]] then 0 else 10) := by simp only [sendL]; rw [if_neg h1', eg, if_neg (by simp [h2]), ej, ea, if_pos h3, et]
    refine ACK.pe (lpop_ac (w := [c.m[j].msgs[b]]) (hs2 _ _) (IsL.own1 rfl (upd_eq ..)) (by omega) (by simp)) fun w hw => ?_
    simp [z1, e3, ek, f1]
    refine resK.same ⟨⟨u, ?_, ?_⟩, fun x hx => by rw [upd_ne (by omega), upd_ne (by omega)]⟩ (Nat.le_refl _)
    · rw [es]
      have : ¬ s.length < 1 := by omega
      simp only [popL, List.length_cons, List.length_nil, Nat.zero_add, if_neg this]
      split <;> rfl
    · rw [es]; simpa using f2
  · simp [h3]
    exact resK.of (η' := η) (le1 _) _ (Nat.le_refl _) (fin (by simp only [sendL]; rw [if_neg h1', eg, if_neg (by simp [h2]), ej, ea, if_neg h3]) (IsL.nil' rfl))
theorem popL_len (s w : List Int) : (popL s w).1.length ≤ s.length := by
  unfold popL; repeat' split
  all_goals simp
theorem ite_le1 {p : Prop} [Decidable p] {a b : Nat} (ha : a ≤ 1) (hb : b ≤ 1) : (if p then a else b) ≤ 1 := by split <;> assumption
theorem effL_len (c : Lc) (i : Int × Int) : (effL c i).2.length ≤ 1 := by
  simp only [effL, apply_ite Prod.snd, apply_ite List.length, List.length_cons, List.length_nil, Nat.zero_add]
  repeat' (refine ite_le1 (by decide) ?_)
  decide
theorem behL_len (c : Lc) (i : Int × Int) (s : List Int) : (behL c i s).1.length ≤ s.length + 1 := by
  have h1 := popL_len s (effL c i).1
  have h2 := effL_len c i
  have h3 := sendL_len c i.2 s
  unfold behL high
  by_cases a1 : namesL c i = false
  · simp [a1]
  by_cases a2 : i.1 = 20
  · simp [a1, a2]; omega
  by_cases a3 : i.1 = 22 ∨ i.1 = 25 ∨ i.1 = 26
  · simp only [if_neg a1, if_neg a2, if_pos a3]
    by_cases a4 : s = []
    · simp [a4]
    by_cases a5 : i.1 = 22 ∧ (actT (s.getLastD 0)).2 = false
    · simp only [if_neg a4, if_pos a5]; simp
    · simp only [if_neg a4, if_neg a5]; split <;> simp; omega
  · simp only [if_neg a1, if_neg a2, if_neg a3]; simp; omega
theorem behind22_ac {c : Lc} {v : AVal} {hs td : List Bool} {g : Nat} {η : AHeap} {n : Nat} {sv : AVal} {s : List Int} (a : Int) (hg : η g = some (.cells 408 [lookC c v hs td])) (h : IsL η sv s) (hT : TyOK c.m.length s) (hl : s.length ≤ 1000) :
    AC Tryz.prog 189 [.ptr g 0 0, .agg [.int .i64 22, .int .i64 a], sv] η n (PE η n (behL c (22, a) s).1 (behL c (22, a) s).2) := by
  have z1 : ∀ η', alenT Tryz.prog 69 sv η' = some (s.length : Int) := h.len (by simp)
  have hN : namesL c (22, a) = true := by simp [namesL]
  refine AC.listE (Nat.le_trans (behL_len ..) (by simp only [lenMax]; omega)) ?_
  refine AC.fresh fun hf => ?_; refine AC.enter Tryz.func189 rfl Tryz.ntmps189 (by simp) ?_
  have hgn : g ≠ n := fun e => by subst e; rw [hf g (Nat.le_refl _)] at hg; cases hg
  have hg1 : ∀ o, (upd η n o) g = some (.cells 408 [lookC c v hs td]) := fun o => by rw [upd_ne hgn]; exact hg
  have hs' : ∀ o, IsL (upd η n o) sv s := fun o => h.keep hf fun r hr => upd_ne (by omega)
  have ol : ∀ o x, x < n → upd η n o x = η x := fun o x hx => upd_ne (by omega)
  have fin : ∀ {u : AVal} {l : List Int} {e : Int} {η' : AHeap}, behL c (22, a) s = (l, e) → IsL η' u l → (∀ x, x < n → η' x = η x) → (∃ v, AVal.tup [u, .int .i64 e] = .tup [v, .int .i64 (behL c (22, a) s).2] ∧ IsL η' v (behL c (22, a) s).1) ∧ ∀ x, x < n → η' x = η x := fun he hu hx => ⟨⟨_, by rw [he], by rw [he]; exact hu⟩, hx⟩
  simp [aload, apart, upd_eq]
  refine ACK.rt (lnames_ac (22, a) (hg1 _)) ?_
  simp [hN, aload, afield, apart, upd_eq]
  simp [z1]
  refine CondP.dec (fun h1 => ?_) (fun h1 => ?_)
  · have h1' : s = [] := by simpa using h1
    simp [h1]
    exact resK.same (fin (by simp [behL, hN, h1']) (IsL.nil' rfl) (ol _)) (Nat.le_refl _)
  have h1' : ¬ s = [] := by simpa using h1
  have hk : s.length - 1 < s.length := by have := List.length_pos_iff.2 h1'; omega
  have ek : (s.length : Int) - 1 = ((s.length - 1 : Nat) : Int) := by omega
  have e3 : IntKind.i64.wrap ((s.length - 1 : Nat) : Int) = ((s.length - 1 : Nat) : Int) := wrap_id (by omega) (by omega)
  obtain ⟨p1, a1, a2⟩ := (hs' (some (.cells 2 [[.int .i64 22, .int .i64 a]]))).idx (P := Tryz.prog) (t := 69) (e := 164) (by simp) (by simp) (by simp) hk
  obtain ⟨u, f1, f2⟩ := (hs' (some (.cells 2 [[.int .i64 22, .int .i64 a]]))).cutHi (P := Tryz.prog) (t := 69) (e := 164) (by simp) (by simp) (k := .i64) (x := ((s.length - 1 : Nat) : Int)) (by omega) (by omega)
  have zu := f2.len (P := Tryz.prog) (t := 69) (by simp)
  have hr := hT s[s.length - 1] (List.getElem_mem ..)
  have eg : s.getLastD 0 = s[s.length - 1] := by rw [List.getLastD_eq_getLast?, List.getLast?_eq_getElem?, List.getElem?_eq_getElem hk, Option.getD_some]
  have ed : s.dropLast = s.take (s.length - 1) := List.dropLast_eq_take
  simp [h1, z1, e3, ek, a1, a2]
  refine ACK.rt (kactor_ac _ _ _ (rightT_i64 hr)) ?_
  cases h2 : (actT s[s.length - 1]).2
  · simp [aload, afield, apart, upd_eq]
    exact resK.same (fin (by simp only [behL]; rw [if_neg (by simp [hN]), if_neg (by omega), if_pos (by simp), if_neg h1', eg, if_pos ⟨trivial, h2⟩]) (IsL.nil' rfl) (ol _)) (Nat.le_refl _)
  · have eb : behL c (22, a) s = high (s.take (s.length - 1)) 0 := by simp only [behL]; rw [if_neg (by simp [hN]), if_neg (by omega), if_pos (by simp), if_neg h1', eg, if_neg (by simp [h2]), if_neg (by omega), ed]
    simp [aload, afield, apart, upd_eq, z1, e3, ek, f1, zu]
    refine CondP.dec (fun h4 => ?_) (fun h4 => ?_)
    · simp [h4]
      exact resK.same (fin (l := s.take (s.length - 1)) (by rw [eb, high, if_pos ⟨rfl, by simp; omega⟩]) (by simpa using f2) (ol _)) (Nat.le_refl _)
    · simp [h4]
      exact resK.same (fin (l := s.take (s.length - 1)) (by rw [eb, high, if_neg (by simp; omega)]) (by simpa using f2) (ol _)) (Nat.le_refl _)

theorem behind25_ac {c : Lc} {v : AVal} {hs td : List Bool} {g : Nat} {η : AHeap} {n : Nat} {sv : AVal} {s : List Int} (a : Int) (hg : η g = some (.cells 408 [lookC c v hs td])) (h : IsL η sv s) (hT : TyOK c.m.length s) (hl : s.length ≤ 1000) :
    AC Tryz.prog 189 [.ptr g 0 0, .agg [.int .i64 25, .int .i64 a], sv] η n (PE η n (behL c (25, a) s).1 (behL c (25, a) s).2) := by
  have z1 : ∀ η', alenT Tryz.prog 69 sv η' = some (s.length : Int) := h.len (by simp)
  have hN : namesL c (25, a) = true := by simp [namesL]
  refine AC.listE (Nat.le_trans (behL_len ..) (by simp only [lenMax]; omega)) ?_
  refine AC.fresh fun hf => ?_; refine AC.enter Tryz.func189 rfl Tryz.ntmps189 (by simp) ?_
  have hgn : g ≠ n := fun e => by subst e; rw [hf g (Nat.le_refl _)] at hg; cases hg
  have hg1 : ∀ o, (upd η n o) g = some (.cells 408 [lookC c v hs td]) := fun o => by rw [upd_ne hgn]; exact hg
  have hs' : ∀ o, IsL (upd η n o) sv s := fun o => h.keep hf fun r hr => upd_ne (by omega)
  have ol : ∀ o x, x < n → upd η n o x = η x := fun o x hx => upd_ne (by omega)
  have fin : ∀ {u : AVal} {l : List Int} {e : Int} {η' : AHeap}, behL c (25, a) s = (l, e) → IsL η' u l → (∀ x, x < n → η' x = η x) → (∃ v, AVal.tup [u, .int .i64 e] = .tup [v, .int .i64 (behL c (25, a) s).2] ∧ IsL η' v (behL c (25, a) s).1) ∧ ∀ x, x < n → η' x = η x := fun he hu hx => ⟨⟨_, by rw [he], by rw [he]; exact hu⟩, hx⟩
  simp [aload, apart, upd_eq]
  refine ACK.rt (lnames_ac (25, a) (hg1 _)) ?_
  simp [hN, aload, afield, apart, upd_eq]
  simp [z1]
  refine CondP.dec (fun h1 => ?_) (fun h1 => ?_)
  · have h1' : s = [] := by simpa using h1
    simp [h1]
    exact resK.same (fin (by simp [behL, hN, h1']) (IsL.nil' rfl) (ol _)) (Nat.le_refl _)
  have h1' : ¬ s = [] := by simpa using h1
  have hk : s.length - 1 < s.length := by have := List.length_pos_iff.2 h1'; omega
  have ek : (s.length : Int) - 1 = ((s.length - 1 : Nat) : Int) := by omega
  have e3 : IntKind.i64.wrap ((s.length - 1 : Nat) : Int) = ((s.length - 1 : Nat) : Int) := wrap_id (by omega) (by omega)
  obtain ⟨p1, a1, a2⟩ := (hs' (some (.cells 2 [[.int .i64 25, .int .i64 a]]))).idx (P := Tryz.prog) (t := 69) (e := 164) (by simp) (by simp) (by simp) hk
  obtain ⟨u, f1, f2⟩ := (hs' (some (.cells 2 [[.int .i64 25, .int .i64 a]]))).cutHi (P := Tryz.prog) (t := 69) (e := 164) (by simp) (by simp) (k := .i64) (x := ((s.length - 1 : Nat) : Int)) (by omega) (by omega)
  have zu := f2.len (P := Tryz.prog) (t := 69) (by simp)
  have hr := hT s[s.length - 1] (List.getElem_mem ..)
  have eg : s.getLastD 0 = s[s.length - 1] := by rw [List.getLastD_eq_getLast?, List.getLast?_eq_getElem?, List.getElem?_eq_getElem hk, Option.getD_some]
  have ed : s.dropLast = s.take (s.length - 1) := List.dropLast_eq_take
  simp [h1, z1, e3, ek, a1, a2]
  refine ACK.rt (kactor_ac _ _ _ (rightT_i64 hr)) ?_
  have eb : behL c (25, a) s = high (s.take (s.length - 1)) 0 := by simp only [behL]; rw [if_neg (by simp [hN]), if_neg (by omega), if_pos (by simp), if_neg h1', eg, if_neg (by omega), if_neg (by omega), ed]
  simp [aload, afield, apart, upd_eq, z1, e3, ek, f1, zu]
  refine CondP.dec (fun h4 => ?_) (fun h4 => ?_)
  · simp [h4]
    exact resK.same (fin (l := s.take (s.length - 1)) (by rw [eb, high, if_pos ⟨rfl, by simp; omega⟩]) (by simpa using f2) (ol _)) (Nat.le_refl _)
  · simp [h4]
    exact resK.same (fin (l := s.take (s.length - 1)) (by rw [eb, high, if_neg (by simp; omega)]) (by simpa using f2) (ol _)) (Nat.le_refl _)
theorem tk_all {α : Type} (f : Int → α) (s : List Int) : List.take s.length (s.map f) = s.map f := by rw [List.take_of_length_le (by simp)]
theorem behind26_ac {c : Lc} {v : AVal} {hs td : List Bool} {g : Nat} {η : AHeap} {n : Nat} {sv : AVal} {s : List Int} (a : Int) (hg : η g = some (.cells 408 [lookC c v hs td])) (h : IsL η sv s) (hT : TyOK c.m.length s) (hl : s.length ≤ 1000) :
    AC Tryz.prog 189 [.ptr g 0 0, .agg [.int .i64 26, .int .i64 a], sv] η n (PE η n (behL c (26, a) s).1 (behL c (26, a) s).2) := by
  have z1 : ∀ η', alenT Tryz.prog 69 sv η' = some (s.length : Int) := h.len (by simp)
  have hN : namesL c (26, a) = true := by simp [namesL]
  refine AC.listE (Nat.le_trans (behL_len ..) (by simp only [lenMax]; omega)) ?_
  refine AC.fresh fun hf => ?_; refine AC.enter Tryz.func189 rfl Tryz.ntmps189 (by simp) ?_
  have hgn : g ≠ n := fun e => by subst e; rw [hf g (Nat.le_refl _)] at hg; cases hg
  have hg1 : ∀ o, (upd η n o) g = some (.cells 408 [lookC c v hs td]) := fun o => by rw [upd_ne hgn]; exact hg
  have hs' : ∀ o, IsL (upd η n o) sv s := fun o => h.keep hf fun r hr => upd_ne (by omega)
  have ol : ∀ o x, x < n → upd η n o x = η x := fun o x hx => upd_ne (by omega)
  have fin : ∀ {u : AVal} {l : List Int} {e : Int} {η' : AHeap}, behL c (26, a) s = (l, e) → IsL η' u l → (∀ x, x < n → η' x = η x) → (∃ v, AVal.tup [u, .int .i64 e] = .tup [v, .int .i64 (behL c (26, a) s).2] ∧ IsL η' v (behL c (26, a) s).1) ∧ ∀ x, x < n → η' x = η x := fun he hu hx => ⟨⟨_, by rw [he], by rw [he]; exact hu⟩, hx⟩
  simp [aload, apart, upd_eq]
  refine ACK.rt (lnames_ac (26, a) (hg1 _)) ?_
  simp [hN, aload, afield, apart, upd_eq]
  simp [z1]
  refine CondP.dec (fun h1 => ?_) (fun h1 => ?_)
  · have h1' : s = [] := by simpa using h1
    simp [h1]
    exact resK.same (fin (by simp [behL, hN, h1']) (IsL.nil' rfl) (ol _)) (Nat.le_refl _)
  have h1' : ¬ s = [] := by simpa using h1
  have hk : s.length - 1 < s.length := by have := List.length_pos_iff.2 h1'; omega
  have ek : (s.length : Int) - 1 = ((s.length - 1 : Nat) : Int) := by omega
  have e3 : IntKind.i64.wrap ((s.length - 1 : Nat) : Int) = ((s.length - 1 : Nat) : Int) := wrap_id (by omega) (by omega)
  obtain ⟨p1, a1, a2⟩ := (hs' (some (.cells 2 [[.int .i64 26, .int .i64 a]]))).idx (P := Tryz.prog) (t := 69) (e := 164) (by simp) (by simp) (by simp) hk
  obtain ⟨u, f1, f2⟩ := (hs' (some (.cells 2 [[.int .i64 26, .int .i64 a]]))).cutHi (P := Tryz.prog) (t := 69) (e := 164) (by simp) (by simp) (k := .i64) (x := ((s.length - 1 : Nat) : Int)) (by omega) (by omega)
  have zu := f2.len (P := Tryz.prog) (t := 69) (by simp)
  have hr := hT s[s.length - 1] (List.getElem_mem ..)
  have eg : s.getLastD 0 = s[s.length - 1] := by rw [List.getLastD_eq_getLast?, List.getLast?_eq_getElem?, List.getElem?_eq_getElem hk, Option.getD_some]
  have ed : s.dropLast = s.take (s.length - 1) := List.dropLast_eq_take
  simp [h1, z1, e3, ek, a1, a2]
  refine ACK.rt (kactor_ac _ _ _ (rightT_i64 hr)) ?_
  have eb : behL c (26, a) s = high (s ++ [s[s.length - 1]]) 0 := by simp only [behL]; rw [if_neg (by simp [hN]), if_neg (by omega), if_pos (by simp), if_neg h1', eg, if_neg (by omega), if_pos (by simp)]
  simp [aload, afield, apart, upd_eq, z1, e3, ek, f1]
  refine ACK.use (cloneT_ac (hs' _) (by omega)).freshP ?_
  intro r η1 n1 ⟨⟨q, e1, hq, hq1, hq2, hk1⟩, hf1⟩
  subst e1
  have b1 : (s.length + 1) * 8 ≤ 140737488355328 := by omega
  have b2 : s.length + 1 ≤ 17592186044416 := by omega
  have hqn : q ≠ n1 := by omega
  have hk2 : ∀ o o' o'' x, x < n → (upd (upd (upd η1 n1 o) q o') (n1 + 1) o'') x = η x := fun o o' o'' x hx => by rw [upd_ne (by omega), upd_ne (by omega), upd_ne (by omega), hk1 x (by omega), upd_ne (by omega)]
  simp [abuildS, afillP, tek, chunk, appK, aappend, arows, upd_eq, upd_ne hqn, hq, ints_length, lenMax, b1, b2]
  refine CondP.dec (fun h4 => ?_) (fun h4 => ?_)
  · simp [h4]
    exact resK.same (fin (l := s ++ [s[s.length - 1]]) (by rw [eb, high, if_pos ⟨rfl, by simp; omega⟩]) (IsL.own1 (by simp) (by rw [upd_eq]; simp [ints, tk_all])) (hk2 _ _ _)) (Nat.le_refl _)
  · simp [h4]
    exact resK.same (fin (l := s ++ [s[s.length - 1]]) (by rw [eb, high, if_neg (by simp; omega)]) (IsL.own1 (by simp) (by rw [upd_eq]; simp [ints, tk_all])) (hk2 _ _ _)) (Nat.le_refl _)
theorem behind20_ac {c : Lc} {v : AVal} {hs td : List Bool} {g : Nat} {η : AHeap} {n : Nat} {sv : AVal} {s : List Int} (a : Int) (hA : 0 ≤ a) (hg : η g = some (.cells 408 [lookC c v hs td])) (h : IsL η sv s) (hT : TyOK c.m.length s) (hl : s.length ≤ 1000) :
    AC Tryz.prog 189 [.ptr g 0 0, .agg [.int .i64 20, .int .i64 a], sv] η n (PE η n (behL c (20, a) s).1 (behL c (20, a) s).2) := by
  have z1 : ∀ η', alenT Tryz.prog 69 sv η' = some (s.length : Int) := h.len (by simp)
  have hN : namesL c (20, a) = true := by simp [namesL]
  refine AC.listE (Nat.le_trans (behL_len ..) (by simp only [lenMax]; omega)) ?_
  refine AC.fresh fun hf => ?_; refine AC.enter Tryz.func189 rfl Tryz.ntmps189 (by simp) ?_
  have hgn : g ≠ n := fun e => by subst e; rw [hf g (Nat.le_refl _)] at hg; cases hg
  have hg1 : ∀ o, (upd η n o) g = some (.cells 408 [lookC c v hs td]) := fun o => by rw [upd_ne hgn]; exact hg
  have hs' : ∀ o, IsL (upd η n o) sv s := fun o => h.keep hf fun r hr => upd_ne (by omega)
  have ol : ∀ o x, x < n → upd η n o x = η x := fun o x hx => upd_ne (by omega)
  have fin : ∀ {u : AVal} {l : List Int} {e : Int} {η' : AHeap}, behL c (20, a) s = (l, e) → IsL η' u l → (∀ x, x < n → η' x = η x) → (∃ v, AVal.tup [u, .int .i64 e] = .tup [v, .int .i64 (behL c (20, a) s).2] ∧ IsL η' v (behL c (20, a) s).1) ∧ ∀ x, x < n → η' x = η x := fun he hu hx => ⟨⟨_, by rw [he], by rw [he]; exact hu⟩, hx⟩
  simp [aload, apart, upd_eq]
  refine ACK.rt (lnames_ac (20, a) (hg1 _)) ?_
  simp [hN, aload, afield, apart, upd_eq]
  refine ACK.pe (send_ac (20, a) (hg1 _) hA (hs' _) hT hl) fun u hu => ?_
  simp
  exact resK.same (fin (by simp only [behL]; rw [if_neg (by simp [hN])]; simp) hu (ol _)) (Nat.le_refl _)
theorem behindN_ac {c : Lc} {v : AVal} {hs td : List Bool} {g : Nat} {η : AHeap} {n : Nat} {sv : AVal} {s : List Int} (op a : Int) (hN : namesL c (op, a) = false) (hg : η g = some (.cells 408 [lookC c v hs td])) (h : IsL η sv s) (_ : TyOK c.m.length s) (hl : s.length ≤ 1000) :
    AC Tryz.prog 189 [.ptr g 0 0, .agg [.int .i64 op, .int .i64 a], sv] η n (PE η n (behL c (op, a) s).1 (behL c (op, a) s).2) := by
  have z1 : ∀ η', alenT Tryz.prog 69 sv η' = some (s.length : Int) := h.len (by simp)
  refine AC.listE (Nat.le_trans (behL_len ..) (by simp only [lenMax]; omega)) ?_
  refine AC.fresh fun hf => ?_; refine AC.enter Tryz.func189 rfl Tryz.ntmps189 (by simp) ?_
  have hgn : g ≠ n := fun e => by subst e; rw [hf g (Nat.le_refl _)] at hg; cases hg
  have hg1 : ∀ o, (upd η n o) g = some (.cells 408 [lookC c v hs td]) := fun o => by rw [upd_ne hgn]; exact hg
  have hs' : ∀ o, IsL (upd η n o) sv s := fun o => h.keep hf fun r hr => upd_ne (by omega)
  have ol : ∀ o x, x < n → upd η n o x = η x := fun o x hx => upd_ne (by omega)
  have fin : ∀ {u : AVal} {l : List Int} {e : Int} {η' : AHeap}, behL c (op, a) s = (l, e) → IsL η' u l → (∀ x, x < n → η' x = η x) → (∃ v, AVal.tup [u, .int .i64 e] = .tup [v, .int .i64 (behL c (op, a) s).2] ∧ IsL η' v (behL c (op, a) s).1) ∧ ∀ x, x < n → η' x = η x := fun he hu hx => ⟨⟨_, by rw [he], by rw [he]; exact hu⟩, hx⟩
  simp [aload, apart, upd_eq]
  refine ACK.rt (lnames_ac (op, a) (hg1 _)) ?_
  simp [hN]
  exact resK.same (fin (by simp only [behL]; rw [if_pos hN]) (IsL.nil' rfl) (ol _)) (Nat.le_refl _)
theorem ACK.eff {P : Program} {f : FuncId} {args : List AVal} {η : AHeap} {n : Nat} {c : Lc} {i : Int × Int} {K : AVal → AHeap → Nat → Prop} {g : Tag K} (h : AC P f args η n fun r η' n' => EffR c i r ∧ η' = η ∧ n' = n) (hk : ∀ u v, RoL u (effL c i).1 → RoL v (effL c i).2 → K (.tup [u, v]) η n) : ACK P f args η n K g :=
  ACK.use h fun r η' n' ⟨⟨u, v, e1, h1, h2⟩, e2, e3⟩ => by subst e1 e2 e3; exact hk u v h1 h2
theorem ite_len {p : Prop} [Decidable p] {a b k : Nat} (ha : a ≤ k) (hb : b ≤ k) : (if p then a else b) ≤ k := by split <;> assumption
theorem effL_tk (c : Lc) (i : Int × Int) (hp : ∀ k, (actr c.m k).params.length ≤ 16) : (effL c i).1.length ≤ 16 := by
  simp only [effL, apply_ite Prod.fst, apply_ite List.length, List.length_cons, List.length_nil, Nat.zero_add]
  repeat' (refine ite_len ?_ ?_)
  all_goals first | decide | exact hp _
theorem behindD_ac {c : Lc} {v : AVal} {hs td : List Bool} {g : Nat} {η : AHeap} {n : Nat} {sv : AVal} {s : List Int} (op a : Int) (hA : 0 ≤ a ∨ op = 1) (hA2 : a < 9223372036854775807 ∨ op = 1) (hN : namesL c (op, a) = true) (w20 : ¬ op = 20) (w22 : ¬ op = 22) (w25 : ¬ op = 25) (w26 : ¬ op = 26) (hk : c.k < 100) (hm : c.m.length < 100) (hp : ∀ k, (actr c.m k).params.length ≤ 16) (hg : η g = some (.cells 408 [lookC c v hs td])) (h : IsL η sv s) (_ : TyOK c.m.length s) (hl : s.length ≤ 1000) :
    AC Tryz.prog 189 [.ptr g 0 0, .agg [.int .i64 op, .int .i64 a], sv] η n (PE η n (behL c (op, a) s).1 (behL c (op, a) s).2) := by
  have z1 : ∀ η', alenT Tryz.prog 69 sv η' = some (s.length : Int) := h.len (by simp)
  refine AC.listE (Nat.le_trans (behL_len ..) (by simp only [lenMax]; omega)) ?_
  refine AC.fresh fun hf => ?_; refine AC.enter Tryz.func189 rfl Tryz.ntmps189 (by simp) ?_
  have hgn : g ≠ n := fun e => by subst e; rw [hf g (Nat.le_refl _)] at hg; cases hg
  have hg1 : ∀ o, (upd η n o) g = some (.cells 408 [lookC c v hs td]) := fun o => by rw [upd_ne hgn]; exact hg
  have hs' : ∀ o, IsL (upd η n o) sv s := fun o => h.keep hf fun r hr => upd_ne (by omega)
  have ol : ∀ o x, x < n → upd η n o x = η x := fun o x hx => upd_ne (by omega)
  have fin : ∀ {u : AVal} {l : List Int} {e : Int} {η' : AHeap}, behL c (op, a) s = (l, e) → IsL η' u l → (∀ x, x < n → η' x = η x) → (∃ v, AVal.tup [u, .int .i64 e] = .tup [v, .int .i64 (behL c (op, a) s).2] ∧ IsL η' v (behL c (op, a) s).1) ∧ ∀ x, x < n → η' x = η x := fun he hu hx => ⟨⟨_, by rw [he], by rw [he]; exact hu⟩, hx⟩
  simp [aload, apart, upd_eq]
  refine ACK.rt (lnames_ac (op, a) (hg1 _)) ?_
  simp [hN, aload, afield, apart, upd_eq]
  simp [w20, w22, w25, w26, aload, apart, upd_eq]
  refine ACK.eff (effect_ac (op, a) (hg1 _) hA hA2 hN hk hm) fun u v hu hv => ?_
  simp
  refine ACK.pe (lpop_ac (hs' _) hu.isL (by omega) (by have := effL_tk c (op, a) hp; omega)) fun w hw => ?_
  have wa := hw.ac
  have va := (hv.isL (η := η)).ac
  have ws := hw.sc
  have vs := (hv.isL (η := η)).sc
  simp [abuildS, afillP, tek, chunk, wa, va, ws, vs]
  have ol2 : ∀ o o' x, x < n → upd (upd η n o) (n + 1) o' x = η x := fun o o' x hx => by rw [upd_ne (by omega), upd_ne (by omega)]
  have hf1 : ∀ o r, n + 1 ≤ r → upd η n o r = none := fun o r hr => by rw [upd_ne (by omega)]; exact hf r (by omega)
  have hw2 : ∀ o', IsL (upd (upd η n (some (.cells 2 [[.int .i64 op, .int .i64 a]]))) (n + 1) o') w (popL s (effL c (op, a)).1).1 := fun o' => hw.keep (hf1 _) fun r hr => upd_ne (by omega)
  have hpl := popL_len s (effL c (op, a)).1
  have hel := effL_len c (op, a)
  have hc := concat_ac (η := upd (upd η n (some (.cells 2 [[.int .i64 op, .int .i64 a]]))) (n + 1) (some (.cells 1 [[w], [v]]))) (n := n + 1 + 1) (q := n + 1) (vs := [w, v]) (ls := [(popL s (effL c (op, a)).1).1, (effL c (op, a)).2]) (upd_eq ..) rfl (fun i h1 h2 => by
    match i, h1, h2 with
    | 0, _, _ => exact hw2 _
    | 1, _, _ => exact hv.isL) (by simp; omega) (by simp)
  have ef : ([(popL s (effL c (op, a)).1).1, (effL c (op, a)).2] : List (List Int)).flatten = (popL s (effL c (op, a)).1).1 ++ (effL c (op, a)).2 := by simp
  rw [ef] at hc
  have eb : behL c (op, a) s = high ((popL s (effL c (op, a)).1).1 ++ (effL c (op, a)).2) (popL s (effL c (op, a)).1).2 := by simp only [behL]; rw [if_neg (by simp [hN]), if_neg w20, if_neg (by simp [w22, w25, w26])]
  refine ACK.rt hc ?_
  generalize (popL s (effL c (op, a)).1).1 ++ (effL c (op, a)).2 = out at *
  generalize (popL s (effL c (op, a)).1).2 = e at *
  by_cases he : e = 0
  · simp [he, ints_length]
    refine CondP.dec (fun h4 => ?_) (fun h4 => ?_)
    · simp [h4]
      exact resK.same (fin (l := out) (by rw [eb, high, if_pos ⟨he, by omega⟩]) (Or.inl rfl) (ol2 _ _)) (Nat.le_refl _)
    · simp [h4]
      exact resK.same (fin (l := out) (by rw [eb, high, if_neg (by omega), he]) (Or.inl rfl) (ol2 _ _)) (Nat.le_refl _)
  · simp [he]
    exact resK.same (fin (l := out) (by rw [eb, high, if_neg (by omega)]) (Or.inl rfl) (ol2 _ _)) (Nat.le_refl _)
theorem lbehind_ac {c : Lc} {v : AVal} {hs td : List Bool} {g : Nat} {η : AHeap} {n : Nat} {sv : AVal} {s : List Int} (i : Int × Int) (hA : 0 ≤ i.2 ∨ i.1 = 1) (hA2 : i.2 < 9223372036854775807 ∨ i.1 = 1) (hk : c.k < 100) (hm : c.m.length < 100) (hp : ∀ k, (actr c.m k).params.length ≤ 16) (hg : η g = some (.cells 408 [lookC c v hs td])) (h : IsL η sv s) (hT : TyOK c.m.length s) (hl : s.length ≤ 1000) :
    AC Tryz.prog 189 [.ptr g 0 0, .agg [.int .i64 i.1, .int .i64 i.2], sv] η n (PE η n (behL c i s).1 (behL c i s).2) := by
  obtain ⟨op, a⟩ := i
  by_cases hN : namesL c (op, a) = false
  · exact behindN_ac op a hN hg h hT hl
  by_cases w20 : op = 20
  · subst w20; exact behind20_ac a (by simpa using hA) hg h hT hl
  by_cases w22 : op = 22
  · subst w22; exact behind22_ac a hg h hT hl
  by_cases w25 : op = 25
  · subst w25; exact behind25_ac a hg h hT hl
  by_cases w26 : op = 26
  · subst w26; exact behind26_ac a hg h hT hl
  · exact behindD_ac op a hA hA2 (by simpa using hN) w20 w22 w25 w26 hk hm hp hg h hT hl
end Go.Proofs.YtbomkomipaipmaaGreat
namespace Go.Proofs.YtbomkomipaipmaaGreat

section
variable {P : Program} {ops : Array Oper} {T : Array (List Nat)} {K : AState → Prop}

/-- what is left of an order; `E k i`: that k comes ahead of i is not to be asked -/
structure Left (ops : Array Oper) (T : Array (List Nat)) (E : Nat → Nat → Prop) (listed : Array Bool) (l : List Nat) : Prop where
  mem : ∀ i, i < ops.size → (i ∈ l ↔ listed.getD i true = false)
  lt : ∀ i ∈ l, i < ops.size
  sz : listed.size = ops.size
  dn : ∀ j, j < ops.size → j ∉ l → ∀ k, (T.getD j []).contains k = true → k ∉ l
  cut : ∀ l1 i l2, l = l1 ++ i :: l2 → ∃ oi, ops[i]? = some oi ∧ i ∉ l1 ∧ i ∉ l2 ∧ (∀ e ∈ oi.after, Region.binds .any e = true → e.on < ops.size ∧ e.on ∉ i :: l2) ∧
    ∀ k ∈ l1, E k i ∨ (T.getD i []).contains k = true ∨ ∃ ok, ops[k]? = some ok ∧ ok.apart ops oi = true ∧ isChg ok.op = false

theorem Left.on {E : Nat → Nat → Prop} {listed : Array Bool} {l : List Nat} (h : Left ops T E listed l) {j : Nat} (hj : j < ops.size) : listed.getD j false = true ↔ j ∉ l := by
  have e1 : listed.getD j true = listed.getD j false := by
    have := h.sz
    rw [Array.getD_eq_getD_getElem?, Array.getD_eq_getD_getElem?, Array.getElem?_eq_getElem (by omega)]; rfl
  rw [h.mem j hj, e1]; simp
theorem Left.ready {E : Nat → Nat → Prop} {listed : Array Bool} {l : List Nat} (h : Left ops T E listed l) {i : Nat} (hi : i ∈ Region.ready .any ops listed) : i ∈ l ∧ ∃ o, ops[i]? = some o ∧ ∀ e ∈ o.after, Region.binds .any e = true → e.on < ops.size ∧ e.on ∉ l := by
  obtain ⟨h1, o, ho, h2⟩ := mem_ready.1 hi
  have hio : i < ops.size := (Array.getElem?_eq_some_iff.1 ho).1
  have hil := (h.mem i hio).2 h1
  refine ⟨hil, o, ho, fun e he hb => ?_⟩
  obtain ⟨l1, l2, el⟩ := List.append_of_mem hil
  obtain ⟨oi, ho', _, _, h3, _⟩ := h.cut l1 i l2 el
  rw [ho] at ho'; cases ho'
  have hsz := (h3 e he hb).1
  exact ⟨hsz, (h.on hsz).1 (h2 e he hb)⟩
theorem Left.first {E : Nat → Nat → Prop} {listed : Array Bool} {i : Nat} {l : List Nat} (h : Left ops T E listed (i :: l)) : i ∈ Region.ready .any ops listed := by
  obtain ⟨oi, ho, _, _, h3, _⟩ := h.cut [] i l rfl
  refine mem_ready.2 ⟨(h.mem i (h.lt i (by simp))).1 (by simp), oi, ho, fun ed hed hb => ?_⟩
  obtain ⟨k1, k2⟩ := h3 ed hed hb
  exact (h.on k1).2 k2
theorem Left.preT {E : Nat → Nat → Prop} {listed : Array Bool} {l : List Nat} (h : Left ops T E listed l) (hcl : closedT ops T = true) {i : Nat} (hi : i ∈ Region.ready .any ops listed) : ∀ k, (T.getD i []).contains k = true → k ∉ l := fun k hk => by
  obtain ⟨hil, o, ho, hpre⟩ := h.ready hi
  have hcl' := List.all_eq_true.1 hcl i (List.mem_range.2 (h.lt i hil))
  simp only [ho] at hcl'
  have hc := List.all_eq_true.1 hcl' k (by simpa using hk)
  obtain ⟨ed, hed, hb⟩ := List.any_eq_true.1 hc
  simp only [Bool.and_eq_true, Bool.or_eq_true, beq_iff_eq] at hb
  obtain ⟨hb1, hb2⟩ := hb
  obtain ⟨k1, hon⟩ := hpre ed (by simpa using hed) hb1
  rcases hb2 with rfl | hb2
  · exact hon
  · exact h.dn ed.on k1 hon k hb2
theorem Left.front {E : Nat → Nat → Prop} {listed : Array Bool} {l : List Nat} (h : Left ops T E listed l) (hcl : closedT ops T = true) {i : Nat} (hi : i ∈ Region.ready .any ops listed) {l1 l2 : List Nat} (e : l = l1 ++ i :: l2) (hE : ∀ k ∈ l1, ¬ E k i) {lds : List (Nat × (AHeap → Prop))} {s : AState}
    (ha : adr P ops T l lds K s) : adr P ops T (i :: (l1 ++ l2)) lds K s := by
  obtain ⟨oi, ho, n1, n2, h3, h4⟩ := h.cut l1 i l2 e
  have hp := h.preT hcl hi
  refine adr_front ho l1 lds s (fun k hk => ?_) (by rw [← e]; exact ha)
  have hT : (T.getD i []).contains k = false := by
    cases hc : (T.getD i []).contains k with
    | false => rfl
    | true => exact absurd (by rw [e]; simp [hk]) (hp k hc)
  refine ⟨hT, ?_⟩
  rcases h4 k hk with g | g | g
  · exact absurd g (hE k hk)
  · rw [hT] at g; cases g
  · exact g
theorem Left.next {E : Nat → Nat → Prop} {listed : Array Bool} {l : List Nat} (h : Left ops T E listed l) (hcl : closedT ops T = true) {i : Nat} (hi : i ∈ Region.ready .any ops listed) {l1 l2 : List Nat} (e : l = l1 ++ i :: l2) : Left ops T E (listed.setIfInBounds i true) (l1 ++ l2) := by
  obtain ⟨oi, ho, n1, n2, h3, h4⟩ := h.cut l1 i l2 e
  have hpreT := h.preT hcl hi
  have hmem : ∀ j, j ∈ l1 ++ l2 ↔ j ∈ l ∧ j ≠ i := fun j => by
    rw [e]
    simp only [List.mem_append, List.mem_cons]
    constructor
    · rintro (h | h)
      · exact ⟨Or.inl h, fun e => n1 (e ▸ h)⟩
      · exact ⟨Or.inr (Or.inr h), fun e => n2 (e ▸ h)⟩
    · rintro ⟨h | h | h, hne⟩
      · exact Or.inl h
      · exact absurd h hne
      · exact Or.inr h
  refine ⟨?_, fun j hj => h.lt j ((hmem j).1 hj).1, by simpa using h.sz, ?_, ?_⟩
  · intro j hj
    by_cases hji : j = i
    · subst hji
      constructor
      · intro hin; exact absurd rfl ((hmem j).1 hin).2
      · intro hin
        have : (listed.setIfInBounds j true).getD j true = true := by rw [Array.getD_eq_getD_getElem?, Array.getElem?_setIfInBounds]; simp; split <;> rfl
        rw [this] at hin; cases hin
    · rw [hmem, getD_set_ne true (Ne.symm hji), h.mem j hj]
      exact ⟨fun h => h.1, fun h => ⟨h, hji⟩⟩
  · intro j hj hjn k hk hin
    by_cases hji : j = i
    · subst hji; exact hpreT k hk ((hmem k).1 hin).1
    · exact h.dn j hj (fun h => hjn ((hmem j).2 ⟨h, hji⟩)) k hk ((hmem k).1 hin).1
  · intro m1 j m2 hm12
    rcases List.append_eq_append_iff.1 hm12 with ⟨c, hc1, hc2⟩ | ⟨c, hc1, hc2⟩
    · subst hc1
      obtain ⟨oj, q1, q2, q3, q4, q5⟩ := h.cut (l1 ++ i :: c) j m2 (by rw [e, hc2]; simp)
      refine ⟨oj, q1, fun hin => q2 ?_, q3, q4, fun k hk => q5 k ?_⟩
      · rcases List.mem_append.1 hin with h | h
        · simp [h]
        · simp [h]
      · rcases List.mem_append.1 hk with h | h
        · simp [h]
        · simp [h]
    · cases c with
      | nil =>
        simp at hc1 hc2
        subst hc1
        obtain ⟨oj, q1, q2, q3, q4, q5⟩ := h.cut (l1 ++ [i]) j m2 (by rw [e, ← hc2]; simp)
        exact ⟨oj, q1, fun hin => q2 (by simp [hin]), q3, q4, fun k hk => q5 k (by simp [hk])⟩
      | cons x c =>
        simp only [List.cons_append, List.cons.injEq] at hc2
        obtain ⟨rfl, hc2⟩ := hc2
        subst hc1
        obtain ⟨oj, q1, q2, q3, q4, q5⟩ := h.cut m1 j (c ++ i :: l2) (by rw [e]; simp)
        refine ⟨oj, q1, q2, fun hin => q3 ?_, fun ed hed hb => ⟨(q4 ed hed hb).1, fun hin => (q4 ed hed hb).2 ?_⟩, q5⟩
        · rw [hc2] at hin
          rcases List.mem_append.1 hin with h | h
          · simp [h]
          · simp [h]
        · rw [hc2] at hin
          rcases List.mem_cons.1 hin with h | h
          · simp [h]
          · rcases List.mem_append.1 h with h | h
            · simp [h]
            · simp [h]

/-- one operation, and what is behind it -/
theorem op_go {κ : Kap} {Q : Exit → Act → World → Prop} {R : Act → World → Prop} {i : Nat} {o : Oper} (ho : ops[i]? = some o) {l' : List Nat} {lds : List (Nat × (AHeap → Prop))} {s : AState} {a : Act} {w : World} (hr : RelE κ s a w) (hf : adr P ops T (i :: l') lds K s)
    (go : ∀ (lds' : List (Nat × (AHeap → Prop))) (s' : AState) (a' : Act) (w' : World), RelE κ s' a' w' → adr P ops T l' lds' K s' → R a' w') : wpOp P ops Q i R a w := by
  rw [adr] at hf
  simp only [ho] at hf
  unfold wpOp
  rw [ho]
  simp only
  rcases aguard_sound hr hf with ⟨g1, g2⟩ | ⟨g1, g2⟩
  · rw [if_pos g1]
    refine Or.inl ?_
    obtain ⟨own, M, hR⟩ := hr
    split at g2
    · refine achg_sound hR.st (aev_sound hR.fr) g2 fun u w' ho' => ?_
      obtain ⟨v, η', n', k1, k2⟩ := hR.out ho' o.dst
      exact go _ _ _ w' k2 k1.2
    · split at g2
      · rename_i v hv
        obtain ⟨u, k1, k2⟩ := aval_sound hR.st (aev_sound hR.fr) hv
        unfold Oper.wp
        rw [k1]
        exact go _ _ _ w ⟨own, M, hR.put o.dst k2⟩ g2
      · exact g2.elim
  · rw [if_neg (by rw [g1]; simp)]
    obtain ⟨own, M, hR⟩ := hr
    exact go _ _ _ w ⟨own, M, hR.put _ vr_skip⟩ g2
/-- one that changes nothing, with two ways on -/
theorem op_go2 {κ : Kap} {Q : Exit → Act → World → Prop} {R : Act → World → Prop} {i : Nat} {o : Oper} (ho : ops[i]? = some o) (hc : isChg o.op = false) {l' l'' : List Nat} {lds : List (Nat × (AHeap → Prop))} {s : AState} {a : Act} {w : World} (hr : RelE κ s a w) (hf : adr P ops T (i :: l') lds K s) (hf2 : adr P ops T (i :: l'') lds K s)
    (go : ∀ (lds' : List (Nat × (AHeap → Prop))) (s' : AState) (a' : Act) (w' : World), RelE κ s' a' w' → adr P ops T l' lds' K s' → adr P ops T l'' lds' K s' → R a' w') : wpOp P ops Q i R a w := by
  rw [adr] at hf hf2
  simp only [ho] at hf hf2
  rw [if_neg (by simp [hc])] at hf hf2
  unfold wpOp
  rw [ho]
  simp only
  rcases aguard_sound hr hf with ⟨g1, g2⟩ | ⟨g1, g2⟩
  · rcases aguard_sound hr hf2 with ⟨g3, g4⟩ | ⟨g3, g4⟩
    · rw [if_pos g1]
      refine Or.inl ?_
      obtain ⟨own, M, hR⟩ := hr
      split at g2
      · rename_i v hv
        simp only [hv] at g4
        obtain ⟨u, k1, k2⟩ := aval_sound hR.st (aev_sound hR.fr) hv
        unfold Oper.wp
        rw [k1]
        exact go _ _ _ w ⟨own, M, hR.put o.dst k2⟩ g2 g4
      · exact g2.elim
    · rw [g1] at g3; cases g3
  · rcases aguard_sound hr hf2 with ⟨g3, g4⟩ | ⟨g3, g4⟩
    · rw [g1] at g3; cases g3
    · rw [if_neg (by rw [g1]; simp)]
      obtain ⟨own, M, hR⟩ := hr
      exact go _ _ _ w ⟨own, M, hR.put _ vr_skip⟩ g2 g4

theorem Left.any {κ : Kap} {Q : Exit → Act → World → Prop} (hQ : ∀ s a w, K s → RelE κ s a w → Q .normal a w) (hcl : closedT ops T = true) {m : Nat} {l : List Nat} {listed : Array Bool} {E : Nat → Nat → Prop} (h : Left ops T E listed l) (hm : l.length = m) (hE : ∀ k ∈ l, ∀ i ∈ l, ¬ E k i) {lds : List (Nat × (AHeap → Prop))} {s : AState} {a : Act} {w : World}
    (hr : RelE κ s a w) (ha : adr P ops T l lds K s) : wpAny P .any ops Q m listed a w :=
  adr_any hQ hcl m l listed lds s a w hm h.mem h.lt h.sz h.dn (fun l1 i l2 e => by
    obtain ⟨oi, q1, q2, q3, q4, q5⟩ := h.cut l1 i l2 e
    refine ⟨oi, q1, q2, q3, q4, fun k hk => (q5 k hk).elim (fun g => absurd g (hE k (by rw [e]; simp [hk]) i (by rw [e]; simp))) id⟩) hr ha

/-- two orders: in the one p comes ahead of q, in the other q ahead of p -/
theorem adr_two {κ : Kap} {Q : Exit → Act → World → Prop} (hQ : ∀ s a w, K s → RelE κ s a w → Q .normal a w) (hcl : closedT ops T = true) {p q : Nat} (hpq : p ≠ q) (hch : ∀ i o, ops[i]? = some o → i ≠ p → i ≠ q → isChg o.op = false ∨ ∃ e ∈ o.after, Region.binds .any e = true ∧ (e.on = p ∨ e.on = q)) :
    ∀ (m : Nat) (l l' : List Nat) (listed : Array Bool) (lds : List (Nat × (AHeap → Prop))) (s : AState) (a : Act) (w : World), l.length = m → l'.length = m → Left ops T (fun k i => k = p ∧ i = q) listed l → Left ops T (fun k i => k = q ∧ i = p) listed l' → p ∈ l → q ∈ l →
      RelE κ s a w → adr P ops T l lds K s → adr P ops T l' lds K s → wpAny P .any ops Q m listed a w
  | 0, l, _, _, _, _, _, _, hm, _, _, _, hp, _, _, _, _ => by rw [List.eq_nil_of_length_eq_zero hm] at hp; simp at hp
  | m + 1, l, l', listed, lds, s, a, w, hm, hm', h, h', hp, hq, hr, ha, ha' => by
    have hll : ∀ j, j < ops.size → (j ∈ l ↔ j ∈ l') := fun j hj => by rw [h.mem j hj, h'.mem j hj]
    refine ⟨fun h0 => ?_, fun i hi => ?_⟩
    · cases l with
      | nil => simp at hp
      | cons x l => have := h.first; rw [h0] at this; simp at this
    · obtain ⟨hil, o, ho, hpre⟩ := h.ready hi
      have hil' := (hll i (h.lt i hil)).1 hil
      obtain ⟨l1, l2, e⟩ := List.append_of_mem hil
      obtain ⟨l1', l2', e'⟩ := List.append_of_mem hil'
      have hlen : (l1 ++ l2).length = m := by rw [e] at hm; simp at hm ⊢; omega
      have hlen' : (l1' ++ l2').length = m := by rw [e'] at hm'; simp at hm' ⊢; omega
      have hni : i ∉ l1 ++ l2 := by
        obtain ⟨_, _, n1, n2, _⟩ := h.cut l1 i l2 e
        simp [n1, n2]
      have hni' : i ∉ l1' ++ l2' := by
        obtain ⟨_, _, n1, n2, _⟩ := h'.cut l1' i l2' e'
        simp [n1, n2]
      by_cases hip : i = p
      · subst hip
        have hf := h.front hcl hi e (fun k hk g => hpq g.2) ha
        refine op_go ho hr hf fun lds' s' a' w' hr' hh => ?_
        exact (h.next hcl hi e).any hQ hcl hlen (fun k hk j hj g => hni (g.1 ▸ hk)) hr' hh
      by_cases hiq : i = q
      · subst hiq
        have hf := h'.front hcl hi e' (fun k hk g => hip g.2) ha'
        refine op_go ho hr hf fun lds' s' a' w' hr' hh => ?_
        exact (h'.next hcl hi e').any hQ hcl hlen' (fun k hk j hj g => hni' (g.1 ▸ hk)) hr' hh
      · have hf := h.front hcl hi e (fun k hk g => hiq g.2) ha
        have hf' := h'.front hcl hi e' (fun k hk g => hip g.2) ha'
        rcases hch i o ho hip hiq with hc | ⟨ed, hed, hb, hon⟩
        · have hin : ∀ j, j ∈ l → j ≠ i → j ∈ l1 ++ l2 := fun j hj hne => by
            rw [e] at hj
            simp at hj ⊢
            rcases hj with hj | rfl | hj
            · exact Or.inl hj
            · exact absurd rfl hne
            · exact Or.inr hj
          exact op_go2 ho hc hr hf hf' fun lds' s' a' w' hr' hh hh' => adr_two hQ hcl hpq hch m _ _ _ lds' s' a' w' hlen hlen' (h.next hcl hi e) (h'.next hcl hi e') (hin p hp (Ne.symm hip)) (hin q hq (Ne.symm hiq)) hr' hh hh'
        · have := (hpre ed hed hb).2
          rcases hon with g | g
          · rw [g] at this; exact absurd hp this
          · rw [g] at this; exact absurd hq this

def addT (T : Array (List Nat)) (q p : Nat) : Array (List Nat) := T.setIfInBounds q (p :: T.getD q [])
theorem addT_spec {T : Array (List Nat)} {q p i k : Nat} (h : ((addT T q p).getD i []).contains k = true) : (k = p ∧ i = q) ∨ (T.getD i []).contains k = true := by
  unfold addT at h
  rw [Array.getD_eq_getD_getElem?, Array.getElem?_setIfInBounds] at h
  by_cases e : q = i
  · subst e
    rw [if_pos rfl] at h
    by_cases hs : q < T.size
    · rw [if_pos hs] at h
      rw [Option.getD_some, List.contains_cons, Bool.or_eq_true] at h
      rcases h with h | h
      · exact Or.inl ⟨by simpa using h, rfl⟩
      · exact Or.inr h
    · rw [if_neg hs] at h; simp at h
  · rw [if_neg e, ← Array.getD_eq_getD_getElem?] at h
    exact Or.inr h
def canonOK2 (ops : Array Oper) (l l' : List Nat) (p q : Nat) : Bool :=
  closedT ops (preT ops) && (l.length == ops.size && (l'.length == ops.size && (canonGo ops (addT (preT ops) q p) [] l && (canonGo ops (addT (preT ops) p q) [] l' && (p != q && (decide (p < ops.size) && (decide (q < ops.size) &&
    (List.range ops.size).all fun i => i == p || i == q || (match ops[i]? with
      | some o => !isChg o.op || o.after.toList.any fun e => Region.binds .any e && (e.on == p || e.on == q)
      | none => true))))))))
theorem left_start {l : List Nat} {p q : Nat} (hlen : l.length = ops.size) (hgo : canonGo ops (addT T q p) [] l = true) : Left ops T (fun k i => k = p ∧ i = q) (Array.replicate ops.size false) l ∧ ∀ i, i < ops.size → i ∈ l := by
  obtain ⟨c1, c2, c3⟩ := canonGo_spec l [] hgo
  have hall : ∀ i, i < ops.size → i ∈ l := fun i hi => nodup_all ops.size l c2 (fun x hx => (c1 x hx).1) hlen i hi
  refine ⟨⟨fun i hi => ?_, fun i hi => (c1 i hi).1, by simp, fun j hj hn => absurd (hall j hj) hn, fun l1 i l2 e => ?_⟩, hall⟩
  · have : (Array.replicate ops.size false).getD i true = false := by simp [Array.getD_eq_getD_getElem?, hi]
    simp [this, hall i hi]
  · obtain ⟨oi, q1, q2, q3⟩ := c3 l1 i l2 e
    have hnd := c2
    rw [e] at hnd
    have h1 := List.nodup_append.1 hnd
    have h2 := List.nodup_cons.1 h1.2.1
    refine ⟨oi, q1, fun hin => h1.2.2 i hin i (by simp) rfl, h2.1, fun ed hed hb => ⟨(q2 ed hed hb).1, fun hin => ?_⟩, fun k hk => ?_⟩
    · rcases (q2 ed hed hb).2 with h | h
      · simp at h
      · exact h1.2.2 ed.on h ed.on hin rfl
    · rcases q3 k hk with g | g
      · rcases addT_spec g with g | g
        · exact Or.inl g
        · exact Or.inr (Or.inl g)
      · exact Or.inr (Or.inr g)
theorem DrawP.intro2 {id : Nat} {Q : Exit → AState → Prop} {s : AState} (hm : P.follows .mixedOrders = true) (l l' : List Nat) (p q : Nat) (hl : canonOK2 ops l l' p q = true) (h : adr P ops (preT ops) l [] (Q .normal) s) (h' : adr P ops (preT ops) l' [] (Q .normal) s) : DrawP P id ops Q s := by
  intro κ a w hr
  unfold canonOK2 at hl
  simp only [Bool.and_eq_true, beq_iff_eq, bne_iff_ne, decide_eq_true_eq] at hl
  obtain ⟨hcl, hlen, hlen', hgo, hgo', hpq, hp, hq, hch⟩ := hl
  obtain ⟨k1, hall⟩ := left_start hlen hgo
  obtain ⟨k2, hall'⟩ := left_start hlen' hgo'
  refine wp_region_any hm ?_
  obtain ⟨own, M, hR⟩ := hr
  have hr' : RelE κ s a { w with drawn := w.drawn + 1 } := ⟨own, M, hR.st.drawn _, hR.fr, hR.nt, DF.keep (w := w) (w' := { w with drawn := w.drawn + 1 }) (fun _ h => h) hR.df, hR.le, hR.mle, hR.frm.trans (Fr.drewN κ.D w _) fun _ _ h => h, hR.ob, hR.n⟩
  refine adr_two (K := Q .normal) (Q := Lift κ Q) (fun s a w hK hR => ⟨s, hK, hR⟩) hcl hpq (fun i o ho hip hiq => ?_) ops.size l l' (Array.replicate ops.size false) [] s a _ hlen hlen' k1 k2 (hall p hp) (hall q hq) hr' h h'
  have := List.all_eq_true.1 hch i (List.mem_range.2 (Array.getElem?_eq_some_iff.1 ho).1)
  simp only [ho, Bool.or_eq_true, beq_iff_eq, hip, hiq, false_or, Bool.not_eq_true'] at this
  rcases this with h | h
  · exact Or.inl h
  · obtain ⟨e, he, hb⟩ := List.any_eq_true.1 h
    simp only [Bool.and_eq_true, Bool.or_eq_true, beq_iff_eq] at hb
    exact Or.inr ⟨e, by simpa using he, hb.1, hb.2⟩
def canonA2 (ops : Array Oper) (l l' : List (Nat × List Nat)) (p q : Nat) : Bool := canonOK2 ops (l.map (·.1)) (l'.map (·.1)) p q && (canonU ops (preT ops) [] l && canonU ops (preT ops) [] l')
theorem drawK.intro2 {id : Nat} {s : AState} {Q : Exit → AState → Prop} {g : Tag ops} {g' : Tag Q} (hm : P.follows .mixedOrders = true) (l l' : List (Nat × List Nat)) (p q : Nat) (hl : canonA2 ops l l' p q = true) (h : drK P ops l [] s (Q .normal) .mk .mk .mk) (h' : drK P ops l' [] s (Q .normal) .mk .mk .mk) : drawK P id ops s Q g g' := by
  unfold canonA2 at hl
  simp only [Bool.and_eq_true] at hl
  exact DrawP.intro2 hm (l.map (·.1)) (l'.map (·.1)) p q hl.1 (adr_of_U l [] [] s hl.2.1 (by simp) h) (adr_of_U l' [] [] s hl.2.2 (by simp) h')
end
end Go.Proofs.YtbomkomipaipmaaGreat
namespace Go.Proofs.YtbomkomipaipmaaGreat
set_option maxRecDepth 100000

/-- a place's shape: nothing, or a row of its own -/
def RowAt (g q : Nat) (η : AHeap) (v : AVal) (l : List Int) : Prop := (v = .nils ∧ l = []) ∨ ∃ r, v = .sl r 0 l.length ∧ η r = some (.cells 1 (ints l)) ∧ r ≠ g ∧ r ≠ q
theorem RowAt.isL {g q : Nat} {η : AHeap} {v : AVal} {l : List Int} (h : RowAt g q η v l) : IsL η v l := by
  rcases h with ⟨h1, h2⟩ | ⟨r, h1, h2, _⟩
  · exact Or.inr (Or.inl ⟨h1, h2⟩)
  · rw [h1]; exact IsL.own1 rfl h2
theorem RowAt.rt {g q : Nat} {η : AHeap} {v : AVal} {l : List Int} (h : RowAt g q η v l) : v = .nils ∨ ∃ r m, v = .sl r 0 m := by
  rcases h with ⟨h1, h2⟩ | ⟨r, h1, h2, _⟩
  · exact Or.inl h1
  · exact Or.inr ⟨r, _, h1⟩
/-- the rows that a list of values owns are unlike -/
def Apt (vs : List AVal) : Prop := ∀ (i j r a b : Nat), vs[i]? = some (AVal.sl r 0 a) → vs[j]? = some (AVal.sl r 0 b) → i = j
structure LkAt (c : Lc) (x : Lx) (B g q : Nat) (vs : List AVal) (η : AHeap) : Prop where
  hg : η g = some (.cells 408 [lookC c (.sl q 0 vs.length) x.has x.todo])
  hq : η q = some (.cells 1 (vs.map fun v => [v]))
  gq : g ≠ q
  bg : B ≤ g
  bq : B ≤ q
  lh : x.has.length = 200
  lt : x.todo.length = 200
  lv : vs.length = c.own.code.length
  ls : x.shapes.length = c.own.code.length
  rows : ∀ k (h : k < vs.length), RowAt g q η vs[k] (x.shapes.getD k [])
  big : ∀ (i r m : Nat), vs[i]? = some (AVal.sl r 0 m) → B ≤ r
  apt : Apt vs
/-- only the look changes -/
def FrG (n g q : Nat) (η η' : AHeap) : Prop := ∀ y, y < n → y ≠ g → y ≠ q → η' y = η y
theorem FrG.refl (n g q : Nat) (η : AHeap) : FrG n g q η η := fun _ _ _ _ => rfl
theorem FrG.trans {n n' g q : Nat} {η η' η'' : AHeap} (h : FrG n g q η η') (h' : FrG n' g q η' η'') (hn : n ≤ n') : FrG n g q η η'' := fun y h1 h2 h3 => (h' y (by omega) h2 h3).trans (h y h1 h2 h3)
theorem RowAt.keep {n g q : Nat} {η η' : AHeap} {v : AVal} {l : List Int} (h : RowAt g q η v l) (hf : ∀ r, n ≤ r → η r = none) (hk : FrG n g q η η') : RowAt g q η' v l := by
  rcases h with h | ⟨r, h1, h2, h3, h4⟩
  · exact Or.inl h
  · refine Or.inr ⟨r, h1, ?_, h3, h4⟩
    have : r < n := by
      rcases Nat.lt_or_ge r n with h | h
      · exact h
      · rw [hf r h] at h2; cases h2
    rw [hk r this h3 h4]; exact h2
theorem LkAt.ne {c : Lc} {x : Lx} {B g q : Nat} {vs : List AVal} {η : AHeap} (h : LkAt c x B g q vs η) (h0 : 0 < c.own.code.length) {v : AVal} {l : List Int} (hv : IsL η v l) {r o m : Nat} (e : v = .sl r o m) : r ≠ g ∧ r ≠ q := by
  rcases hv with rfl | ⟨rfl, _⟩ | ⟨r', o', I, J, rfl, ho, hr⟩
  · cases e
  · cases e
  · cases e
    refine ⟨fun e => ?_, fun e => ?_⟩
    · subst e; rw [h.hg] at hr; cases hr
    · subst e
      rw [h.hq] at hr
      have h0' : 0 < vs.length := by rw [h.lv]; exact h0
      simp only [Option.some.injEq, AObj.cells.injEq, true_and] at hr
      have e1 : (vs.map fun v => [v])[0]? = some [vs[0]] := by simp [h0']
      rw [hr, ints_get] at e1
      cases ht : (I ++ (l ++ J))[0]? with
      | none => rw [ht] at e1; simp at e1
      | some y =>
        rw [ht] at e1
        simp at e1
        rcases (h.rows 0 h0').rt with e2 | ⟨r2, m2, e2⟩
        · rw [e2] at e1; cases e1
        · rw [e2] at e1; cases e1
theorem LkAt.keepL {c : Lc} {x : Lx} {B g q n : Nat} {vs : List AVal} {η η' : AHeap} (h : LkAt c x B g q vs η) (h0 : 0 < c.own.code.length) {v : AVal} {l : List Int} (hv : IsL η v l) (hf : ∀ r, n ≤ r → η r = none) (hk : FrG n g q η η') : IsL η' v l := by
  have hne := fun r o m => h.ne h0 hv (r := r) (o := o) (m := m)
  rcases hv with rfl | ⟨rfl, h2⟩ | ⟨r, o, I, J, rfl, ho, hr⟩
  · exact Or.inl rfl
  · exact Or.inr (Or.inl ⟨rfl, h2⟩)
  · have := hne r o l.length rfl
    have hrn : r < n := by
      rcases Nat.lt_or_ge r n with h | h
      · exact h
      · rw [hf r h] at hr; cases hr
    exact Or.inr (Or.inr ⟨r, o, I, J, rfl, ho, by rw [hk r hrn this.1 this.2]; exact hr⟩)
theorem RowAt.obj {g q : Nat} {η : AHeap} {l : List Int} {r m : Nat} (h : RowAt g q η (.sl r 0 m) l) : m = l.length ∧ η r = some (.cells 1 (ints l)) ∧ r ≠ g ∧ r ≠ q := by
  rcases h with ⟨h, _⟩ | ⟨r', h, h1⟩
  · cases h
  · cases h; exact ⟨rfl, h1⟩
theorem LkAt.newRow {c : Lc} {x : Lx} {B g q n : Nat} {vs : List AVal} {η η1 : AHeap} (hL : LkAt c x B g q vs η) {to : Nat} {s : List Int} {b : Nat} {has todo : List Bool} (hv : to < vs.length) (hf : ∀ r, n ≤ r → η r = none) (hh : has.length = 200) (ht : todo.length = 200) (hg1 : η1 g = some (.cells 408 [lookC c (.sl q 0 vs.length) has todo]))
    (hb1 : η1 b = some (.cells 1 (ints s))) (hb2 : n ≤ b) (hk : FrG n g q η η1) : LkAt c ⟨x.shapes.set to s, has, todo⟩ B g q (vs.set to (.sl b 0 s.length)) (upd η1 q (some (.cells 1 ((vs.set to (.sl b 0 s.length)).map fun v => [v])))) := by
  have hgn : g < n := by
    rcases Nat.lt_or_ge g n with h | h
    · exact h
    · have := hL.hg; rw [hf g h] at this; cases this
  have hqn : q < n := by
    rcases Nat.lt_or_ge q n with h | h
    · exact h
    · have := hL.hq; rw [hf q h] at this; cases this
  have hbg := hL.bg
  have hls : x.shapes.length = vs.length := by rw [hL.ls, hL.lv]
  have hold : ∀ (k m : Nat), vs[k]? ≠ some (AVal.sl b 0 m) := fun k m e => by
    have hk : k < vs.length := by
      rcases Nat.lt_or_ge k vs.length with h | h
      · exact h
      · rw [List.getElem?_eq_none h] at e; cases e
    have := hL.rows k hk
    rw [List.getElem?_eq_getElem hk] at e
    rw [Option.some.inj e] at this
    have := this.obj.2.1
    rw [hf b hb2] at this; cases this
  refine ⟨?_, ?_, hL.gq, hL.bg, hL.bq, hh, ht, ?_, ?_, ?_, ?_, ?_⟩
  · rw [upd_ne hL.gq, List.length_set]; exact hg1
  · exact upd_eq ..
  · rw [List.length_set]; exact hL.lv
  · rw [List.length_set]; exact hL.ls
  · intro k hk'
    have hk2 : k < vs.length := by rwa [List.length_set] at hk'
    by_cases e : to = k
    · subst e
      have e1 : (vs.set to (.sl b 0 s.length))[to]'(by rw [List.length_set]; exact hk2) = .sl b 0 s.length := by simp
      have e2 : (x.shapes.set to s).getD to [] = s := by simp [List.getD_eq_getElem?_getD, hls, hk2]
      rw [e1]
      simp only [e2]
      exact Or.inr ⟨b, rfl, by rw [upd_ne (by omega)]; exact hb1, by omega, by omega⟩
    · have e1 : (vs.set to (.sl b 0 s.length))[k]'(by rw [List.length_set]; exact hk2) = vs[k] := List.getElem_set_ne e _
      have e2 : (x.shapes.set to s).getD k [] = x.shapes.getD k [] := by simp [List.getD_eq_getElem?_getD, List.getElem?_set_ne e]
      rw [e1]
      simp only [e2]
      exact (hL.rows k hk2).keep hf fun y h1 h2 h3 => by rw [upd_ne h3]; exact hk y h1 h2 h3
  · intro i r m hi
    by_cases e : to = i
    · subst e
      simp [hv] at hi
      omega
    · rw [List.getElem?_set_ne e] at hi
      exact hL.big i r m hi
  · intro i j r a b' hi hj
    by_cases e : to = i
    · by_cases e' : to = j
      · omega
      · subst e
        rw [List.getElem?_set_ne e'] at hj
        simp [hv] at hi
        exact absurd (hi.1 ▸ hj) (hold j b')
    · by_cases e' : to = j
      · subst e'
        rw [List.getElem?_set_ne e] at hi
        simp [hv] at hj
        exact absurd (hj.1 ▸ hi) (hold i a)
      · rw [List.getElem?_set_ne e] at hi
        rw [List.getElem?_set_ne e'] at hj
        exact hL.apt i j r a b' hi hj
/-- what a function of the look hands back -/
def LkPost (c : Lc) (x : Lx) (e : Int) (B g q n : Nat) (η : AHeap) : AVal → AHeap → Nat → Prop := fun r η' n' => ∃ vs, r = .int .i64 e ∧ LkAt c x B g q vs η' ∧ FrG n g q η η' ∧ n ≤ n'
theorem lgoes_ac {c : Lc} {x : Lx} {B g q : Nat} {vs : List AVal} {η : AHeap} {n : Nat} {sv : AVal} {s : List Int} (to : Nat) (hL : LkAt c x B g q vs η) (h0 : 0 < c.own.code.length) (h200 : c.own.code.length ≤ 200) (h : IsL η sv s) (hl : s.length ≤ 1000) (hs : ∀ k, (x.shapes.getD k []).length ≤ 1000) :
    AC Tryz.prog 190 [.ptr g 0 0, .int .i64 to, sv] η n (LkPost c (goesL c x to s).1 (goesL c x to s).2 B g q n η) := by
  have hg := hL.hg
  refine AC.fresh fun hf => ?_; refine AC.enter Tryz.func190 rfl Tryz.ntmps190 (by simp) ?_
  simp [aload, afield, apart, hg]
  refine CondP.dec (fun h1 => ?_) (fun h1 => ?_)
  · have h1' : c.own.code.length ≤ to := by omega
    simp [h1]
    have e : goesL c x to s = (x, 11) := by simp only [goesL]; rw [if_pos h1']
    rw [e]
    exact resK.rt ⟨vs, rfl, hL, FrG.refl _ _ _ _, Nat.le_refl _⟩
  have h1' : ¬ c.own.code.length ≤ to := by omega
  have ht : to < 200 := by omega
  have ht' : (to : Int) < 200 := by omega
  have hv : to < vs.length := by rw [hL.lv]; omega
  have hgn : g < n := by
    rcases Nat.lt_or_ge g n with h | h
    · exact h
    · rw [hf g h] at hg; cases hg
  have hqn : q < n := by
    rcases Nat.lt_or_ge q n with h | h
    · exact h
    · have := hL.hq; rw [hf q h] at this; cases this
  have ch := lookC_has c (.sl q 0 vs.length) x.has x.todo hL.lh to ht
  cases hb : x.has.getD to false
  · rw [hb] at ch
    have e : goesL c x to s = (⟨x.shapes.set to s, x.has.set to true, x.todo.set to true⟩, 0) := by simp only [goesL]; rw [if_neg h1', if_pos hb]
    have s1 : astore Tryz.prog 4 (.ptr g 0 (8 + to)) (.bool true) η = some (upd η g (some (.cells 408 [lookC c (.sl q 0 vs.length) (x.has.set to true) x.todo]))) := by
      rw [astore_cell hg (by simp) rfl rfl (by omega) (lookC_len _ _ _ _ hL.lh hL.lt), lookC_setHas _ _ _ _ hL.lh _ ht]
    have s2 : astore Tryz.prog 4 (.ptr g 0 (208 + to)) (.bool true) (upd η g (some (.cells 408 [lookC c (.sl q 0 vs.length) (x.has.set to true) x.todo]))) = some (upd η g (some (.cells 408 [lookC c (.sl q 0 vs.length) (x.has.set to true) (x.todo.set to true)]))) := by
      rw [astore_cell (upd_eq ..) (by simp) rfl rfl (by omega) (lookC_len _ _ _ _ (by simp [hL.lh]) hL.lt), upd_upd, lookC_setTodo _ _ _ _ (by simp [hL.lh]) _ ht]
    have k1 : ∀ o, FrG n g q η (upd η g o) := fun o y _ h _ => upd_ne h
    have hs1 := fun o => hL.keepL h0 h hf (k1 o)
    have hq1 : ∀ o, upd η g o q = some (.cells 1 (vs.map fun v => [v])) := fun o => by rw [upd_ne (Ne.symm hL.gq)]; exact hL.hq
    simp [h1, aload, afield, apart, hg, aindex, ht', ch]
    refine drawK.intro mixed [(0, []), (1, []), (2, []), (3, []), (4, []), (5, []), (6, []), (8, []), (9, []), (7, []), (10, []), (11, [])] (by kernel_rfl) ?_
    simp [afield, aindex, ht', s1, s2]
    refine drawK.intro mixed [(0, []), (1, []), (2, []), (3, []), (4, []), (5, []), (6, [3]), (7, []), (8, [])] (by kernel_rfl) ?_
    simp [aload, afield, apart, upd_eq]
    refine ACK.use (cloneT_ac (hs1 _) (by omega)).freshP ?_
    intro r η1 n1 ⟨⟨b, e1, hb1, hb2, hb3, hk1⟩, hf1⟩
    subst e1
    have hg2 : η1 g = some (.cells 408 [lookC c (.sl q 0 vs.length) (x.has.set to true) (x.todo.set to true)]) := by rw [hk1 g hgn, upd_eq]
    have hq2 : η1 q = some (.cells 1 (vs.map fun v => [v])) := by rw [hk1 q hqn]; exact hq1 _
    have s3 : astore Tryz.prog 69 (.ptr q to 0) (.sl b 0 s.length) η1 = some (upd η1 q (some (.cells 1 ((vs.set to (.sl b 0 s.length)).map fun v => [v])))) := astore_row hq2 (by simp) rfl rfl hv
    simp [lk_some, chkK, hg2, hq2, aindex, hv, s3]
    refine resK.rt ?_
    rw [e]
    have hfr : FrG n g q η η1 := fun y h1 h2 _ => by rw [hk1 y h1, upd_ne h2]
    have hnew := hL.newRow hv hf (has := x.has.set to true) (todo := x.todo.set to true) (by simp [hL.lh]) (by simp [hL.lt]) hg2 hb1 hb2 hfr
    simp only [List.map_set] at hnew
    exact ⟨_, rfl, hnew, fun y h1 h2 h3 => by rw [upd_ne h3]; exact hfr y h1 h2 h3, by omega⟩
  · rw [hb] at ch
    have hq := hL.hq
    have hrow : (vs.map fun v => [v])[to]? = some [vs[to]] := by simp [hv]
    have hsh := (hL.rows to hv).isL
    simp [h1, aload, afield, apart, hg, aindex, ht', ch, hq, hv]
    refine ACK.rt (ksame_ac hsh h (by have := hs to; omega)) ?_
    by_cases he : x.shapes.getD to [] = s
    · have e : goesL c x to s = (x, 0) := by simp only [goesL]; rw [if_neg h1', if_neg (by rw [hb]; simp), if_pos he]
      have he' := he
      simp only [List.getD_eq_getElem?_getD] at he'
      simp [he']
      rw [e]
      exact resK.rt ⟨vs, rfl, hL, FrG.refl _ _ _ _, Nat.le_refl _⟩
    · have e : goesL c x to s = (x, 10) := by simp only [goesL]; rw [if_neg h1', if_neg (by rw [hb]; simp), if_neg he]
      have he' := he
      simp only [List.getD_eq_getElem?_getD] at he'
      simp [he']
      rw [e]
      exact resK.rt ⟨vs, rfl, hL, FrG.refl _ _ _ _, Nat.le_refl _⟩
theorem goesL_all {c : Lc} {x : Lx} {to : Nat} {s : List Int} {P : List Int → Prop} (h : ∀ k, P (x.shapes.getD k [])) (hs : P s) : ∀ k, P ((goesL c x to s).1.shapes.getD k []) := by
  intro k
  unfold goesL
  split
  · exact h k
  · split
    · by_cases e : to = k
      · subst e
        by_cases hl : to < x.shapes.length
        · simp [List.getD_eq_getElem?_getD, hl]; exact hs
        · have := h to; rw [List.set_eq_of_length_le (by omega)]; exact this
      · have := h k; simp [List.getD_eq_getElem?_getD, List.getElem?_set_ne e] at this ⊢; exact this
    · split <;> exact h k
theorem tk_ints (s : List Int) : List.take s.length (ints s) = ints s := List.take_of_length_le (by simp [ints])
/-- a round of the clauses -/
structure RcI (c : Lc) (s : List Int) (t : Tbl) (x0 : Lx) (B g q n0 : Nat) (η0 : AHeap) (k : Nat) (x : Lx) (vs : List AVal) (η' : AHeap) (n' : Nat) : Prop where
  hk : k ≤ t.cls.length
  eq : recvL c t.tmo s (t.cls.drop k) x = recvL c t.tmo s t.cls x0
  lk : LkAt c x B g q vs η'
  fr : FrG n0 g q η0 η'
  le : n0 ≤ n'
  free : ∀ y, n' ≤ y → η' y = none
  sh : ∀ k, (x.shapes.getD k []).length ≤ 16
theorem LkAt.upd {c : Lc} {x : Lx} {B g q n r : Nat} {vs : List AVal} {η : AHeap} (h : LkAt c x B g q vs η) (hf : ∀ y, n ≤ y → η y = none) (hr : n ≤ r) (o : Option AObj) : LkAt c x B g q vs (upd η r o) := by
  have hgn : g < n := by
    rcases Nat.lt_or_ge g n with h' | h'
    · exact h'
    · have := h.hg; rw [hf g h'] at this; cases this
  have hqn : q < n := by
    rcases Nat.lt_or_ge q n with h' | h'
    · exact h'
    · have := h.hq; rw [hf q h'] at this; cases this
  have hk : FrG n g q η (Go.Proofs.YtbomkomipaipmaaGreat.upd η r o) := fun y h1 _ _ => upd_ne (by omega)
  exact ⟨by rw [upd_ne (by omega)]; exact h.hg, by rw [upd_ne (by omega)]; exact h.hq, h.gq, h.bg, h.bq, h.lh, h.lt, h.lv, h.ls, fun k hk' => (h.rows k hk').keep hf hk, h.big, h.apt⟩
theorem LkAt.keep {c : Lc} {x : Lx} {B g q n : Nat} {vs : List AVal} {η η' : AHeap} (h : LkAt c x B g q vs η) (hf : ∀ y, n ≤ y → η y = none) (hk : ∀ y, y < n → η' y = η y) : LkAt c x B g q vs η' := by
  have hgn : g < n := by
    rcases Nat.lt_or_ge g n with h' | h'
    · exact h'
    · have := h.hg; rw [hf g h'] at this; cases this
  have hqn : q < n := by
    rcases Nat.lt_or_ge q n with h' | h'
    · exact h'
    · have := h.hq; rw [hf q h'] at this; cases this
  exact ⟨by rw [hk g hgn]; exact h.hg, by rw [hk q hqn]; exact h.hq, h.gq, h.bg, h.bq, h.lh, h.lt, h.lv, h.ls, fun k hk' => (h.rows k hk').keep hf fun y h1 _ _ => hk y h1, h.big, h.apt⟩
theorem LkAt.lt' {c : Lc} {x : Lx} {B g q n : Nat} {vs : List AVal} {η : AHeap} (h : LkAt c x B g q vs η) (hf : ∀ y, n ≤ y → η y = none) : g < n ∧ q < n := by
  constructor
  · rcases Nat.lt_or_ge g n with h' | h'
    · exact h'
    · have := h.hg; rw [hf g h'] at this; cases this
  · rcases Nat.lt_or_ge q n with h' | h'
    · exact h'
    · have := h.hq; rw [hf q h'] at this; cases this
theorem lreceives_ac {c : Lc} {x : Lx} {B g q : Nat} {vs : List AVal} {η : AHeap} {n : Nat} {sv : AVal} {s : List Int} (t : Tbl) (hL : LkAt c x B g q vs η) (h0 : 0 < c.own.code.length) (h200 : c.own.code.length ≤ 200) (h : IsL η sv s) (hl : s.length ≤ 16) (hs : ∀ k, (x.shapes.getD k []).length ≤ 16)
    (ht : ∀ cl ∈ t.cls, 0 ≤ cl.1 ∧ 0 ≤ cl.2) (htl : t.cls.length ≤ 1000) :
    AC Tryz.prog 191 [.ptr g 0 0, .agg (tblC t), sv] η n (LkPost c (recvL c t.tmo s t.cls x).1 (recvL c t.tmo s t.cls x).2 B g q n η) := by
  refine AC.fresh fun hf => ?_; refine AC.enter Tryz.func191 rfl Tryz.ntmps191 (by simp) ?_
  have hL1 : ∀ o, LkAt c x B g q vs (upd η n o) := fun o => hL.upd hf (Nat.le_refl _) o
  have k0 : ∀ o, FrG n g q η (upd η n o) := fun o y hy _ _ => upd_ne (by omega)
  have hf0 : ∀ y, n + 1 ≤ y → upd η n (some (.cells 2 [tblC t])) y = none := fun y hy => by rw [upd_ne (by omega)]; exact hf y (by omega)
  simp [tblC, aload, afield, apart, upd_eq]
  refine loopK.inv [6, 8, 9, 10, 14, 15, 16, 17, 18, 19, 20, 21, 22, 23, 24, 25, 26, 27, 28, 29, 30, 31, 32, 33, 34, 35, 36, 37, 38, 39, 40, 41, 42, 43, 44, 45, 46, 47, 48, 49, 50, 51] (fun a : Nat × Lx × List AVal × AHeap × Nat => RcI c s t x B g q (n + 1) (upd η n (some (.cells 2 [tblC t]))) a.1 a.2.1 a.2.2.1 a.2.2.2.1 a.2.2.2.2) (fun a => [(14, .int .i64 a.1)]) (fun a => a.2.2.2.1) (fun a => a.2.2.2.2) (fun a => t.cls.length - a.1) (0, x, vs, upd η n (some (.cells 2 [tblC t])), n + 1) ⟨by simp, by simp, hL1 _, FrG.refl _ _ _ _, Nat.le_refl _, hf0, hs⟩ (by simp) (by simp [tblC, AHeap.le]) (by simp) ?_
  intro ⟨k, x', vs', η', n'⟩ hI
  replace hI : RcI c s t x B g q (n + 1) (upd η n (some (.cells 2 [tblC t]))) k x' vs' η' n' := hI
  simp
  refine CondP.dec (fun h1 => ?_) (fun h1 => ?_)
  · have h1' : k < t.cls.length := by omega
    have hcl := ht t.cls[k] (List.getElem_mem ..)
    obtain ⟨⟨a, ea⟩, ⟨b, eb⟩⟩ : (∃ a : Nat, t.cls[k].1 = a) ∧ ∃ b : Nat, t.cls[k].2 = b := ⟨⟨t.cls[k].1.toNat, by omega⟩, ⟨t.cls[k].2.toNat, by omega⟩⟩
    have hg1 : ∀ o, upd η' n' o g = some (.cells 408 [lookC c (.sl q 0 vs'.length) x'.has x'.todo]) := fun o => (hI.lk.upd hI.free (Nat.le_refl _) o).hg
    simp [h1, aindex, aload, apart, astore, upd_eq, upd_upd, ea, eb]
    refine drawK.intro mixed [(0, []), (1, []), (2, []), (3, []), (4, []), (5, []), (6, []), (7, []), (8, [])] (by kernel_rfl) ?_
    simp [aload, afield, apart, upd_eq, hg1]
    have hfr : FrG n g q η η' := (k0 _).trans hI.fr (by omega)
    have hn' := hI.le
    have hd : recvL c t.tmo s (t.cls.drop k) x' = recvL c t.tmo s (t.cls[k] :: t.cls.drop (k + 1)) x' := by rw [← List.drop_eq_getElem_cons h1']
    have hrs := hI.eq
    rw [hd, recvL] at hrs
    have hsv : IsL η' sv s := hL.keepL h0 h hf hfr
    have hs1 : ∀ o, IsL (upd η' n' o) sv s := fun o => hsv.keep hI.free fun r hr => upd_ne (by omega)
    refine CondP.dec (fun h2 => ?_) (fun h2 => ?_)
    · simp [h2]
      rw [if_pos (by rw [ea]; omega)] at hrs
      rw [← hrs]
      exact resK.same ⟨vs', rfl, hI.lk.upd hI.free (Nat.le_refl _) _, fun y h1 h2 h3 => by rw [upd_ne (by omega)]; exact hfr y h1 h2 h3, by omega⟩ (Nat.le_refl _)
    · have h2' : a < c.own.msgs.length := by omega
      rw [if_neg (by rw [ea]; omega)] at hrs
      have em : c.own.msgs.getD t.cls[k].1.toNat 0 = c.own.msgs[a] := by rw [ea]; simp [List.getD_eq_getElem?_getD, h2']
      rw [em, eb] at hrs
      simp [h2]
      refine drawK.intro2 mixed [(0, []), (2, []), (3, []), (4, []), (5, []), (6, []), (7, []), (8, []), (9, []), (10, []), (1, [6, 8, 9, 10]), (11, [1]), (12, []), (13, [])] [(0, []), (2, []), (3, []), (4, []), (5, []), (6, []), (7, []), (8, []), (9, []), (10, []), (11, []), (1, [6, 8, 9, 10, 11]), (12, []), (13, [])] 1 11 (by kernel_rfl) ?_ ?_
      · simp [aload, afield, apart, upd_eq, hg1, aindex, h2']
        refine ACK.use (cloneT_ac (hs1 _) (by omega)).freshP ?_
        intro r η2 n2 ⟨⟨d, e1, hd, hd1, hd2, hk1⟩, hf1⟩
        subst e1
        have hlt := hI.lk.lt' hI.free
        have hg2 : η2 g = some (.cells 408 [lookC c (.sl q 0 vs'.length) x'.has x'.todo]) := by rw [hk1 g (by omega)]; exact hg1 _
        have hn2 : η2 n' = some (.cells 2 [[.int .i64 a, .int .i64 b]]) := by rw [hk1 n' (by omega), upd_eq]
        have hdn : d ≠ n2 := by omega
        have hb1 : (s.length + 1) * 8 ≤ 140737488355328 := by omega
        have hb2 : s.length + 1 ≤ 17592186044416 := by omega
        have hk3 : ∀ y, y < n' → (Go.Proofs.YtbomkomipaipmaaGreat.upd (Go.Proofs.YtbomkomipaipmaaGreat.upd (Go.Proofs.YtbomkomipaipmaaGreat.upd η2 n2 (some (.cells 1 [[.int .i64 c.own.msgs[a]]]))) d none) (n2 + 1) (some (.cells 1 (ints s ++ [[.int .i64 c.own.msgs[a]]])))) y = η' y := fun y hy => by rw [upd_ne (by omega), upd_ne (by omega), upd_ne (by omega), hk1 y (by omega), upd_ne (by omega)]
        have hn3 : (Go.Proofs.YtbomkomipaipmaaGreat.upd (Go.Proofs.YtbomkomipaipmaaGreat.upd (Go.Proofs.YtbomkomipaipmaaGreat.upd η2 n2 (some (.cells 1 [[.int .i64 c.own.msgs[a]]]))) d none) (n2 + 1) (some (.cells 1 (ints s ++ [[.int .i64 c.own.msgs[a]]])))) n' = some (.cells 2 [[.int .i64 a, .int .i64 b]]) := by rw [upd_ne (by omega), upd_ne (by omega), upd_ne (by omega), hn2]
        have hL3 := hI.lk.keep hI.free hk3
        have hx3 : IsL (Go.Proofs.YtbomkomipaipmaaGreat.upd (Go.Proofs.YtbomkomipaipmaaGreat.upd (Go.Proofs.YtbomkomipaipmaaGreat.upd η2 n2 (some (.cells 1 [[.int .i64 c.own.msgs[a]]]))) d none) (n2 + 1) (some (.cells 1 (ints s ++ [[.int .i64 c.own.msgs[a]]])))) (.sl (n2 + 1) 0 (s.length + 1)) (s ++ [c.own.msgs[a]]) := IsL.own1 (by simp) (by rw [upd_eq]; simp [ints])
        simp [lk_some, chkK, hg2, hn2, h2', abuildS, afillP, tek, chunk, appK, aappend, arows, upd_eq, upd_ne hdn, hd, ints_length, lenMax, hb1, hb2, tk_ints]
        refine CondP.dec (fun h3 => ?_) (fun h3 => ?_)
        · simp [h3]
          rw [if_pos (by omega)] at hrs
          rw [← hrs]
          exact resK.same ⟨vs', rfl, hL3, fun y h1 h2 h3 => by rw [hk3 y (by omega)]; exact hfr y h1 h2 h3, by omega⟩ (Nat.le_refl _)
        · rw [if_neg (by omega)] at hrs
          simp [h3, aload, afield, apart, hn3]
          refine ACK.use (lgoes_ac b hL3 h0 h200 hx3 (by simp; omega) fun k => by have := hI.sh k; omega).freshP ?_
          intro r4 η4 n4 ⟨⟨vs4, e4, hL4, hfr4, hn4⟩, hf4⟩
          subst e4
          have hfr5 : FrG n g q η η4 := fun y h1 h2 h3 => by rw [hfr4 y (by omega) h2 h3, hk3 y (by omega)]; exact hfr y h1 h2 h3
          have hfr6 : FrG (n + 1) g q (Go.Proofs.YtbomkomipaipmaaGreat.upd η n (some (.cells 2 [tblC t]))) η4 := fun y h1 h2 h3 => by rw [hfr4 y (by omega) h2 h3, hk3 y (by omega)]; exact hI.fr y h1 h2 h3
          simp
          have et : (b : Int).toNat = b := by omega
          rw [et] at hrs
          by_cases h5 : (goesL c x' b (s ++ [c.own.msgs[a]])).2 = 0
          · rw [if_pos h5] at hrs
            have ew : IntKind.i64.wrap ((k : Int) + 1) = (k : Int) + 1 := wrap_id (by omega) (by omega)
            simp [h5, ew]
            exact endK.intro (k + 1, _, vs4, η4, n4) (⟨by show k + 1 ≤ _; omega, hrs, hL4, hfr6, by show n + 1 ≤ n4; omega, hf4, goesL_all (P := fun l => l.length ≤ 16) hI.sh (by show (s ++ [c.own.msgs[a]]).length ≤ 16; simp; omega)⟩ : RcI c s t x B g q (n + 1) (Go.Proofs.YtbomkomipaipmaaGreat.upd η n (some (.cells 2 [tblC t]))) (k + 1) (goesL c x' b (s ++ [c.own.msgs[a]])).1 vs4 η4 n4) (by simp) (by repeat (first | exact Agree.mask _ _ | refine Agree.setf rfl ?_ | refine Agree.inner rfl ?_)) (AHeap.le_rfl _) (Nat.le_refl _) (show t.cls.length - (k + 1) < t.cls.length - k by omega)
          · rw [if_neg h5] at hrs
            simp [h5]
            rw [← hrs]
            exact resK.same ⟨vs4, rfl, hL4, hfr5, by omega⟩ (Nat.le_refl _)
      · simp [aload, afield, apart, upd_eq, hg1, aindex, h2', abuildS, afillP, tek, chunk]
        have hs2 : ∀ o o', IsL (Go.Proofs.YtbomkomipaipmaaGreat.upd (Go.Proofs.YtbomkomipaipmaaGreat.upd η' n' o) (n' + 1) o') sv s := fun o o' => hsv.keep hI.free fun r hr => by rw [upd_ne (by omega), upd_ne (by omega)]
        refine ACK.use (cloneT_ac (hs2 _ _) (by omega)).freshP ?_
        intro r η2 n2 ⟨⟨d, e1, hd, hd1, hd2, hk1⟩, hf1⟩
        subst e1
        have hlt := hI.lk.lt' hI.free
        have hg2 : η2 g = some (.cells 408 [lookC c (.sl q 0 vs'.length) x'.has x'.todo]) := by rw [hk1 g (by omega), upd_ne (by omega)]; exact hg1 _
        have hn2 : η2 n' = some (.cells 2 [[.int .i64 a, .int .i64 b]]) := by rw [hk1 n' (by omega), upd_ne (by omega), upd_eq]
        have hm2 : η2 (n' + 1) = some (.cells 1 [[.int .i64 c.own.msgs[a]]]) := by rw [hk1 _ (by omega), upd_eq]
        have hdn : d ≠ n2 := by omega
        have hb1 : (s.length + 1) * 8 ≤ 140737488355328 := by omega
        have hb2 : s.length + 1 ≤ 17592186044416 := by omega
        have hk3 : ∀ y, y < n' → (Go.Proofs.YtbomkomipaipmaaGreat.upd (Go.Proofs.YtbomkomipaipmaaGreat.upd η2 d none) n2 (some (.cells 1 (ints s ++ [[.int .i64 c.own.msgs[a]]])))) y = η' y := fun y hy => by rw [upd_ne (by omega), upd_ne (by omega), hk1 y (by omega), upd_ne (by omega), upd_ne (by omega)]
        have hn3 : (Go.Proofs.YtbomkomipaipmaaGreat.upd (Go.Proofs.YtbomkomipaipmaaGreat.upd η2 d none) n2 (some (.cells 1 (ints s ++ [[.int .i64 c.own.msgs[a]]])))) n' = some (.cells 2 [[.int .i64 a, .int .i64 b]]) := by rw [upd_ne (by omega), upd_ne (by omega), hn2]
        have hL3 := hI.lk.keep hI.free hk3
        have hx3 : IsL (Go.Proofs.YtbomkomipaipmaaGreat.upd (Go.Proofs.YtbomkomipaipmaaGreat.upd η2 d none) n2 (some (.cells 1 (ints s ++ [[.int .i64 c.own.msgs[a]]])))) (.sl (n2) 0 (s.length + 1)) (s ++ [c.own.msgs[a]]) := IsL.own1 (by simp) (by rw [upd_eq]; simp [ints])
        simp [lk_some, chkK, hg2, hn2, hm2, h2', appK, aappend, arows, hd, ints_length, lenMax, hb1, hb2, tk_ints]
        refine CondP.dec (fun h3 => ?_) (fun h3 => ?_)
        · simp [h3]
          rw [if_pos (by omega)] at hrs
          rw [← hrs]
          exact resK.same ⟨vs', rfl, hL3, fun y h1 h2 h3 => by rw [hk3 y (by omega)]; exact hfr y h1 h2 h3, by omega⟩ (Nat.le_refl _)
        · rw [if_neg (by omega)] at hrs
          simp [h3, aload, afield, apart, hn3]
          refine ACK.use (lgoes_ac b hL3 h0 h200 hx3 (by simp; omega) fun k => by have := hI.sh k; omega).freshP ?_
          intro r4 η4 n4 ⟨⟨vs4, e4, hL4, hfr4, hn4⟩, hf4⟩
          subst e4
          have hfr5 : FrG n g q η η4 := fun y h1 h2 h3 => by rw [hfr4 y (by omega) h2 h3, hk3 y (by omega)]; exact hfr y h1 h2 h3
          have hfr6 : FrG (n + 1) g q (Go.Proofs.YtbomkomipaipmaaGreat.upd η n (some (.cells 2 [tblC t]))) η4 := fun y h1 h2 h3 => by rw [hfr4 y (by omega) h2 h3, hk3 y (by omega)]; exact hI.fr y h1 h2 h3
          simp
          have et : (b : Int).toNat = b := by omega
          rw [et] at hrs
          by_cases h5 : (goesL c x' b (s ++ [c.own.msgs[a]])).2 = 0
          · rw [if_pos h5] at hrs
            have ew : IntKind.i64.wrap ((k : Int) + 1) = (k : Int) + 1 := wrap_id (by omega) (by omega)
            simp [h5, ew]
            exact endK.intro (k + 1, _, vs4, η4, n4) (⟨by show k + 1 ≤ _; omega, hrs, hL4, hfr6, by show n + 1 ≤ n4; omega, hf4, goesL_all (P := fun l => l.length ≤ 16) hI.sh (by show (s ++ [c.own.msgs[a]]).length ≤ 16; simp; omega)⟩ : RcI c s t x B g q (n + 1) (Go.Proofs.YtbomkomipaipmaaGreat.upd η n (some (.cells 2 [tblC t]))) (k + 1) (goesL c x' b (s ++ [c.own.msgs[a]])).1 vs4 η4 n4) (by simp) (by repeat (first | exact Agree.mask _ _ | refine Agree.setf rfl ?_ | refine Agree.inner rfl ?_)) (AHeap.le_rfl _) (Nat.le_refl _) (show t.cls.length - (k + 1) < t.cls.length - k by omega)
          · rw [if_neg h5] at hrs
            simp [h5]
            rw [← hrs]
            exact resK.same ⟨vs4, rfl, hL4, hfr5, by omega⟩ (Nat.le_refl _)
  · have hk : k = t.cls.length := by have := hI.hk; omega
    have hrs := hI.eq
    have hfr : FrG n g q η η' := (k0 _).trans hI.fr (by omega)
    have hn' := hI.le
    have hlt := hL.lt' hf
    have hn : η' n = some (.cells 2 [tblC t]) := by rw [hI.fr n (by omega) (by omega) (by omega), upd_eq]
    have hsv : IsL η' sv s := hL.keepL h0 h hf hfr
    rw [hk, List.drop_length, recvL] at hrs
    simp [h1, aload, afield, apart, hn, tblC]
    refine CondP.dec (fun h2 => ?_) (fun h2 => ?_)
    · rw [if_pos h2] at hrs
      simp [h2]
      rw [← hrs]
      exact resK.same ⟨vs', rfl, hI.lk, hfr, by omega⟩ (Nat.le_refl _)
    · rw [if_neg h2] at hrs
      obtain ⟨b, eb⟩ : ∃ b : Nat, t.tmo = b := ⟨t.tmo.toNat, by omega⟩
      rw [show t.tmo.toNat = b by omega] at hrs
      simp [aload, afield, apart, hn, tblC, eb]
      refine ACK.use (lgoes_ac b hI.lk h0 h200 hsv (by omega) fun k => by have := hI.sh k; omega) ?_
      intro r4 η4 n4 ⟨vs4, e4, hL4, hfr4, hn4⟩
      subst e4
      simp
      rw [← hrs]
      exact resK.same ⟨vs4, rfl, hL4, hfr.trans hfr4 (by omega), by omega⟩ (Nat.le_refl _)
end Go.Proofs.YtbomkomipaipmaaGreat
namespace Go.Proofs.YtbomkomipaipmaaGreat
set_option maxRecDepth 100000

/-- the look is at an actor of a module that is right -/
structure LcOK (c : Lc) : Prop where
  own : c.own = actr c.m c.k
  kl : c.k < c.m.length
  ml : c.m.length ≤ 8
  few : ∀ a ∈ c.m, littleF a = true
  ok : ∀ a ∈ c.m, rightA a c.m.length = true
theorem lcOK_of {m : List Actr} {k : Nat} (h : rightM m = 0) (hk : k < m.length) : LcOK ⟨m, k, actr m k⟩ := by
  unfold rightM at h
  split at h
  · cases h
  · rename_i h1
    split at h
    · cases h
    · rename_i h2
      refine ⟨rfl, hk, by show m.length ≤ 8; omega, fun a ha => ?_, fun a ha => ?_⟩
      · have : m.all littleF = true := by
          cases hh : m.all littleF
          · exact absurd (Or.inr hh) h1
          · rfl
        exact List.all_eq_true.1 this a ha
      · have : (m.all fun a => rightA a m.length) = true := by
          cases hh : m.all fun a => rightA a m.length
          · exact absurd (Or.inr (Or.inr hh)) h2
          · rfl
        exact List.all_eq_true.1 this a ha
theorem actr_mem {m : List Actr} {k : Nat} (h : k < m.length) : actr m k ∈ m := by
  unfold actr
  have e : m.getD (Int.toNat (k : Int)) ⟨[], [], [], [], []⟩ = m[k] := by simp [List.getD_eq_getElem?_getD, h]
  rw [e]; exact List.getElem_mem ..
structure ActOK (n : Nat) (a : Actr) : Prop where
  ty : TyOK n (a.params ++ a.regs ++ a.msgs)
  c0 : 0 < a.code.length
  c200 : a.code.length ≤ 200
  pl : a.params.length ≤ 4
  rl : a.regs.length ≤ 16
  ml : a.msgs.length ≤ 8
  tl : a.tabs.length ≤ 8
  code : ∀ i ∈ a.code, rightI i = true
  tabs : ∀ t ∈ a.tabs, t.cls.length ≤ 8 ∧ (∀ cl ∈ t.cls, 0 ≤ cl.1 ∧ 0 ≤ cl.2) ∧ (t.tmo = -1 ∨ (0 ≤ t.tmo ∧ t.tmo < 200))
theorem actOK_of {n : Nat} {a : Actr} (h1 : littleF a = true) (h2 : rightA a n = true) : ActOK n a := by
  unfold littleF at h1
  unfold rightA at h2
  simp only [Bool.and_eq_true, decide_eq_true_eq] at h1 h2
  obtain ⟨h1, l1, l2, l3, l4, l5⟩ := h1
  obtain ⟨t1, ⟨t2, t3⟩, t4, t5, t6⟩ := h2
  refine ⟨fun x hx => List.all_eq_true.1 t1 x hx, List.length_pos_iff.2 t2, l4, l1, l2, l3, l5, fun i hi => List.all_eq_true.1 t4 i hi, fun t ht => ?_⟩
  have k1 := List.all_eq_true.1 t5 t ht
  have k2 := List.all_eq_true.1 h1 t ht
  unfold tableOK at k1
  simp only [Bool.and_eq_true, decide_eq_true_eq] at k1 k2
  refine ⟨k2, fun cl hcl => ?_, k1.2⟩
  have := List.all_eq_true.1 k1.1 cl hcl
  simp only [clauseOK, decide_eq_true_eq] at this
  exact ⟨this.1, this.2.2.1⟩
theorem LcOK.act {c : Lc} (h : LcOK c) {k : Nat} (hk : k < c.m.length) : ActOK c.m.length (actr c.m k) := actOK_of (h.few _ (actr_mem hk)) (h.ok _ (actr_mem hk))
theorem LcOK.ownA {c : Lc} (h : LcOK c) : ActOK c.m.length c.own := by rw [h.own]; exact h.act h.kl
theorem LcOK.par {c : Lc} (h : LcOK c) (k : Int) : (actr c.m k).params.length ≤ 4 := by
  by_cases hk : k.toNat < c.m.length
  · have e : actr c.m k = actr c.m (k.toNat : Nat) := rfl
    rw [e]; exact (h.act hk).pl
  · have : actr c.m k = ⟨[], [], [], [], []⟩ := by unfold actr; rw [List.getD_eq_getElem?_getD, List.getElem?_eq_none (by omega)]; rfl
    rw [this]; simp
theorem rightI_bd {i : Int × Int} (h : rightI i = true) : (0 ≤ i.2 ∨ i.1 = 1) ∧ (i.2 < 9223372036854775807 ∨ i.1 = 1) := by
  simp only [rightI, decide_eq_true_eq] at h
  have : countI i.1 ≤ 200 := by unfold countI; repeat' split
                                all_goals omega
  omega
def XOK (c : Lc) (x : Lx) : Prop := ∀ k, TyOK c.m.length (x.shapes.getD k []) ∧ (x.shapes.getD k []).length ≤ 16
theorem TyOK.app {n : Nat} {a b : List Int} (h1 : TyOK n a) (h2 : TyOK n b) : TyOK n (a ++ b) := fun x hx => (List.mem_append.1 hx).elim (h1 x) (h2 x)
theorem TyOK.sub {n : Nat} {a b : List Int} (h1 : TyOK n a) (h2 : ∀ x ∈ b, x ∈ a) : TyOK n b := fun x hx => h1 x (h2 x hx)
theorem TyOK.one {n : Nat} {x : Int} (h : rightT x n = true) : TyOK n [x] := fun y hy => by simp at hy; subst hy; exact h
theorem TyOK.nil (n : Nat) : TyOK n [] := fun y hy => by simp at hy
theorem TyOK.getD {n : Nat} {l : List Int} (h : TyOK n l) {k : Nat} (hk : k < l.length) : rightT (l.getD k 0) n = true := by
  have : l.getD k 0 = l[k] := by simp [List.getD_eq_getElem?_getD, hk]
  rw [this]; exact h _ (List.getElem_mem ..)
theorem rightT_pid {j n : Nat} (h : j < n) (h8 : n ≤ 8) : rightT (16 + (j : Int)) n = true := by simp only [rightT, decide_eq_true_eq]; omega
theorem effL_ok {c : Lc} (h : LcOK c) {i : Int × Int} (hi : rightI i = true) (hn : namesL c i = true) : TyOK c.m.length (effL c i).2 := by
  have hb := rightI_bd hi
  have t1 : rightT 1 c.m.length = true := by simp [rightT]
  have t2 : rightT 2 c.m.length = true := by simp [rightT]
  have ho := h.ownA
  have hreg : i.1 = 4 ∨ i.1 = 5 → TyOK c.m.length [c.own.regs.getD i.2.toNat 0] := fun hh => by
    have : i.2 < c.own.regs.length := by simpa [namesL, hh] using hn
    have hr : TyOK c.m.length c.own.regs := ho.ty.sub fun x hx => by simp [hx]
    exact TyOK.one (hr.getD (by omega))
  unfold effL
  by_cases a1 : i.1 = 1
  · rw [if_pos a1]; exact TyOK.one t1
  rw [if_neg a1]
  by_cases a2 : i.1 = 2 ∨ i.1 = 3
  · rw [if_pos a2]; exact TyOK.one t2
  rw [if_neg a2]
  by_cases a3 : i.1 = 4
  · rw [if_pos a3]; exact hreg (Or.inl a3)
  rw [if_neg a3]
  by_cases a4 : i.1 = 5
  · rw [if_pos a4]; exact TyOK.nil _
  rw [if_neg a4]
  by_cases a5 : 6 ≤ i.1 ∧ i.1 ≤ 10
  · rw [if_pos a5]; exact TyOK.one t1
  rw [if_neg a5]
  by_cases a6 : i.1 = 11 ∨ i.1 = 12
  · rw [if_pos a6]; exact TyOK.one t2
  rw [if_neg a6]
  by_cases a7 : i.1 = 13
  · rw [if_pos a7]; exact TyOK.one t2
  rw [if_neg a7]
  by_cases a8 : i.1 = 14 ∨ i.1 = 15
  · rw [if_pos a8]; exact TyOK.one t2
  rw [if_neg a8]
  by_cases a9 : i.1 = 17
  · rw [if_pos a9]; exact TyOK.nil _
  rw [if_neg a9]
  by_cases b1 : i.1 = 18
  · rw [if_pos b1]; exact TyOK.one (rightT_pid h.kl h.ml)
  rw [if_neg b1]
  by_cases b2 : i.1 = 19
  · rw [if_pos b2]
    have : i.2 < c.m.length := by simpa [namesL, b2] using hn
    have e : i.2 = ((i.2.toNat : Nat) : Int) := by omega
    rw [e]; exact TyOK.one (rightT_pid (by omega) h.ml)
  rw [if_neg b2]
  split <;> exact TyOK.nil _
theorem popL_ok {n : Nat} {s w : List Int} (h : TyOK n s) : TyOK n (popL s w).1 := by
  unfold popL
  split
  · exact TyOK.nil _
  · split
    · exact h.sub fun x hx => List.mem_of_mem_take hx
    · exact TyOK.nil _
theorem sendL_ok {c : Lc} {a : Int} {s : List Int} (h : TyOK c.m.length s) : TyOK c.m.length (sendL c a s).1 := by
  unfold sendL
  split
  · exact TyOK.nil _
  · split
    · exact TyOK.nil _
    · split
      · exact h.sub fun x hx => List.mem_of_mem_take hx
      · exact TyOK.nil _
theorem high_ok {o : List Int} {e : Int} (h : (high o e).2 = 0) : o.length ≤ 16 := by
  unfold high at h
  simp only at h
  by_cases g : e = 0 ∧ 16 < o.length
  · rw [if_pos g] at h; cases h
  · rw [if_neg g] at h; omega
theorem behL_ok {c : Lc} (hc : LcOK c) {i : Int × Int} {s : List Int} (hi : rightI i = true) (hs : TyOK c.m.length s) (hl : s.length ≤ 16) (h0 : (behL c i s).2 = 0) : TyOK c.m.length (behL c i s).1 ∧ (behL c i s).1.length ≤ 16 ∧ namesL c i = true := by
  unfold behL at *
  by_cases a1 : namesL c i = false
  · rw [if_pos a1] at h0; cases h0
  rw [if_neg a1] at h0 ⊢
  have hn : namesL c i = true := by simpa using a1
  by_cases a2 : i.1 = 20
  · rw [if_pos a2] at h0 ⊢
    exact ⟨sendL_ok hs, Nat.le_trans (sendL_len ..) hl, hn⟩
  rw [if_neg a2] at h0 ⊢
  by_cases a3 : i.1 = 22 ∨ i.1 = 25 ∨ i.1 = 26
  · rw [if_pos a3] at h0 ⊢
    by_cases a4 : s = []
    · rw [if_pos a4] at h0; cases h0
    rw [if_neg a4] at h0 ⊢
    by_cases a5 : i.1 = 22 ∧ (actT (s.getLastD 0)).2 = false
    · rw [if_pos a5] at h0; cases h0
    rw [if_neg a5] at h0 ⊢
    have hp : 0 < s.length := List.length_pos_iff.2 a4
    have hk : s.length - 1 < s.length := by omega
    have eg : s.getLastD 0 = s[s.length - 1] := by rw [List.getLastD_eq_getLast?, List.getLast?_eq_getElem?, List.getElem?_eq_getElem hk, Option.getD_some]
    refine ⟨?_, high_ok h0, hn⟩
    unfold high
    simp only
    split
    · rw [eg]; exact hs.app (TyOK.one (hs _ (List.getElem_mem ..)))
    · exact hs.sub fun x hx => List.dropLast_subset _ hx
  · rw [if_neg a3] at h0 ⊢
    exact ⟨(popL_ok hs).app (effL_ok hc hi hn), high_ok h0, hn⟩
theorem goesL_ok {c : Lc} {x : Lx} {to : Nat} {s : List Int} (h : XOK c x) (hs : TyOK c.m.length s) (hl : s.length ≤ 16) : XOK c (goesL c x to s).1 := goesL_all (P := fun l => TyOK c.m.length l ∧ l.length ≤ 16) h ⟨hs, hl⟩
theorem FrG.upd {n g q r : Nat} {η η' : AHeap} (h : FrG n g q η η') (hr : n ≤ r) (o : Option AObj) : FrG n g q η (Go.Proofs.YtbomkomipaipmaaGreat.upd η' r o) := fun y h1 h2 h3 => by rw [upd_ne (by omega)]; exact h y h1 h2 h3
theorem XOK.len {c : Lc} {x : Lx} (h : XOK c x) (k : Nat) : (x.shapes.getD k []).length ≤ 1000 := by have := (h k).2; omega
theorem lat_ac {c : Lc} {x : Lx} {B g q : Nat} {vs : List AVal} {η : AHeap} {n : Nat} (p : Nat) (hc : LcOK c) (hL : LkAt c x B g q vs η) (hp : p < c.own.code.length) (hx : XOK c x) :
    AC Tryz.prog 139 [.ptr g 0 0, .int .i64 p] η n (LkPost c (atL c x p).1 (atL c x p).2 B g q n η) := by
  have ho := hc.ownA
  have h0 := ho.c0
  have h200 := ho.c200
  have hi0 : rightI c.own.code[p] = true := ho.code _ (List.getElem_mem ..)
  have ei : c.own.code.getD p (0, 0) = c.own.code[p] := by simp [List.getD_eq_getElem?_getD, hp]
  rcases hcp : c.own.code[p] with ⟨op, a⟩
  rw [hcp] at hi0 ei
  have hb := rightI_bd hi0
  have hpv : p < vs.length := by rw [hL.lv]; exact hp
  have hml := hc.ml
  have hkl := hc.kl
  have hsp := (hL.rows p hpv).isL
  have hok := fun h => behL_ok (s := x.shapes.getD p []) hc hi0 (hx p).1 (hx p).2 h
  have hg := hL.hg
  have hq := hL.hq
  refine AC.fresh fun hf => ?_; refine AC.enter Tryz.func139 rfl Tryz.ntmps139 (by simp) ?_
  have hlt := hL.lt' hf
  have hL1 : ∀ o, LkAt c x B g q vs (upd η n o) := fun o => hL.upd hf (Nat.le_refl _) o
  have fr1 : ∀ o, FrG n g q η (upd η n o) := fun o => (FrG.refl n g q η).upd (Nat.le_refl _) o
  have hsp1 : ∀ o, IsL (upd η n o) vs[p] (x.shapes.getD p []) := fun o => ((hL1 o).rows p hpv).isL
  simp [aload, afield, apart, hg, aindex, hp, hcp, astore, upd_eq, upd_upd]
  refine drawK.intro mixed [(0, []), (1, []), (2, []), (3, []), (4, []), (5, []), (6, []), (7, []), (8, []), (9, []), (10, []), (11, []), (12, []), (13, []), (14, [])] (by kernel_rfl) ?_
  simp [aload, afield, apart, upd_eq, (hL1 _).hg, (hL1 _).hq, aindex, hpv]
  have hbeh := fun m => lbehind_ac (n := m) (op, a) hb.1 hb.2 (by omega) (by omega) (fun k => by have := hc.par k; omega) (hL1 (some (.cells 2 [[.int .i64 op, .int .i64 a]]))).hg (hsp1 _) (hx p).1 (by have := (hx p).2; omega)
  refine ACK.pe (hbeh _) fun v hv => ?_
  simp
  have e0 : atL c x p = (if (behL c (op, a) (x.shapes.getD p [])).2 ≠ 0 then (x, (behL c (op, a) (x.shapes.getD p [])).2) else if op = 0 ∨ op = 23 then (x, 0) else if op = 16 then goesL c x a.toNat (behL c (op, a) (x.shapes.getD p [])).1
    else if op = 21 then recvL c (tbl c.own a).tmo (behL c (op, a) (x.shapes.getD p [])).1 (tbl c.own a).cls x
    else if op = 17 then (if (goesL c x a.toNat (behL c (op, a) (x.shapes.getD p [])).1).2 = 0 then goesL c (goesL c x a.toNat (behL c (op, a) (x.shapes.getD p [])).1).1 (p + 1) (behL c (op, a) (x.shapes.getD p [])).1 else goesL c x a.toNat (behL c (op, a) (x.shapes.getD p [])).1)
    else goesL c x (p + 1) (behL c (op, a) (x.shapes.getD p [])).1) := by unfold atL; rw [ei]
  by_cases he : (behL c (op, a) (x.shapes.getD p [])).2 = 0
  rotate_left
  · rw [if_pos he] at e0
    simp only [List.getD_eq_getElem?_getD] at he
    simp [he]
    rw [e0]
    simp only
    exact resK.same ⟨vs, rfl, hL1 _, fr1 _, by omega⟩ (Nat.le_refl _)
  obtain ⟨k1, k2, k3⟩ := hok he
  rw [if_neg (by simpa using he)] at e0
  generalize hout : (behL c (op, a) (x.shapes.getD p [])).1 = out at *
  simp only [List.getD_eq_getElem?_getD] at he
  simp [he, aload, afield, apart, upd_eq]
  have hA : 0 ≤ a ∨ op = 1 := hb.1
  by_cases w0 : op = 0
  · rw [if_pos (Or.inl w0)] at e0
    simp [eq_true w0]
    rw [e0]
    exact resK.same ⟨vs, rfl, hL1 _, fr1 _, by omega⟩ (Nat.le_refl _)
  by_cases w23 : op = 23
  · rw [if_pos (Or.inr w23)] at e0
    simp [w0, eq_true w23]
    rw [e0]
    exact resK.same ⟨vs, rfl, hL1 _, fr1 _, by omega⟩ (Nat.le_refl _)
  rw [if_neg (by omega)] at e0
  by_cases w16 : op = 16
  · rw [if_pos w16] at e0
    obtain ⟨b, rfl⟩ : ∃ b : Nat, a = b := ⟨a.toNat, by omega⟩
    rw [show (b : Int).toNat = b by omega] at e0
    simp [w0, w23, eq_true w16, aload, afield, apart, upd_eq]
    refine ACK.use (lgoes_ac b (hL1 _) h0 h200 hv (by omega) hx.len) ?_
    intro r4 η4 n4 ⟨vs4, e4, hL4, hfr4, hn4⟩
    subst e4
    simp
    rw [e0]
    exact resK.same ⟨vs4, rfl, hL4, (fr1 _).trans hfr4 (by omega), by omega⟩ (Nat.le_refl _)
  rw [if_neg w16] at e0
  by_cases w21 : op = 21
  · rw [if_pos w21] at e0
    have hn : a < c.own.tabs.length := by simpa [namesL, w21] using k3
    obtain ⟨b, rfl⟩ : ∃ b : Nat, a = b := ⟨a.toNat, by omega⟩
    have hb' : b < c.own.tabs.length := by omega
    have et : tbl c.own (b : Int) = c.own.tabs[b] := by simp [tbl, List.getD_eq_getElem?_getD, hb']
    have htt := ho.tabs c.own.tabs[b] (List.getElem_mem ..)
    rw [et] at e0
    simp [w0, w23, w16, eq_true w21]
    refine drawK.intro mixed [(0, []), (1, []), (2, []), (3, []), (4, []), (5, []), (6, []), (7, []), (8, []), (9, []), (10, []), (11, []), (12, [])] (by kernel_rfl) ?_
    have hrv := fun m => lreceives_ac (n := m) c.own.tabs[b] (hL1 _) h0 h200 hv (by omega) (fun k => (hx k).2) htt.2.1 (by omega)
    simp only [tblC] at hrv
    simp [aload, afield, apart, upd_eq, (hL1 _).hg, aindex, hb', tblsC, tblC]
    refine ACK.use (hrv _) ?_
    intro r4 η4 n4 ⟨vs4, e4, hL4, hfr4, hn4⟩
    subst e4
    have hlt4 : n < n4 := by omega
    have hnn : η4 n = some (.cells 2 [[.int .i64 op, .int .i64 b]]) := by rw [hfr4 n (by omega) (by omega) (by omega), upd_eq]
    simp
    rw [e0]
    exact resK.same ⟨vs4, rfl, hL4, (fr1 _).trans hfr4 (by omega), by omega⟩ (Nat.le_refl _)
  rw [if_neg w21] at e0
  by_cases w17 : op = 17
  · rw [if_pos w17] at e0
    obtain ⟨b, rfl⟩ : ∃ b : Nat, a = b := ⟨a.toNat, by omega⟩
    rw [show (b : Int).toNat = b by omega] at e0
    simp [w0, w23, w16, w21, eq_true w17, aload, afield, apart, upd_eq]
    refine ACK.use (lgoes_ac b (hL1 _) h0 h200 hv (by omega) hx.len).freshP ?_
    intro r4 η4 n4 ⟨⟨vs4, e4, hL4, hfr4, hn4⟩, hf4⟩
    subst e4
    by_cases h5 : (goesL c x b out).2 = 0
    · rw [if_pos h5] at e0
      have hv4 : IsL η4 v out := (hL1 _).keepL h0 hv (fun y hy => by rw [upd_ne (by omega)]; exact hf y (by omega)) hfr4
      have ew : IntKind.i64.wrap ((p : Int) + 1) = ((p + 1 : Nat) : Int) := by rw [wrap_id (by omega) (by omega)]; omega
      simp [h5, ew]
      refine ACK.use (lgoes_ac (p + 1) hL4 h0 h200 hv4 (by omega) (goesL_ok hx k1 k2).len) ?_
      intro r5 η5 n5 ⟨vs5, e5, hL5, hfr5, hn5⟩
      subst e5
      simp
      rw [e0]
      exact resK.same ⟨vs5, rfl, hL5, ((fr1 _).trans hfr4 (by omega)).trans hfr5 (by omega), by omega⟩ (Nat.le_refl _)
    · rw [if_neg h5] at e0
      simp [h5]
      rw [e0]
      exact resK.same ⟨vs4, rfl, hL4, (fr1 _).trans hfr4 (by omega), by omega⟩ (Nat.le_refl _)
  · rw [if_neg w17] at e0
    have ew : IntKind.i64.wrap ((p : Int) + 1) = ((p + 1 : Nat) : Int) := by rw [wrap_id (by omega) (by omega)]; omega
    simp [w0, w23, w16, w21, w17, ew]
    refine ACK.use (lgoes_ac (p + 1) (hL1 _) h0 h200 hv (by omega) hx.len) ?_
    intro r4 η4 n4 ⟨vs4, e4, hL4, hfr4, hn4⟩
    subst e4
    simp
    rw [e0]
    exact resK.same ⟨vs4, rfl, hL4, (fr1 _).trans hfr4 (by omega), by omega⟩ (Nat.le_refl _)
end Go.Proofs.YtbomkomipaipmaaGreat
