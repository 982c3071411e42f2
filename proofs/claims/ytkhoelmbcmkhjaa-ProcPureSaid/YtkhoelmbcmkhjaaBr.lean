/- From what an argument reads as to an abstract value; from an abstract contract to a law's row. No function of the program in sight. -/
import Derived.Test.YtkhoelmbcmkhjaaAj
import Derived.ProofKit
import Derived.LaidMore
import Derived.OpenShut
import Derived.Stop.Joined
import Derived.Carry
import Derived.SizedLaws
import Derived.Deep.Slices
namespace Go.Proofs.Ytkhoelmbcmkhjaa
open Go.ChangeShapes Go.WideShapes Go.ChangeAt Go.WideMaps Go.WideElems Go.RowKit

def own0 : Own := fun _ => none
def heap0 : AHeap := fun _ => none
theorem st0 (w : World) : St own0 (memOf w) heap0 0 w := by
  refine ⟨fun _ _ => rfl, fun r o (h : heap0 r = some o) => absurd h (by simp [heap0]), fun r r' p p' o o' _ (h : heap0 r = some o) => absurd h (by simp [heap0]), fun b arr h => ?_⟩
  unfold memOf at h
  split at h
  · rename_i a T z hb; cases h; exact ⟨T, z, hb⟩
  · cases h

theorem cell_mem {w : World} {b o : Nat} {v : Value} (h : w.cell? ⟨b, o, none⟩ = some v) : ∃ arr, memOf w b = some arr ∧ arr[o]? = some v := by
  unfold World.cell? at h
  unfold memOf
  simp only at h
  cases hb : w.heap[b]? with
  | none => rw [hb] at h; simp at h
  | some ob =>
    rw [hb] at h
    cases ob with
    | cells arr T z =>
      simp only [Option.isSome_none, Bool.false_eq_true, if_false] at h
      exact ⟨arr, rfl, h⟩
    | _ => simp at h

def Rep (w : World) (cs : List Value) (l : List AVal) : Prop := cs.length = l.length ∧ ∀ (j : Nat) (c : AVal), l[j]? = some c → VR own0 (memOf w) c (cs.getD j undef)

theorem Rep.nil (w : World) : Rep w [] [] := ⟨rfl, fun j c h => by simp at h⟩
theorem Rep.one {w : World} {v : Value} {c : AVal} (h : VR own0 (memOf w) c v) : Rep w [v] [c] := ⟨rfl, fun j d hj => by
  cases j with
  | zero => simp at hj; subst hj; exact h
  | succ j => simp at hj⟩
theorem Rep.append {w : World} {cs ds : List Value} {l m : List AVal} (h : Rep w cs l) (k : Rep w ds m) : Rep w (cs ++ ds) (l ++ m) := by
  refine ⟨by simp [h.1, k.1], fun j c hj => ?_⟩
  rw [List.getD_eq_getElem?_getD]
  rcases Nat.lt_or_ge j l.length with g | g
  · rw [List.getElem?_append_left g] at hj
    rw [List.getElem?_append_left (by rw [h.1]; exact g), ← List.getD_eq_getElem?_getD]
    exact h.2 j c hj
  · rw [List.getElem?_append_right g] at hj
    rw [List.getElem?_append_right (by rw [h.1]; exact g), ← List.getD_eq_getElem?_getD, h.1]
    exact k.2 _ c hj

/-- what reads as a type's datum stands for a known value -/
def Lies {α : Type} (P : Program) (w : World) (t : TypeId) (f : α → List AVal) (ok : α → Prop) : Prop :=
  ∀ (H : Type) (enc : TypeId × Value → H) (sp : Nat → Bool) (held : Bool) (fuel : Nat) (cs : List Value) (d : DataW H) (ps : List MemPlace), DataW.trod enc P w 0 sp held fuel t cs = some (d, ps) → (∀ n ∈ d.weights P t, n ≤ reachBytes) →
    ∃ x, ok x ∧ Rep w cs (f x)

section
variable {P : Program} {w : World} {α β : Type}
theorem Lies.map {t : TypeId} {f : α → List AVal} {ok : α → Prop} (h : Lies P w t f ok) (g : α → β) (f' : β → List AVal) (ok' : β → Prop) (hg : ∀ x, ok x → f x = f' (g x) ∧ ok' (g x)) : Lies P w t f' ok' := by
  intro H enc sp held fuel cs d ps h1 h2
  obtain ⟨x, h3, h4⟩ := h H enc sp held fuel cs d ps h1 h2
  obtain ⟨h5, h6⟩ := hg x h3
  exact ⟨g x, h6, h5 ▸ h4⟩
theorem lies_int {t : TypeId} {k : IntKind} (ht : P.underlying t = some (.int k)) : Lies P w t (fun x : Int => [.int k x]) (fun x => (Lit.int k x).wf = true) := by
  intro H enc sp held fuel cs d ps h _
  obtain ⟨x, rfl, _, h3⟩ := DataW.trod_int ht h
  exact ⟨x, h3, Rep.one (.int k x)⟩
theorem lies_i64 {t : TypeId} (ht : P.underlying t = some (.int .i64)) : Lies P w t (fun x : Int => [.int .i64 x]) I64 :=
  (lies_int ht).map _root_.id _ _ fun x h => ⟨rfl, by simp only [Lit.wf, Bool.and_eq_true, decide_eq_true_eq] at h; exact h⟩
theorem lies_bool {t : TypeId} (ht : P.underlying t = some .bool) : Lies P w t (fun x : Bool => [.bool x]) (fun _ => True) := by
  intro H enc sp held fuel cs d ps h _
  obtain ⟨x, rfl, _⟩ := DataW.trod_bool ht h
  exact ⟨x, trivial, Rep.one (.bool x)⟩
theorem lies_str {t : TypeId} (ht : P.underlying t = some .string) : Lies P w t (fun x : ByteArray => [.str x]) (fun x => x.size ≤ reachBytes) := by
  intro H enc sp held fuel cs d ps h hw
  obtain ⟨x, rfl, hd, _⟩ := DataW.trod_string ht h
  simp only [Prod.mk.injEq] at hd
  obtain ⟨rfl, -⟩ := hd
  refine ⟨x, ?_, Rep.one (.str x)⟩
  have := hw x.data.toList.length (by rw [DataW.weights]; exact List.mem_singleton.2 rfl)
  rw [Array.length_toList] at this
  exact this
theorem weightsAll_mem {H : Type} {P : Program} {e : TypeId} : ∀ {l : List (DataW H)} {i : Nat} {d : DataW H}, l[i]? = some d → ∀ n ∈ d.weights P e, n ∈ DataW.weightsAll P e l
  | d0 :: l, 0, d, h, n, hn => by
    simp only [List.getElem?_cons_zero, Option.some.injEq] at h
    subst h
    simp only [DataW.weightsAll, List.mem_append]
    exact Or.inl hn
  | d0 :: l, i + 1, d, h, n, hn => by
    simp only [List.getElem?_cons_succ] at h
    simp only [DataW.weightsAll, List.mem_append]
    exact Or.inr (weightsAll_mem h n hn)
  | [], _, _, h, _, _ => by simp at h
theorem lies_sliceB {t e : TypeId} {k : Nat} {f : α → List AVal} {ok : α → Prop} (ht : P.underlying t = some (.slice e)) (hc : P.cellsOf e = k) (hk : 0 < k) (hby : 8 ≤ P.bytesOf e) [Inhabited α] (he : Lies P w e f ok) :
    Lies P w t (fun l : List α => [.rs k (l.map f)]) (fun l => l.length * P.bytesOf e ≤ 140737488351232 ∧ l.length ≤ 17592186044416 ∧ ∀ x ∈ l, ok x) := by
  intro H enc sp held fuel cs d ps h hsz
  subst hc
  rcases Go.Deep.open_slice ht h with ⟨rfl, h2⟩ | ⟨a, len, cap, m, n, D, Pl, rfl, _, hl, hm, hmm, h2, hx⟩
  · refine ⟨[], ⟨by simp, by simp, by simp⟩, Rep.one ?_⟩
    exact .rs _ [] none 0 0 0 #[] (by simp) (by omega) (by simp [lenMax]) (fun h => absurd h (by simp)) (fun h => absurd h (by simp)) (fun i row h => by simp at h) (fun i j row c h => by simp at h) (fun i j row c h => by simp at h)
  · simp only [Prod.mk.injEq] at h2
    obtain ⟨rfl, -⟩ := h2
    have hlm : len ≤ m := by rw [hmm]; split <;> omega
    simp only [DataW.weights, ht] at hsz
    have hw0 := hsz _ (List.mem_cons_self)
    simp only [List.length_map, List.length_range] at hw0
    have hbyt : len * P.bytesOf e ≤ 140737488351232 := Nat.le_trans (Nat.mul_le_mul_right _ (by omega)) hw0
    have hlen : len ≤ 17592186044416 := by
      have h8 : (len + (m - len)) * 8 ≤ reachBytes := Nat.le_trans (Nat.mul_le_mul_left _ hby) hw0
      have : reachBytes = 140737488351232 := rfl
      omega
    obtain ⟨X, hX⟩ := Go.Deep.choose_lt (α := α) (n := len) (p := fun i x => ∃ cs', w.cells? 0 (a.add (i * P.cellsOf e)) (P.cellsOf e) = some cs' ∧ ok x ∧ Rep w cs' (f x)) (fun i hi => by
      obtain ⟨cs', g1, g2⟩ := hx i (by omega)
      obtain ⟨x, g3, g4⟩ := he H enc sp held _ _ _ _ g2 (fun q hq => hsz q (List.mem_cons_of_mem _ (List.mem_append_left _ (weightsAll_mem (i := i) (by simp [hi]) q hq))))
      exact ⟨x, cs', g1, g3, g4⟩)
    refine ⟨(List.range len).map X, ⟨by simpa using hbyt, by simpa using hlen, fun x hx => ?_⟩, Rep.one ?_⟩
    · simp only [List.mem_map, List.mem_range] at hx
      obtain ⟨i, hi, rfl⟩ := hx
      obtain ⟨_, _, g, _⟩ := hX i hi
      exact g
    -- where the elements lie
    have hcell : ∀ i, i < len → ∃ cs', cs'.length = P.cellsOf e ∧ Rep w cs' (f (X i)) ∧ ∀ j v, cs'[j]? = some v → w.cell? ((a.add (i * P.cellsOf e)).add j) = some v := fun i hi => by
      obtain ⟨cs', g1, _, g2⟩ := hX i hi
      obtain ⟨_, g3, g4⟩ := World.cells?_some g1
      refine ⟨cs', g3, g2, fun j v hj => ?_⟩
      have hj' : j < P.cellsOf e := by rw [← g3]; exact (List.getElem?_eq_some_iff.1 hj).1
      have := g4 j hj'
      rwa [hj] at this
    have hspot : 0 < len → a.spot = none := by
      intro h0
      obtain ⟨cs', g3, _, g4⟩ := hcell 0 h0
      have g5 := g4 0 cs'[0] (List.getElem?_eq_getElem (by omega))
      unfold World.cell? at g5
      split at g5
      · split at g5
        · cases g5
        · rename_i hn; simpa [Addr.add] using hn
      · cases g5
    have hrow : ∀ i row, (((List.range len).map X).map f)[i]? = some row → i < len ∧ row = f (X i) := fun i row hi => by
      have hil := (List.getElem?_eq_some_iff.1 hi).1
      simp at hil
      simp [hil] at hi
      exact ⟨hil, hi.symm⟩
    obtain ⟨b, o, s⟩ := a
    have harr : ∀ i, i < len → ∀ j v, (∃ cs' : List Value, cs'[j]? = some v ∧ ∀ j v, cs'[j]? = some v → w.cell? ((Addr.add ⟨b, o, s⟩ (i * P.cellsOf e)).add j) = some v) → ∃ arr, memOf w b = some arr ∧ arr[o + i * P.cellsOf e + j]? = some v := fun i hi j v ⟨cs', h1, h2⟩ => by
      have h3 := h2 j v h1
      have hs := hspot (by omega)
      simp only at hs
      subst hs
      rw [add_plain, add_plain] at h3
      exact cell_mem h3
    have hmem : 0 < len → ∃ arr, memOf w b = some arr := fun h0 => by
      obtain ⟨cs', g3, _, g4⟩ := hcell 0 h0
      obtain ⟨arr, h, _⟩ := harr 0 h0 0 cs'[0] ⟨cs', List.getElem?_eq_getElem (by omega), g4⟩
      exact ⟨arr, h⟩
    have key : ∀ arr, (0 < len → memOf w b = some arr) → VR own0 (memOf w) (.rs (P.cellsOf e) (((List.range len).map X).map f)) (.slice (some ⟨b, o, s⟩) len cap) := fun arr hM => by
      have hln : (((List.range len).map X).map f).length = len := by simp
      have cellAt : ∀ i j row c, (((List.range len).map X).map f)[i]? = some row → row[j]? = some c → o + i * P.cellsOf e + j < arr.size ∧ VR own0 (memOf w) c (arr.getD (o + i * P.cellsOf e + j) undef) := fun i j row c hi hj => by
        obtain ⟨hil, rfl⟩ := hrow i row hi
        obtain ⟨cs', g3, g5, g4⟩ := hcell i hil
        have hjl := (List.getElem?_eq_some_iff.1 hj).1
        have hjc : j < cs'.length := by rw [g5.1]; exact hjl
        obtain ⟨arr', h1, h2⟩ := harr i hil j cs'[j] ⟨cs', List.getElem?_eq_getElem hjc, g4⟩
        rw [hM (by omega)] at h1
        cases h1
        refine ⟨(Array.getElem?_eq_some_iff.1 h2).1, ?_⟩
        have h5 := g5.2 j c hj
        rw [List.getD_eq_getElem?_getD, List.getElem?_eq_getElem hjc] at h5
        rw [Array.getD_eq_getD_getElem?, h2]
        exact h5
      have := VR.rs (own := own0) (M := memOf w) (P.cellsOf e) (((List.range len).map X).map f) (some ⟨b, o, s⟩) cap b o arr (by rw [hln]; exact hl) (Nat.le_trans hm (by decide)) (by rw [hln]; simpa [lenMax] using hlen)
        (fun h0 => by rw [hln] at h0; rw [show s = none from hspot h0]) (fun h0 => hM (by rw [hln] at h0; exact h0)) (fun i row hi => by
          obtain ⟨hil, rfl⟩ := hrow i row hi
          obtain ⟨cs', g3, g5, _⟩ := hcell i hil
          rw [← g5.1]; exact g3) (fun i j row c hi hj => (cellAt i j row c hi hj).1) (fun i j row c hi hj => (cellAt i j row c hi hj).2)
      rwa [hln] at this
    by_cases h0 : 0 < len
    · obtain ⟨arr, h⟩ := hmem h0
      exact key arr fun _ => h
    · exact key #[] fun h => absurd h h0

/-- fields, one behind another -/
theorem lies_slice {t e : TypeId} {k : Nat} {f : α → List AVal} {ok : α → Prop} (ht : P.underlying t = some (.slice e)) (hc : P.cellsOf e = k) (hk : 0 < k) (hby : 8 ≤ P.bytesOf e) [Inhabited α] (he : Lies P w e f ok) :
    Lies P w t (fun l : List α => [.rs k (l.map f)]) (fun l => l.length ≤ 17592186044416 ∧ ∀ x ∈ l, ok x) := fun H enc sp held fuel cs d ps h hsz => by
  obtain ⟨x, h1, h2⟩ := lies_sliceB ht hc hk hby he H enc sp held fuel cs d ps h hsz
  exact ⟨x, h1.2, h2⟩
def LiesF {α : Type} (P : Program) (w : World) (fs : List Field) (base size : Nat) (f : α → List AVal) (ok : α → Prop) : Prop :=
  ∀ (H : Type) (enc : TypeId × Value → H) (sp : Nat → Bool) (held : Bool) (n : Nat) (cs : List Value) (xs : List (DataW H × List MemPlace)), xs.length = fs.length → base + size ≤ cs.length →
    (∀ (i : Nat) (fd : Field), fs[i]? = some fd → DataW.trod enc P w 0 sp held n fd.type ((cs.drop fd.offset).take (P.cellsOf fd.type)) = xs[i]?) → (∀ m ∈ DataW.weightsEach P (fs.map (·.type)) (xs.map (·.1)), m ≤ reachBytes) →
    ∃ x, ok x ∧ Rep w ((cs.drop base).take size) (f x)
theorem liesF_nil (base : Nat) : LiesF P w [] base 0 (fun _ : Unit => []) (fun _ => True) := fun H enc sp held n cs xs _ _ _ _ => ⟨(), trivial, by simpa using Rep.nil w⟩
theorem liesF_one {fd : Field} {base z : Nat} {f : α → List AVal} {ok : α → Prop} (ho : fd.offset = base) (hz : P.cellsOf fd.type = z) (h : Lies P w fd.type f ok) : LiesF P w [fd] base z f ok := by
  intro H enc sp held n cs xs hl hs hx hw
  obtain ⟨y, rfl⟩ := List.length_eq_one_iff.1 hl
  have h0 := hx 0 fd rfl
  simp only [List.getElem?_cons_zero] at h0
  subst ho hz
  obtain ⟨d, p⟩ := y
  exact h H enc sp held n _ d p h0 fun m hm => hw m (by simpa [DataW.weightsEach] using hm)
theorem liesF_cons {fd : Field} {fs : List Field} {base z size : Nat} {f : α → List AVal} {ok : α → Prop} {g : β → List AVal} {ok2 : β → Prop} (ho : fd.offset = base) (hz : P.cellsOf fd.type = z) (h : Lies P w fd.type f ok) (h2 : LiesF P w fs (base + z) size g ok2) :
    LiesF P w (fd :: fs) base (z + size) (fun p : α × β => f p.1 ++ g p.2) (fun p => ok p.1 ∧ ok2 p.2) := by
  intro H enc sp held n cs xs hl hs hx hw
  cases xs with
  | nil => simp at hl
  | cons y xs =>
    obtain ⟨d, p⟩ := y
    have h0 := hx 0 fd rfl
    simp only [List.getElem?_cons_zero] at h0
    subst ho hz
    obtain ⟨x, a1, a2⟩ := h H enc sp held n _ d p h0 fun m hm => hw m (by simp only [List.map_cons, DataW.weightsEach, List.mem_append]; exact Or.inl hm)
    obtain ⟨y, b1, b2⟩ := h2 H enc sp held n cs xs (by simpa using hl) (by omega) (fun i fd hi => by simpa using hx (i + 1) fd (by simpa using hi)) fun m hm => hw m (by simp only [List.map_cons, DataW.weightsEach, List.mem_append]; exact Or.inr hm)
    refine ⟨(x, y), ⟨a1, b1⟩, ?_⟩
    have : (cs.drop fd.offset).take (P.cellsOf fd.type + size) = (cs.drop fd.offset).take (P.cellsOf fd.type) ++ (cs.drop (fd.offset + P.cellsOf fd.type)).take size := by
      rw [List.take_add, List.drop_drop]
    rw [this]
    exact a2.append b2
theorem lies_struct {t : TypeId} {fs : Array Field} {f : α → List AVal} {ok : α → Prop} {size : Nat} (ht : P.underlying t = some (.struct fs)) (hz : P.cellsOf t = size) (h : LiesF P w fs.toList 0 size f ok) : Lies P w t f ok := by
  intro H enc sp held fuel cs d ps h1 h2
  obtain ⟨xs, n, _, hx, hl, hxl, hf⟩ := DataW.trod_struct ht h1
  simp only [Prod.mk.injEq] at hx
  obtain ⟨rfl, -⟩ := hx
  simp only [DataW.weights, ht] at h2
  obtain ⟨x, a1, a2⟩ := h H enc sp held n cs xs (by rw [hxl]; simp) (by rw [hl, hz]; simp) (fun i fd hi => hf i fd (by simpa using hi)) h2
  refine ⟨x, a1, ?_⟩
  have : (cs.drop 0).take size = cs := by rw [List.drop_zero, List.take_of_length_le (by rw [hl, hz]; exact Nat.le_refl _)]
  rwa [this] at a2
/-- an array of two -/
theorem lies_array2 {t e : TypeId} {f : α → List AVal} {ok : α → Prop} {z : Nat} (ht : P.underlying t = some (.array 2 e)) (hz : P.cellsOf t = z + z) (he : P.cellsOf e = z) (h : Lies P w e f ok) : Lies P w t (fun p : α × α => f p.1 ++ f p.2) (fun p => ok p.1 ∧ ok p.2) := by
  intro H enc sp held fuel cs d ps h1 h2
  obtain ⟨xs, m, _, hx, hl, hxl, hf⟩ := DataW.trod_array ht h1
  simp only [Prod.mk.injEq] at hx
  obtain ⟨rfl, -⟩ := hx
  simp only [DataW.weights, ht] at h2
  match xs, hxl with
  | [y1, y2], _ =>
    have e1 := hf 0 (by omega)
    have e2 := hf 1 (by omega)
    simp only [List.getElem?_cons_zero, List.getElem?_cons_succ, he, Nat.zero_mul, Nat.one_mul, List.drop_zero] at e1 e2
    simp only [List.map_cons, List.map_nil, DataW.weightsAll, List.append_nil, List.mem_append] at h2
    obtain ⟨x1, b1, b2⟩ := h H enc sp held m _ y1.1 y1.2 e1 fun q hq => h2 q (Or.inl hq)
    obtain ⟨x2, c1, c2⟩ := h H enc sp held m _ y2.1 y2.2 e2 fun q hq => h2 q (Or.inr hq)
    refine ⟨(x1, x2), ⟨b1, c1⟩, ?_⟩
    have : cs = cs.take z ++ (cs.drop z).take z := by
      rw [← List.take_add, List.take_of_length_le (by omega)]
    rw [this]
    exact b2.append c2

/-! ### Arguments -/
section
variable {H : Type} {enc : TypeId × Value → H} {sp : Nat → Bool} {held : Bool} {v : Value} {d : DataW H} {ps : List MemPlace} {base : Nat} {r : Reach} {t : TypeId}
theorem arg_one {c : α → AVal} {ok : α → Prop} (hL : Lies P w t (fun x => [c x]) ok) (hv : ∀ a, v ≠ .agg a) (h : DataW.Trod enc P w 0 sp held t v d ps) (hsz : ∀ n ∈ d.weights P t, n ≤ reachBytes) : ∃ x, ok x ∧ VR own0 (memOf w) (c x) v := by
  obtain ⟨fuel, h⟩ := h
  have hc : v.cells.toList = [v] := by cases v <;> first | rfl | exact absurd rfl (hv _)
  rw [hc] at h
  obtain ⟨x, h1, h2⟩ := hL H enc sp held fuel _ d ps h hsz
  exact ⟨x, h1, by simpa using h2.2 0 _ rfl⟩
theorem arg_slice {e : TypeId} {c : α → AVal} {ok : α → Prop} (ht : P.underlying t = some (.slice e)) (hv : Value.okWide P w r base t v) (hL : Lies P w t (fun x => [c x]) ok) (h : DataW.Trod enc P w 0 sp held t v d ps) (hsz : ∀ n ∈ d.weights P t, n ≤ reachBytes) : ∃ x, ok x ∧ VR own0 (memOf w) (c x) v :=
  arg_one hL (fun a e => by obtain ⟨_, _, _, e'⟩ := okWide_slice ht hv; rw [e'] at e; cases e) h hsz
theorem arg_int {k : IntKind} {c : α → AVal} {ok : α → Prop} (ht : P.underlying t = some (.int k)) (hv : Value.okWide P w r base t v) (hL : Lies P w t (fun x => [c x]) ok) (h : DataW.Trod enc P w 0 sp held t v d ps) (hsz : ∀ n ∈ d.weights P t, n ≤ reachBytes) : ∃ x, ok x ∧ VR own0 (memOf w) (c x) v :=
  arg_one hL (fun a e => by obtain ⟨_, e'⟩ := okWide_int ht hv; rw [e'] at e; cases e) h hsz
theorem arg_bool {c : α → AVal} {ok : α → Prop} (ht : P.underlying t = some .bool) (hv : Value.okWide P w r base t v) (hL : Lies P w t (fun x => [c x]) ok) (h : DataW.Trod enc P w 0 sp held t v d ps) (hsz : ∀ n ∈ d.weights P t, n ≤ reachBytes) : ∃ x, ok x ∧ VR own0 (memOf w) (c x) v :=
  arg_one hL (fun a e => by obtain ⟨_, e'⟩ := okWide_bool ht hv; rw [e'] at e; cases e) h hsz
theorem arg_string {c : α → AVal} {ok : α → Prop} (ht : P.underlying t = some .string) (hv : Value.okWide P w r base t v) (hL : Lies P w t (fun x => [c x]) ok) (h : DataW.Trod enc P w 0 sp held t v d ps) (hsz : ∀ n ∈ d.weights P t, n ≤ reachBytes) : ∃ x, ok x ∧ VR own0 (memOf w) (c x) v :=
  arg_one hL (fun a e => by obtain ⟨_, e'⟩ := okWide_string ht hv; rw [e'] at e; cases e) h hsz
theorem arg_agg {f : α → List AVal} {ok : α → Prop} (hv : ∃ cs, v = .agg cs) (hs : ∀ x, (f x).all AVal.sc = true) (hL : Lies P w t f ok) (h : DataW.Trod enc P w 0 sp held t v d ps) (hsz : ∀ n ∈ d.weights P t, n ≤ reachBytes) : ∃ x, ok x ∧ VR own0 (memOf w) (.agg (f x)) v := by
  obtain ⟨cs, rfl⟩ := hv
  obtain ⟨fuel, h⟩ := h
  obtain ⟨x, h1, h2⟩ := hL H enc sp held fuel _ d ps h hsz
  refine ⟨x, h1, .agg _ _ (by simpa [Value.cells] using h2.1) (fun c hc => List.all_eq_true.1 (hs x) c hc) fun i c hi => ?_⟩
  have := h2.2 i c hi
  simpa [Value.cells, Array.getD_eq_getD_getElem?, List.getD_eq_getElem?_getD] using this
theorem okWide_agg {fs : Array Field} (ht : P.underlying t = some (.struct fs)) (hv : Value.okWide P w r base t v) : ∃ cs, v = .agg cs := by
  obtain ⟨cs, h, _⟩ := okWide_struct ht hv; exact ⟨cs, h⟩
theorem okWide_arr {n : Nat} {e : TypeId} (ht : P.underlying t = some (.array n e)) (hv : Value.okWide P w r base t v) : ∃ cs, v = .agg cs := by
  unfold Value.okWide at hv; rw [ht] at hv; obtain ⟨cs, h, _⟩ := hv; exact ⟨cs, h⟩
end
end

/-! ### A law's row -/
theorem trodAll_below {H : Type} {enc : TypeId × Value → H} {P : Program} {W W' : World} (hl : laidOutB P = true) (hb : Below W.heap.size W W') (sp' : Nat → Bool) :
    ∀ {ts : List TypeId} {vs : List Value} {ds : List (DataW H)} {ps : List MemPlace}, (ts.all fun t => P.readableRec t && decide (t < P.types.size)) = true → DataW.TrodAll enc P W 0 (fun _ => true) true ts vs ds ps →
      (∀ x ∈ ps, x.block < W.heap.size) → (∀ x ∈ ps, sp' x.block = true) → DataW.TrodAll enc P W' 0 sp' true ts vs ds ps
  | [], vs, ds, ps, _, h, _, _ => by
    obtain ⟨rfl, rfl, rfl⟩ := trodAll_nil h
    exact h
  | t :: ts, vs, ds, ps, hp, h, hlt, hsp => by
    obtain ⟨v, vs1, d, ds1, a, b, rfl, rfl, rfl, h1, h2⟩ := trodAll_cons h
    simp only [List.all_cons, Bool.and_eq_true, decide_eq_true_eq] at hp
    refine ⟨a, b, Trod_stays hl hp.1.1 hp.1.2 h1 (fun x hx => hb.same (hlt x (List.mem_append_left _ hx))) (fun x hx => hsp x (List.mem_append_left _ hx)), ?_, rfl⟩
    exact trodAll_below hl hb sp' hp.2 h2 (fun x hx => hlt x (List.mem_append_right _ hx)) (fun x hx => hsp x (List.mem_append_right _ hx))

theorem post_true {H : Type} {enc : TypeId × Value → H} {P : Program} {f : Func} {s : ChangeSpec} {W W' : World} {args : Array Value} {ds gs : List (DataW H)} {before : List MemPlace} {tb : TypeId}
    (hl : laidOutB P = true) (hp : (f.params.toList.all fun t => P.readableRec t && decide (t < P.types.size)) = true) (hv : s.vars = []) (hres : f.resultTypes = #[tb]) (htb : P.underlying tb = some .bool)
    (hW : DataW.Whole enc P f.params.toList s.vars false W args.toList ds gs before) (hs : s.fn H ds = { results := [.lit (.bool true)], args := ds, vars := [] }) (hb : Below W.heap.size W W') :
    s.post enc P f false true false false W args (.bool true) W' := by
  have hlt := hW.lt
  obtain ⟨p, q, hA, hV, rfl, hz, hn⟩ := id hW
  have hV' := hV
  rw [hv] at hV'
  obtain ⟨rfl, rfl⟩ := trodVars_none hV'
  rw [List.append_nil] at *
  refine ⟨ds, [], p, [], p, [], hW, ?_, ?_, ?_, hb.frame _, fun h => by cases h⟩
  · rw [List.append_nil, hs, hres]
    exact trodAll_mk1 (shut_bool htb _)
  · rw [List.append_nil, hs]
    exact trodAll_below hl hb _ hp hA hlt (fun x hx => by simpa using hlt x hx)
  · rw [List.append_nil, hs, hv]
    rw [hv] at hV
    exact hV

/-- A law that returns true, as a call from an argument's world. -/
theorem law_calls {P : Program} {f : FuncId} {args : List AVal} {W : World} {vals : Array Value} (h : AC P f args heap0 0 fun v _ _ => v = .bool true) (hn : vals.size = args.length) (hv : ∀ (i : Nat) c, args[i]? = some c → VR own0 (memOf W) c (vals.getD i undef)) :
    Calls P f vals W fun e W' => e = .returned (.bool true) ∧ Below W.heap.size W W' := by
  refine (h own0 (memOf W) W vals (st0 W) hn hv).mono ?_
  rintro e w' ⟨u, rfl, v, η', n', own', M', rfl, _, _, hu, _, _, hf, _⟩
  cases hu
  refine ⟨rfl, hf.os, hf.tape, hf.output, hf.size, fun b hb => hf.block b hb fun ⟨r, p, o, h1, _⟩ => by cases h1⟩
theorem args1 {own : Own} {M : Mem} {a : AVal} {u : Value} (h : VR own M a u) : ∀ (i : Nat) c, [a][i]? = some c → VR own M c (#[u].getD i undef)
  | 0, c, e => by simp at e; subst e; exact h
  | i + 1, c, e => by simp at e
theorem args2 {own : Own} {M : Mem} {a b : AVal} {u v : Value} (h : VR own M a u) (k : VR own M b v) : ∀ (i : Nat) c, [a, b][i]? = some c → VR own M c (#[u, v].getD i undef)
  | 0, c, e => by simp at e; subst e; exact h
  | 1, c, e => by simp at e; subst e; exact k
  | i + 2, c, e => by simp at e
theorem args3 {own : Own} {M : Mem} {a b d : AVal} {u v w : Value} (h : VR own M a u) (k : VR own M b v) (l : VR own M d w) : ∀ (i : Nat) c, [a, b, d][i]? = some c → VR own M c (#[u, v, w].getD i undef)
  | 0, c, e => by simp at e; subst e; exact h
  | 1, c, e => by simp at e; subst e; exact k
  | 2, c, e => by simp at e; subst e; exact l
  | i + 3, c, e => by simp at e
end Go.Proofs.Ytkhoelmbcmkhjaa
