/- Abstract Go, 20: == on structs of whole numbers. -/
import Derived.Test.YtkhoelmbcmkhjaaAj
import Derived.Test.YtkhoelmbcmkhjaaTy
import Derived.Laws.StructEq
namespace Go.Proofs.Ytkhoelmbcmkhjaa

section
variable {P : Program}
theorem part_int {t : TypeId} {k : IntKind} (h : P.underlying t = some (.int k)) (A : Array Value) (j : Nat) (v : Value) (hv : A[j]? = some v) (w : World) : (part t A j).run P w = .ok v w := by
  unfold part isAgg
  simp only [Sem.run_bind, run_underlying h w, Result.andThen_ok]
  simp [hv]
theorem eqFields_ints (w : World) (d : Nat) (A B : Array Value) : ∀ (fs : List Field) (o : Nat) (xs ys : List Int), (∀ (i : Nat) (f : Field), fs[i]? = some f → f.name ≠ "_" ∧ f.offset = o + i ∧ ∃ k, P.underlying f.type = some (.int k)) → xs.length = fs.length → ys.length = fs.length →
    (∀ (i : Nat) (x : Int), xs[i]? = some x → A[o + i]? = some (.int .i64 x)) → (∀ (i : Nat) (x : Int), ys[i]? = some x → B[o + i]? = some (.int .i64 x)) → (Op.eqFields (d + 1) A B fs).run P w = .ok (decide (xs = ys)) w
  | [], o, xs, ys, _, h1, h2, _, _ => by
    have e1 : xs = [] := List.eq_nil_of_length_eq_zero h1
    have e2 : ys = [] := List.eq_nil_of_length_eq_zero h2
    subst e1 e2
    simp [Op.eqFields]
  | f :: fs, o, x :: xs, y :: ys, hf, h1, h2, hA, hB => by
    obtain ⟨g1, g2, k, g3⟩ := hf 0 f rfl
    have ea := hA 0 x rfl
    have eb := hB 0 y rfl
    have ih := eqFields_ints w d A B fs (o + 1) xs ys (fun i f hi => by
      obtain ⟨q1, q2, q3⟩ := hf (i + 1) f (by simpa using hi)
      exact ⟨q1, by omega, q3⟩) (by simpa using h1) (by simpa using h2) (fun i x hi => by have := hA (i + 1) x (by simpa using hi); rw [← this]; congr 1; omega) (fun i x hi => by have := hB (i + 1) x (by simpa using hi); rw [← this]; congr 1; omega)
    simp only [Op.eqFields]
    rw [if_pos g1]
    simp only [Sem.run_bind, part_int g3 A f.offset _ (by rw [g2]; exact ea) w, part_int g3 B f.offset _ (by rw [g2]; exact eb) w, Result.andThen_ok, run_equalIn_int w d f.type .i64 k x y g3]
    by_cases h : x = y
    · subst h; simp [ih]
    · simp [h]
  | f :: fs, o, [], _, _, h1, _, _, _ => by simp at h1
  | f :: fs, o, _ :: _, [], _, _, h2, _, _ => by simp at h2
def intFields (P : Program) (t : TypeId) (n : Nat) : Bool :=
  match P.underlying t with
  | some (.struct fs) => fs.size == n && (List.range n).all (fun i => match fs[i]? with
    | some f => f.name != "_" && f.offset == i && (match P.underlying f.type with
      | some (.int _) => true
      | _ => false)
    | none => false) && !(P.eqGuardType P.depth t) && !(P.stoodInHeld t)
  | _ => false
theorem vr_ints {A : Array Value} {xs : List Int} (h : ∀ own M, VR own M (.agg (xs.map (.int .i64))) (.agg A)) : A.size = xs.length ∧ ∀ (i : Nat) (x : Int), xs[i]? = some x → A[i]? = some (.int .i64 x) := by
  cases h (fun _ => none) (fun _ => none) with
  | agg _ _ hA _ hc =>
  simp at hA
  refine ⟨hA, fun i x hi => ?_⟩
  have := hc i (.int .i64 x) (by simp [hi])
  have hil := (List.getElem?_eq_some_iff.1 hi).1
  rw [Array.getElem?_eq_getElem (by omega)]
  rw [Array.getD_eq_getD_getElem?, Array.getElem?_eq_getElem (by omega)] at this
  simp only [Option.getD_some] at this
  generalize A[i] = v at *
  cases this; rfl
theorem SEq.ints {t : TypeId} (xs ys : List Int) (h : intFields P t xs.length = true) (hl : ys.length = xs.length) : SEq P t (xs.map (.int .i64)) (ys.map (.int .i64)) (decide (xs = ys)) := by
  intro A B w hA hB x y
  obtain ⟨a1, a2⟩ := vr_ints hA
  obtain ⟨b1, b2⟩ := vr_ints hB
  unfold intFields at h
  split at h
  · rename_i fs hu
    simp only [Bool.and_eq_true, Bool.not_eq_true', beq_iff_eq] at h
    obtain ⟨⟨⟨h1, h2⟩, h3⟩, h4⟩ := h
    constructor
    · unfold eqGuard
      simp [Sem.run_bind, run_program, h3]
    · have hf : P.fieldsOf t = fs := by unfold Program.fieldsOf; rw [hu]
      have hd : Op.maxDepth = (Op.maxDepth - 2) + 1 + 1 := rfl
      unfold Op.equal
      rw [hd, run_equalIn_struct w _ t A B (by rw [hf]; exact hu) h4, hf]
      refine eqFields_ints w _ A B fs.toList 0 xs ys (fun i f hi => ?_) (by simp [h1]) (by simp [h1, hl]) (fun i x hi => by rw [Nat.zero_add]; exact a2 i x hi) (fun i x hi => by rw [Nat.zero_add]; exact b2 i x hi)
      have hi' : fs[i]? = some f := by simpa using hi
      have hil := (Array.getElem?_eq_some_iff.1 hi').1
      have := List.all_eq_true.1 h2 i (List.mem_range.2 (by omega))
      rw [hi'] at this
      simp only [Bool.and_eq_true, bne_iff_ne, ne_eq, beq_iff_eq] at this
      obtain ⟨⟨q1, q2⟩, q3⟩ := this
      refine ⟨q1, by omega, ?_⟩
      split at q3
      · rename_i k hk; exact ⟨k, hk⟩
      · cases q3
  · cases h
theorem aeqS_ints {t : TypeId} (xs ys : List Int) (h : intFields P t xs.length = true) (hl : ys.length = xs.length) : aeqS P t (xs.map (.int .i64)) (ys.map (.int .i64)) = some (decide (xs = ys)) := by
  have hx : ∀ zs : List Int, ∃ A, ∀ own M, VR own M (.agg (zs.map (.int .i64))) (.agg A) := fun zs => by
    refine ⟨(zs.map (Value.int .i64)).toArray, fun own M => .agg _ _ (by simp) (fun c hc => ?_) fun i c hi => ?_⟩
    · obtain ⟨z, _, rfl⟩ := List.mem_map.1 hc; rfl
    · rw [List.getElem?_map] at hi
      cases hz : zs[i]? with
      | none => rw [hz] at hi; simp at hi
      | some z => rw [hz] at hi; simp at hi; subst hi; simp [Array.getD_eq_getD_getElem?, hz]; exact .int .i64 z
  refine aeqS_of P ?_ (SEq.ints xs ys h hl) (hx xs) (hx ys)
  simp [isPlain]
theorem aeqS2 {t : TypeId} (h : intFields P t 2 = true) (x0 x1 y0 y1 : Int) : aeqS P t [.int .i64 x0, .int .i64 x1] [.int .i64 y0, .int .i64 y1] = some (decide (x0 = y0 ∧ x1 = y1)) := by
  have := aeqS_ints (P := P) (t := t) [x0, x1] [y0, y1] h rfl
  simpa using this
theorem aeqS3 {t : TypeId} (h : intFields P t 3 = true) (x0 x1 x2 y0 y1 y2 : Int) : aeqS P t [.int .i64 x0, .int .i64 x1, .int .i64 x2] [.int .i64 y0, .int .i64 y1, .int .i64 y2] = some (decide (x0 = y0 ∧ x1 = y1 ∧ x2 = y2)) := by
  have := aeqS_ints (P := P) (t := t) [x0, x1, x2] [y0, y1, y2] h rfl
  simpa using this
end
theorem fields_msg : intFields Try.prog 34 2 = true := by kernel_rfl
theorem fields_instr : intFields Try.prog 50 2 = true := by kernel_rfl
theorem fields_reason : intFields Try.prog 36 2 = true := by kernel_rfl
theorem fields_fault : intFields Try.prog 68 3 = true := by kernel_rfl
theorem fields_clause : intFields Try.prog 62 2 = true := by kernel_rfl
end Go.Proofs.Ytkhoelmbcmkhjaa
