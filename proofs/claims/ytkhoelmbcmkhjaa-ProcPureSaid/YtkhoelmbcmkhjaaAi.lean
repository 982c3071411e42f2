/- Abstract Go, 18: a nil slice as a row of one's own. -/
import Derived.Test.YtkhoelmbcmkhjaaAh
namespace Go.Proofs.Ytkhoelmbcmkhjaa

/-- nil is a row of no cells -/
theorem AC.nilOwn {P : Program} {f : FuncId} {args : List AVal} {η : AHeap} {n : Nat} {K : AVal → AHeap → Nat → Prop} (k : Nat) (hk : 0 < k)
    (h : AC P f args η n fun v η' n' => K v η' n' ∨ (v = .nils ∧ K (.sl n' 0 0) (upd η' n' (some (.cells k []))) (n' + 1))) : AC P f args η n K := by
  intro own M w vals h1 h2 h3
  refine (h own M w vals h1 h2 h3).mono ?_
  rintro e w' ⟨u, rfl, v, η', n', own', M', hK, a1, a2, a3, a4, a5, a6, a7⟩
  refine ⟨u, rfl, ?_⟩
  rcases hK with hK | ⟨rfl, hK⟩
  · exact ⟨v, η', n', own', M', hK, a1, a2, a3, a4, a5, a6, a7⟩
  · have hfn := a2.fresh n' (Nat.le_refl _)
    have hle := Own.le_put hfn ⟨0, 0, 0, k⟩
    refine ⟨_, _, _, own'.put n' ⟨0, 0, 0, k⟩, M', hK, by omega, ?_, ?_, Own.le_trans a4 hle, a5, a6, fun b ⟨r, p, o, g1, g2, g3, g4⟩ => ?_, a7.2⟩
    · refine a2.add ?_ (fun hlt => absurd hlt (by simp)) (fun _ _ => rfl) (fun _ _ _ => rfl)
      refine ⟨rfl, hk, by simp, by simp, fun hlt => absurd hlt (by simp), fun i j row c hi => ?_⟩
      simp at hi
    · cases a3
      exact .sl n' 0 0 ⟨0, 0, 0, k⟩ none 0 (by simp [Own.put]) (Nat.le_refl _) (by omega) (fun h => absurd h (by omega))
    · by_cases e : r = n'
      · subst e
        simp only [Own.put, if_true, Option.some.injEq] at g2
        subst g2; simp at g3
      · rw [upd_ne e] at g1; simp only [Own.put, if_neg e] at g2
        exact a7.1 b ⟨r, p, o, g1, g2, g3, g4⟩

/-- behind a call, too, the numbers from the next one on are free -/
theorem AC.freshP {P : Program} {f : FuncId} {args : List AVal} {η : AHeap} {n : Nat} {K : AVal → AHeap → Nat → Prop} (h : AC P f args η n K) : AC P f args η n fun v η' n' => K v η' n' ∧ ∀ r, n' ≤ r → η' r = none := by
  intro own M w vals h1 h2 h3
  refine (h own M w vals h1 h2 h3).mono ?_
  rintro e w' ⟨u, rfl, v, η', n', own', M', hK, a1, a2, a3⟩
  refine ⟨u, rfl, v, η', n', own', M', ⟨hK, fun r hr => ?_⟩, a1, a2, a3⟩
  cases ho : η' r with
  | none => rfl
  | some o => exact absurd (a2.lt ho) (by omega)

/-! ### nil, compared -/
section
variable (P : Program) (t : TypeId)
@[simp] theorem eq_nils  (h : aeqT P t (.nils) .nils = true) : abinA P .eql t (.nils) .nils = some (.bool true) := by
  cases hu : P.underlying t with
  | none => simp [aeqT, hu] at h
  | some D => cases D <;> simp [abinA, aeqB, aeqN, hu] <;> simp [aeqT, hu] at h ⊢
@[simp] theorem ne_nils  (h : aeqT P t (.nils) .nils = true) : abinA P .neq t (.nils) .nils = some (.bool false) := by
  cases hu : P.underlying t with
  | none => simp [aeqT, hu] at h
  | some D => cases D <;> simp [abinA, aeqB, aeqN, hu] <;> simp [aeqT, hu] at h ⊢
@[simp] theorem eq_ptr (r i j : Nat) (h : aeqT P t (.ptr r i j) .nilp = true) : abinA P .eql t (.ptr r i j) .nilp = some (.bool false) := by
  cases hu : P.underlying t with
  | none => simp [aeqT, hu] at h
  | some D => cases D <;> simp [abinA, aeqB, aeqN, hu] <;> simp [aeqT, hu] at h ⊢
@[simp] theorem ne_ptr (r i j : Nat) (h : aeqT P t (.ptr r i j) .nilp = true) : abinA P .neq t (.ptr r i j) .nilp = some (.bool true) := by
  cases hu : P.underlying t with
  | none => simp [aeqT, hu] at h
  | some D => cases D <;> simp [abinA, aeqB, aeqN, hu] <;> simp [aeqT, hu] at h ⊢
@[simp] theorem eq_ro (cs : List AVal) (j : Nat) (h : aeqT P t (.ro cs j) .nilp = true) : abinA P .eql t (.ro cs j) .nilp = some (.bool false) := by
  cases hu : P.underlying t with
  | none => simp [aeqT, hu] at h
  | some D => cases D <;> simp [abinA, aeqB, aeqN, hu] <;> simp [aeqT, hu] at h ⊢
@[simp] theorem ne_ro (cs : List AVal) (j : Nat) (h : aeqT P t (.ro cs j) .nilp = true) : abinA P .neq t (.ro cs j) .nilp = some (.bool true) := by
  cases hu : P.underlying t with
  | none => simp [aeqT, hu] at h
  | some D => cases D <;> simp [abinA, aeqB, aeqN, hu] <;> simp [aeqT, hu] at h ⊢
@[simp] theorem eq_nilp  (h : aeqT P t .nilp .nilp = true) : abinA P .eql t .nilp .nilp = some (.bool true) := by
  cases hu : P.underlying t with
  | none => simp [aeqT, hu] at h
  | some D => cases D <;> simp [abinA, aeqB, aeqN, hu] <;> simp [aeqT, hu] at h ⊢
@[simp] theorem ne_nilp  (h : aeqT P t .nilp .nilp = true) : abinA P .neq t .nilp .nilp = some (.bool false) := by
  cases hu : P.underlying t with
  | none => simp [aeqT, hu] at h
  | some D => cases D <;> simp [abinA, aeqB, aeqN, hu] <;> simp [aeqT, hu] at h ⊢
@[simp] theorem eq_func (f : FuncId) (cs ds : List AVal) (h : aeqT P t (.func f cs ds) .nilf = true) : abinA P .eql t (.func f cs ds) .nilf = some (.bool false) := by
  cases hu : P.underlying t with
  | none => simp [aeqT, hu] at h
  | some D => cases D <;> simp [abinA, aeqB, aeqN, hu] <;> simp [aeqT, hu] at h ⊢
@[simp] theorem ne_func (f : FuncId) (cs ds : List AVal) (h : aeqT P t (.func f cs ds) .nilf = true) : abinA P .neq t (.func f cs ds) .nilf = some (.bool true) := by
  cases hu : P.underlying t with
  | none => simp [aeqT, hu] at h
  | some D => cases D <;> simp [abinA, aeqB, aeqN, hu] <;> simp [aeqT, hu] at h ⊢
@[simp] theorem eq_nilf  (h : aeqT P t .nilf .nilf = true) : abinA P .eql t .nilf .nilf = some (.bool true) := by
  cases hu : P.underlying t with
  | none => simp [aeqT, hu] at h
  | some D => cases D <;> simp [abinA, aeqB, aeqN, hu] <;> simp [aeqT, hu] at h ⊢
@[simp] theorem ne_nilf  (h : aeqT P t .nilf .nilf = true) : abinA P .neq t .nilf .nilf = some (.bool false) := by
  cases hu : P.underlying t with
  | none => simp [aeqT, hu] at h
  | some D => cases D <;> simp [abinA, aeqB, aeqN, hu] <;> simp [aeqT, hu] at h ⊢
@[simp] theorem eq_mp (r : Nat) (h : aeqT P t (.mp r) .nilm = true) : abinA P .eql t (.mp r) .nilm = some (.bool false) := by
  cases hu : P.underlying t with
  | none => simp [aeqT, hu] at h
  | some D => cases D <;> simp [abinA, aeqB, aeqN, hu] <;> simp [aeqT, hu] at h ⊢
@[simp] theorem ne_mp (r : Nat) (h : aeqT P t (.mp r) .nilm = true) : abinA P .neq t (.mp r) .nilm = some (.bool true) := by
  cases hu : P.underlying t with
  | none => simp [aeqT, hu] at h
  | some D => cases D <;> simp [abinA, aeqB, aeqN, hu] <;> simp [aeqT, hu] at h ⊢
@[simp] theorem eq_nilm  (h : aeqT P t .nilm .nilm = true) : abinA P .eql t .nilm .nilm = some (.bool true) := by
  cases hu : P.underlying t with
  | none => simp [aeqT, hu] at h
  | some D => cases D <;> simp [abinA, aeqB, aeqN, hu] <;> simp [aeqT, hu] at h ⊢
@[simp] theorem ne_nilm  (h : aeqT P t .nilm .nilm = true) : abinA P .neq t .nilm .nilm = some (.bool false) := by
  cases hu : P.underlying t with
  | none => simp [aeqT, hu] at h
  | some D => cases D <;> simp [abinA, aeqB, aeqN, hu] <;> simp [aeqT, hu] at h ⊢
@[simp] theorem eq_rs (k : Nat) (l : List (List AVal)) : abinA P .eql t (.rs k l) .nils = none := by
  simp only [abinA, aeqB]
  split <;> first | rfl | (simp_all [aeqN]; done) | (simp [aeqN]; done)
@[simp] theorem ne_rs (k : Nat) (l : List (List AVal)) : abinA P .neq t (.rs k l) .nils = none := by
  simp only [abinA, aeqB]
  split <;> first | rfl | (simp_all [aeqN]; done) | (simp [aeqN]; done)
@[simp] theorem eq_sl (r o n : Nat) : abinA P .eql t (.sl r o n) .nils = none := by
  simp only [abinA, aeqB]
  split <;> first | rfl | (simp_all [aeqN]; done) | (simp [aeqN]; done)
@[simp] theorem ne_sl (r o n : Nat) : abinA P .neq t (.sl r o n) .nils = none := by
  simp only [abinA, aeqB]
  split <;> first | rfl | (simp_all [aeqN]; done) | (simp [aeqN]; done)
@[simp] theorem eq_e0  : abinA P .eql t .e0 .nils = none := by
  simp only [abinA, aeqB]
  split <;> first | rfl | (simp_all [aeqN]; done) | (simp [aeqN]; done)
@[simp] theorem ne_e0  : abinA P .neq t .e0 .nils = none := by
  simp only [abinA, aeqB]
  split <;> first | rfl | (simp_all [aeqN]; done) | (simp [aeqN]; done)
attribute [simp] aeqT
def isSlT : Bool := match P.underlying t with
  | some (.slice _) => true
  | _ => false
attribute [simp] isSlT
theorem isSlT_iff : isSlT P t = true ↔ ∃ e, P.underlying t = some (.slice e) := by
  unfold isSlT
  cases P.underlying t with
  | none => simp
  | some D => cases D <;> simp
@[simp] theorem alen_sl (r o n : Nat) (η : AHeap) (h : isSlT P t = true) : alenT P t (.sl r o n) η = some (n : Int) := by
  obtain ⟨e, h⟩ := (isSlT_iff P t).1 h; simp [alenT, h]
@[simp] theorem alen_rs (k : Nat) (l : List (List AVal)) (η : AHeap) (h : isSlT P t = true) : alenT P t (.rs k l) η = some (l.length : Int) := by
  obtain ⟨e, h⟩ := (isSlT_iff P t).1 h; simp [alenT, h]
@[simp] theorem alen_nils (η : AHeap) (h : isSlT P t = true) : alenT P t .nils η = some 0 := by
  obtain ⟨e, h⟩ := (isSlT_iff P t).1 h; simp [alenT, h]
@[simp] theorem alen_e0 (η : AHeap) (h : isSlT P t = true) : alenT P t .e0 η = some 0 := by
  obtain ⟨e, h⟩ := (isSlT_iff P t).1 h; simp [alenT, h]
@[simp] theorem alen_arr (r i j n z : Nat) (η : AHeap) (h : isSlT P t = true) : alenT P t (.arr r i j n z) η = some (n : Int) := by
  obtain ⟨e, h⟩ := (isSlT_iff P t).1 h; simp [alenT, h]
@[simp] theorem eq_arr (r i j n z : Nat) : abinA P .eql t (.arr r i j n z) .nils = none := by
  simp only [abinA, aeqB]
  split <;> first | rfl | (simp_all; done) | (simp [aeqN]; done)
@[simp] theorem ne_arr (r i j n z : Nat) : abinA P .neq t (.arr r i j n z) .nils = none := by
  simp only [abinA, aeqB]
  split <;> first | rfl | (simp_all; done) | (simp [aeqN]; done)
@[simp] theorem alen_str (s : ByteArray) (η : AHeap) (h : P.underlying t = some .string) : alenT P t (.str s) η = some (s.size : Int) := by simp [alenT, h]
end
theorem endK.heap {W : List Nat} {fr g : Nat → AVal} {nt : Nat} {ι : Type} {I : ι → Prop} {sl : ι → List (Nat × AVal)} {hp : ι → AHeap} {nn : ι → Nat} {μ : ι → Nat} {m : Nat} {η : AHeap} {n : Nat} (h : ∀ H, H = η → endK W fr nt I sl hp nn μ m ⟨g, nt, H, n⟩) : endK W fr nt I sl hp nn μ m ⟨g, nt, η, n⟩ := h _ rfl
theorem ACK.heap {P : Program} {f : FuncId} {args : List AVal} {η : AHeap} {n : Nat} {K : AVal → AHeap → Nat → Prop} {g : Tag K} (h : ∀ H, H = η → ACK P f args H n K g) : ACK P f args η n K g := h _ rfl
end Go.Proofs.Ytkhoelmbcmkhjaa
