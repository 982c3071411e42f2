/- proc's deeds: the map of them; deed. -/
import Derived.Test.YtkhoelmbcmkhjaaP9
namespace Go.Proofs.Ytkhoelmbcmkhjaa
set_option maxRecDepth 100000

theorem puts_ac (f : FuncId) (η : AHeap) (n : Nat) : AC Try.prog 100 [.func f [] []] η n (fun r η' n' => r = .func 135 [] [.ptr n 0 0] ∧ η' = upd η n (some (.cells 1 [[.func f [] []]])) ∧ n' = n + 1) := by
  refine AC.enter Try.func100 rfl Try.ntmps100 (by simp) ?_
  simp
  exact resK.rt ⟨rfl, rfl, rfl⟩
theorem asks_ac (f : FuncId) (η : AHeap) (n : Nat) : AC Try.prog 110 [.func f [] []] η n (fun r η' n' => r = .func 136 [] [.ptr n 0 0] ∧ η' = upd η n (some (.cells 1 [[.func f [] []]])) ∧ n' = n + 1) := by
  refine AC.enter Try.func110 rfl Try.ntmps110 (by simp) ?_
  simp
  exact resK.rt ⟨rfl, rfl, rfl⟩
/-- how a deed is made: 0: the function itself; 1: puts of it; 2: asks of it -/
def deedL : List (Int × Nat × FuncId) := [(0, 0, 99), (1, 1, 101), (2, 1, 102), (3, 1, 103), (18, 1, 104), (4, 0, 105), (5, 0, 107), (13, 1, 108),
  (16, 0, 109), (17, 2, 111), (19, 0, 112), (20, 2, 113), (21, 0, 114), (22, 2, 115), (23, 2, 116), (24, 2, 117), (25, 2, 118), (26, 2, 119)]
/-- a deed's value -/
def DV (η : AHeap) (d : Nat × FuncId) (v : AVal) : Prop :=
  (d.1 = 0 ∧ v = .func d.2 [] []) ∨ ∃ q, η q = some (.cells 1 [[.func d.2 [] []]]) ∧ ((d.1 = 1 ∧ v = .func 135 [] [.ptr q 0 0]) ∨ (d.1 = 2 ∧ v = .func 136 [] [.ptr q 0 0]))
theorem upd_apply (η : AHeap) (r : Nat) (o : Option AObj) (x : Nat) : upd η r o x = if x = r then o else η x := rfl
def DM (η : AHeap) : List (AVal × AVal) → List (Int × Nat × FuncId) → Prop
  | [], [] => True
  | e :: es, d :: L => e.1 = .int .i64 d.1 ∧ DV η d.2 e.2 ∧ DM η es L
  | _, _ => False
def deedOf (op : Int) : List (Int × Nat × FuncId) → Option (Nat × FuncId)
  | [] => none
  | d :: L => if op = d.1 then some d.2 else deedOf op L
theorem DM.find {η : AHeap} (op : Int) : ∀ (L : List (Int × Nat × FuncId)) (es : List (AVal × AVal)) (i : Nat), DM η es L →
    (deedOf op L = none ∧ afind (.int .i64) (.int .i64 op) es i = some none) ∨ ∃ d j v, deedOf op L = some d ∧ afind (.int .i64) (.int .i64 op) es i = some (some (j, v)) ∧ DV η d v
  | [], [], i, _ => Or.inl ⟨rfl, rfl⟩
  | [], e :: es, i, h => h.elim
  | d :: L, [], i, h => h.elim
  | d :: L, e :: es, i, ⟨h1, h2, h3⟩ => by
    by_cases ho : op = d.1
    · exact Or.inr ⟨d.2, i, e.2, by simp [deedOf, ho], by simp [afind, akeq, h1, ho], h2⟩
    · have hb : (op == d.1) = false := by simpa using ho
      rcases DM.find op L es (i + 1) h3 with ⟨g1, g2⟩ | ⟨d', j, v, g1, g2, g3⟩
      · exact Or.inl ⟨by simp [deedOf, ho, g1], by simp [afind, akeq, h1, hb, g2]⟩
      · exact Or.inr ⟨d', j, v, by simp [deedOf, ho, g1], by simp [afind, akeq, h1, hb, g2], g3⟩
theorem deeds_ac (η : AHeap) (n : Nat) : AC Try.prog 77 [] η n (fun r η' n' => r = .mp n ∧ n < n' ∧ (∀ r, r < n → η' r = η r) ∧ ∃ es, η' n = some (.map es) ∧ DM η' es deedL) := by
  refine AC.enter Try.func77 rfl Try.ntmps77 (by simp) ?_
  simp [ainsert, akOK, afind, akeq, upd_eq, upd_upd]
  refine ACK.use (puts_ac _ _ _) ?_
  intro r η1 n1 ⟨e1, e2, e3⟩
  subst e1 e2 e3
  simp [ainsert, akOK, afind, akeq, upd_apply, upd_upd, Nat.add_assoc]
  refine ACK.use (puts_ac _ _ _) ?_
  intro r η1 n1 ⟨e1, e2, e3⟩
  subst e1 e2 e3
  simp [ainsert, akOK, afind, akeq, upd_apply, upd_upd, Nat.add_assoc]
  refine ACK.use (puts_ac _ _ _) ?_
  intro r η1 n1 ⟨e1, e2, e3⟩
  subst e1 e2 e3
  simp [ainsert, akOK, afind, akeq, upd_apply, upd_upd, Nat.add_assoc]
  refine ACK.use (puts_ac _ _ _) ?_
  intro r η1 n1 ⟨e1, e2, e3⟩
  subst e1 e2 e3
  simp [ainsert, akOK, afind, akeq, upd_apply, upd_upd, Nat.add_assoc]
  refine ACK.use (puts_ac _ _ _) ?_
  intro r η1 n1 ⟨e1, e2, e3⟩
  subst e1 e2 e3
  simp [ainsert, akOK, afind, akeq, upd_apply, upd_upd, Nat.add_assoc]
  refine ACK.use (asks_ac _ _ _) ?_
  intro r η1 n1 ⟨e1, e2, e3⟩
  subst e1 e2 e3
  simp [ainsert, akOK, afind, akeq, upd_apply, upd_upd, Nat.add_assoc]
  refine ACK.use (asks_ac _ _ _) ?_
  intro r η1 n1 ⟨e1, e2, e3⟩
  subst e1 e2 e3
  simp [ainsert, akOK, afind, akeq, upd_apply, upd_upd, Nat.add_assoc]
  refine ACK.use (asks_ac _ _ _) ?_
  intro r η1 n1 ⟨e1, e2, e3⟩
  subst e1 e2 e3
  simp [ainsert, akOK, afind, akeq, upd_apply, upd_upd, Nat.add_assoc]
  refine ACK.use (asks_ac _ _ _) ?_
  intro r η1 n1 ⟨e1, e2, e3⟩
  subst e1 e2 e3
  simp [ainsert, akOK, afind, akeq, upd_apply, upd_upd, Nat.add_assoc]
  refine ACK.use (asks_ac _ _ _) ?_
  intro r η1 n1 ⟨e1, e2, e3⟩
  subst e1 e2 e3
  simp [ainsert, akOK, afind, akeq, upd_apply, upd_upd, Nat.add_assoc]
  refine ACK.use (asks_ac _ _ _) ?_
  intro r η1 n1 ⟨e1, e2, e3⟩
  subst e1 e2 e3
  simp [ainsert, akOK, afind, akeq, upd_apply, upd_upd, Nat.add_assoc]
  refine ACK.use (asks_ac _ _ _) ?_
  intro r η1 n1 ⟨e1, e2, e3⟩
  subst e1 e2 e3
  simp [ainsert, akOK, afind, akeq, upd_apply, upd_upd, Nat.add_assoc]
  refine resK.rt ⟨rfl, by omega, fun r hr => ?_, _, upd_eq .., ?_⟩
  · simp only [upd_apply]
    repeat rw [if_neg (by omega)]
  · simp [DM, deedL, DV, upd_apply, Nat.add_assoc]
theorem azv103 : azv Try.prog 103 = some .nilf := by kernel_rfl
def isTwo (op : Int) : Prop := 6 ≤ op ∧ op ≤ 15 ∧ op ≠ 13
theorem deed_ac (op : Int) (η : AHeap) (n : Nat) : AC Try.prog 49 [.int .i64 op] η n (fun r η' n' => n ≤ n' ∧ (∀ r, r < n → η' r = η r) ∧
    ((isTwo op ∧ r = .func 76 [] []) ∨ (¬ isTwo op ∧ deedOf op deedL = none ∧ r = .nilf) ∨ ∃ d, ¬ isTwo op ∧ deedOf op deedL = some d ∧ DV η' d r)) := by
  by_cases ht : isTwo op
  · obtain ⟨h1, h2, h3⟩ := ht
    refine AC.enter Try.func49 rfl Try.ntmps49 (by simp) ?_
    simp [h1, h2, h3]
    exact resK.rt ⟨Nat.le_refl _, fun _ _ => rfl, Or.inl ⟨⟨h1, h2, h3⟩, rfl⟩⟩
  · have tail : (6 ≤ op → op ≤ 15 → op = 13) := fun h1 h2 => Classical.byContradiction fun h3 => ht ⟨h1, h2, h3⟩
    by_cases h1 : 6 ≤ op
    · by_cases h2 : op ≤ 15
      · have h3 := tail h1 h2
        subst h3
        refine AC.enter Try.func49 rfl Try.ntmps49 (by simp) ?_
        simp
        refine ACK.use (deeds_ac _ _) ?_
        intro r η1 n1 ⟨e1, e2, e3, es, e4, e5⟩
        subst e1
        rcases DM.find 13 _ _ 0 e5 with ⟨g1, g2⟩ | ⟨d, j, v, g1, g2, g3⟩
        · simp [alookup, akOK, e4, g2, azv103]
          exact resK.rt ⟨by omega, e3, Or.inr (Or.inl ⟨ht, g1, rfl⟩)⟩
        · simp [alookup, akOK, e4, g2]
          exact resK.rt ⟨by omega, e3, Or.inr (Or.inr ⟨d, ht, g1, g3⟩)⟩
      · refine AC.enter Try.func49 rfl Try.ntmps49 (by simp) ?_
        simp [h1, h2]
        refine ACK.use (deeds_ac _ _) ?_
        intro r η1 n1 ⟨e1, e2, e3, es, e4, e5⟩
        subst e1
        rcases DM.find op _ _ 0 e5 with ⟨g1, g2⟩ | ⟨d, j, v, g1, g2, g3⟩
        · simp [alookup, akOK, e4, g2, azv103]
          exact resK.rt ⟨by omega, e3, Or.inr (Or.inl ⟨ht, g1, rfl⟩)⟩
        · simp [alookup, akOK, e4, g2]
          exact resK.rt ⟨by omega, e3, Or.inr (Or.inr ⟨d, ht, g1, g3⟩)⟩
    · refine AC.enter Try.func49 rfl Try.ntmps49 (by simp) ?_
      simp [h1]
      refine ACK.use (deeds_ac _ _) ?_
      intro r η1 n1 ⟨e1, e2, e3, es, e4, e5⟩
      subst e1
      rcases DM.find op _ _ 0 e5 with ⟨g1, g2⟩ | ⟨d, j, v, g1, g2, g3⟩
      · simp [alookup, akOK, e4, g2, azv103]
        exact resK.rt ⟨by omega, e3, Or.inr (Or.inl ⟨ht, g1, rfl⟩)⟩
      · simp [alookup, akOK, e4, g2]
        exact resK.rt ⟨by omega, e3, Or.inr (Or.inr ⟨d, ht, g1, g3⟩)⟩
end Go.Proofs.Ytkhoelmbcmkhjaa
