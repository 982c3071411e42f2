/- Layer 6, the reference: lists handed back, named, plain. Layer 6, the reference: odd, Behind. Layer 6, the reference: Behind. -/
import Derived.Test.YtkhoelmbcmkhjaaCs
namespace Go.Proofs.Ytkhoelmbcmkhjaa
set_option maxRecDepth 100000

/-- a list that is only read, or that was made -/
def FL (n : Nat) (η : AHeap) (u : AVal) (l : List Int) : Prop := u = .rs 1 (ints l) ∨ (u = .nils ∧ l = []) ∨ ∃ r o I J, n ≤ r ∧ u = .sl r o l.length ∧ o = I.length ∧ η r = some (.cells 1 (ints (I ++ (l ++ J))))
theorem FL.gnd {n : Nat} {η : AHeap} {u : AVal} {l : List Int} (h : FL n η u l) (hl : l.length ≤ lenMax) (fu : Nat) : Ent (gnd n η (fu + 1) u) (.rs 1 (ints l)) := by
  rcases h with rfl | ⟨rfl, rfl⟩ | ⟨r, o, I, J, h0, rfl, ho, hr⟩
  · rw [gnd_rs]; exact Ent.refl _
  · rw [gnd_nils]; exact Ent.nils 1
  · rw [gnd_new h0 hr (by rw [ints_length]; simp; omega) hl, ho, take_ints, ints_gnd]; exact Ent.refl _
theorem FL.own {n r : Nat} {η : AHeap} {l : List Int} {k : Nat} (h0 : n ≤ r) (hk : k = l.length) (h : η r = some (.cells 1 (ints l))) : FL n η (.sl r 0 k) l := Or.inr (Or.inr ⟨r, 0, [], [], h0, by rw [hk], rfl, by simpa using h⟩)
theorem FL.isL {n : Nat} {η : AHeap} {u : AVal} {l : List Int} (h : FL n η u l) : IsL η u l := by
  rcases h with h | h | ⟨r, o, I, J, _, h1, h2, h3⟩
  · exact Or.inl h
  · exact Or.inr (Or.inl h)
  · exact Or.inr (Or.inr ⟨r, o, I, J, h1, h2, h3⟩)
theorem Ent.tup {cs ds : List AVal} (h : EntL cs ds) : Ent (.tup cs) (.tup ds) := fun own M v hv => by
  cases hv with
  | tup _ A hA hc =>
  exact .tup _ A (by rw [hA, h.len]) fun i d hd => by
    obtain ⟨c, h1, h2⟩ := h.get i d hd
    exact h2 _ _ _ (hc i c h1)
theorem ints_nq (η : AHeap) (l : List Int) : NQ η (.rs 1 (ints l)) := (IsL.nq (η := η) (Or.inl rfl) : NQ η (.rs 1 (ints l)))
theorem AC.gnd1 {P : Program} {f : FuncId} {args : List AVal} {η : AHeap} {n : Nat} {v' : AVal} (hv : NQ η v') (fu : Nat) (h : AC P f args η n fun v η' _ => (∀ r, r < n → η' r = η r) ∧ Ent (gnd n η' fu v) v') : AC P f args η n (Rt v' η n) :=
  (AC.ground (R := fun v => v = v') fu (h.mono fun _ _ _ ⟨h1, h2⟩ => ⟨h1, v', h2, rfl⟩) fun _ hv' => hv' ▸ hv).mono fun _ _ _ h => h
/-- a list -/
theorem AC.gl {P : Program} {f : FuncId} {args : List AVal} {η : AHeap} {n : Nat} {l : List Int} (hl : l.length ≤ lenMax) (h : AC P f args η n fun v η' _ => FL n η' v l ∧ ∀ r, r < n → η' r = η r) : AC P f args η n (Rt (.rs 1 (ints l)) η n) :=
  AC.gnd1 (ints_nq η l) 1 (h.mono fun _ _ _ ⟨h1, h2⟩ => ⟨h2, h1.gnd hl 0⟩)
/-- a list and an error -/
theorem AC.gle {P : Program} {f : FuncId} {args : List AVal} {η : AHeap} {n : Nat} {l : List Int} {e : Int} (hl : l.length ≤ lenMax) (h : AC P f args η n fun v η' _ => (∃ u, v = .tup [u, .int .i64 e] ∧ FL n η' u l) ∧ ∀ r, r < n → η' r = η r) : AC P f args η n (Rt (.tup [.rs 1 (ints l), .int .i64 e]) η n) := by
  refine AC.gnd1 (.tup _ (by simp; exact ⟨ints_nq η l, .int _ _⟩)) 2 (h.mono ?_)
  rintro v η' n' ⟨⟨u, rfl, h1⟩, h2⟩
  exact ⟨h2, by rw [gnd_tup]; exact Ent.tup ⟨h1.gnd hl 0, by rw [gnd_int]; exact Ent.refl _, trivial⟩⟩
/-- two lists and a truth -/
def P3 (n : Nat) (η : AHeap) (l l' : List Int) (b : Bool) : AVal → AHeap → Nat → Prop := fun v η' _ => (∃ u u', v = .tup [u, u', .bool b] ∧ FL n η' u l ∧ FL n η' u' l') ∧ ∀ r, r < n → η' r = η r
theorem AC.gllb {P : Program} {f : FuncId} {args : List AVal} {η : AHeap} {n : Nat} {l l' : List Int} {b : Bool} (hl : l.length ≤ lenMax) (hl' : l'.length ≤ lenMax) (h : AC P f args η n (P3 n η l l' b)) : AC P f args η n (Rt (.tup [.rs 1 (ints l), .rs 1 (ints l'), .bool b]) η n) := by
  refine AC.gnd1 (.tup _ (by simp; exact ⟨ints_nq η l, ints_nq η l', .bool _⟩)) 2 (h.mono ?_)
  rintro v η' n' ⟨⟨u, u', rfl, h1, h1'⟩, h2⟩
  exact ⟨h2, by rw [gnd_tup]; exact Ent.tup ⟨h1.gnd hl 0, h1'.gnd hl' 0, by rw [gnd_bool]; exact Ent.refl _, trivial⟩⟩

theorem named06_ac (m : List Actr) (k : Nat) (i : Int × Int) (hk : k < m.length) (η : AHeap) (n : Nat) : AC Try.prog 55 [modV m, .int .i64 k, .agg [.int .i64 i.1, .int .i64 i.2]] η n (Rt (.bool (namesL ⟨m, k, actr m k⟩ i)) η n) := by
  obtain ⟨op, a⟩ := i
  have ea : actr m (k : Int) = m[k] := by simp [actr, List.getD_eq_getElem?_getD, hk]
  refine AC.pure (.bool _) ?_
  refine AC.fresh fun hf => ?_; refine AC.enter Try.func55 rfl Try.ntmps55 (by simp) ?_
  have le3 : ∀ o1 o2 o3, η.le (upd (upd (upd η n o1) (n + 1) o2) (n + 1 + 1) o3) := fun o1 o2 o3 => le_upd (le_upd (le_upd (AHeap.le_rfl _) (hf n (Nat.le_refl _))) (hf _ (by omega))) (hf _ (by omega))
  simp [modV, actsC, actC, aload, afield, apart, upd_eq, upd_ne, aindex, hk, astore, upd_upd]
  refine CondP.dec (fun h1 => ?_) (fun h1 => ?_)
  · simp [h1, aload, afield, apart, upd_eq, upd_ne]
    exact resK.of (η' := η) (le3 _ _ _) _ (Nat.le_refl _) ⟨by simp [namesL, h1, ea], rfl⟩
  simp [h1]
  refine CondP.dec (fun h2 => ?_) (fun h2 => ?_)
  · simp [h2, aload, afield, apart, upd_eq, upd_ne]
    exact resK.of (η' := η) (le3 _ _ _) _ (Nat.le_refl _) ⟨by simp [namesL, h2, ea], rfl⟩
  simp [h2]
  refine CondP.dec (fun h3 => ?_) (fun h3 => ?_)
  · simp [h3, aload, afield, apart, upd_eq, upd_ne, upd_ne (show n ≠ n + 1 + 1 by omega)]
    exact resK.of (η' := η) (le3 _ _ _) _ (Nat.le_refl _) ⟨by simp [namesL, h3], rfl⟩
  simp [h3]
  refine CondP.dec (fun h4 => ?_) (fun h4 => ?_)
  · simp [h4, aload, afield, apart, upd_eq, upd_ne]
    exact resK.of (η' := η) (le3 _ _ _) _ (Nat.le_refl _) ⟨by simp [namesL, h4, ea], rfl⟩
  simp [h4]
  exact resK.of (η' := η) (le3 _ _ _) _ (Nat.le_refl _) ⟨by simp [namesL, h1, h2, h3, h4], rfl⟩
theorem with06_ac (s l : List Int) (η : AHeap) (n : Nat) (h1 : s.length ≤ 1000) (h2 : l.length ≤ 1000) : AC Try.prog 58 [.rs 1 (ints s), .rs 1 (ints l)] η n (Rt (.rs 1 (ints (s ++ l))) η n) := by
  refine AC.gl (by simp only [lenMax, List.length_append]; omega) ?_
  have b1 : s.length * 8 ≤ 140737488355328 := by omega
  have b2 : s.length ≤ 17592186044416 := by omega
  have b3 : (s.length + l.length) * 8 ≤ 140737488355328 := by omega
  have b4 : s.length + l.length ≤ 17592186044416 := by omega
  refine AC.fresh fun hf => ?_; refine AC.enter Try.func58 rfl Try.ntmps58 (by simp) ?_
  simp [appK, aappend, arows, upd_eq, b1, b2, b3, b4, lenMax, ints_length, tk_ints]
  exact ⟨ints_sc, ints_sc, resK.same ⟨FL.own (r := n + 1) (by omega) (by simp) (by rw [upd_eq]; simp [ints]), fun r hr => by rw [upd_ne (by omega), upd_ne (by omega), upd_ne (by omega)]⟩ (Nat.le_refl _)⟩
theorem pid06_ac (k : Nat) (η : AHeap) (n : Nat) (hk : k < 1000) : AC Try.prog 80 [.int .i64 k] η n (Rt (.int .i64 (16 + (k : Int))) η n) := by
  have e : IntKind.i64.wrap (16 + (k : Int)) = 16 + (k : Int) := wrap_id (by omega) (by omega)
  refine AC.enter Try.func80 rfl Try.ntmps80 (by simp) ?_
  simp [e]
  exact resK.rt ⟨rfl, rfl, rfl⟩
def plainB (op : Int) : Bool := decide (op ≠ 20 ∧ op ≠ 22 ∧ op ≠ 25 ∧ op ≠ 26)
theorem plain06_ac (m : List Actr) (k : Nat) (i : Int × Int) (hk : k < m.length) (hc : LcOK ⟨m, k, actr m k⟩) (hi : rightI i = true) (hn : namesL ⟨m, k, actr m k⟩ i = true) (η : AHeap) (n : Nat) :
    AC Try.prog 56 [modV m, .int .i64 k, .agg [.int .i64 i.1, .int .i64 i.2]] η n (Rt (.tup [.rs 1 (ints (effL ⟨m, k, actr m k⟩ i).1), .rs 1 (ints (effL ⟨m, k, actr m k⟩ i).2), .bool (plainB i.1)]) η n) := by
  have hp := effL_tk ⟨m, k, actr m k⟩ i (fun j => by have := hc.par j; omega)
  have hp2 := effL_len ⟨m, k, actr m k⟩ i
  refine AC.gllb (by simp only [lenMax]; omega) (by simp only [lenMax]; omega) ?_
  have hb := rightI_bd hi
  have ea : actr m (k : Int) = m[k] := by simp [actr, List.getD_eq_getElem?_getD, hk]
  have hml := hc.ml
  simp only at hml
  obtain ⟨op, a⟩ := i
  have hreg : op = 4 ∨ op = 5 → a < m[k].regs.length := fun h => by simpa [namesL, h, ea] using hn
  have hspn : op = 19 → a < m.length := fun h => by simpa [namesL, h] using hn
  have hrcv : op = 21 → a < m[k].tabs.length := fun h => by simpa [namesL, h, ea] using hn
  have hop : 0 ≤ op ∧ op ≤ 26 := by simp only [rightI, decide_eq_true_eq] at hi; omega
  have hcase : op = 0 ∨ op = 1 ∨ op = 2 ∨ op = 3 ∨ op = 4 ∨ op = 5 ∨ op = 6 ∨ op = 7 ∨ op = 8 ∨ op = 9 ∨ op = 10 ∨ op = 11 ∨ op = 12 ∨ op = 13 ∨ op = 14 ∨ op = 15 ∨ op = 16 ∨ op = 17 ∨ op = 18 ∨ op = 19 ∨ op = 20 ∨ op = 21 ∨ op = 22 ∨ op = 23 ∨ op = 24 ∨ op = 25 ∨ op = 26 := by omega
  clear hi hp hp2
  have hne2 : n ≠ n + 1 + 1 := by omega
  have hne3 : n + 1 ≠ n + 1 + 1 := by omega
  rcases hcase with rfl | rfl | rfl | rfl | rfl | rfl | rfl | rfl | rfl | rfl | rfl | rfl | rfl | rfl | rfl | rfl | rfl | rfl | rfl | rfl | rfl | rfl | rfl | rfl | rfl | rfl | rfl
  · refine AC.enter Try.func56 rfl Try.ntmps56 (by simp) ?_
    simp [modV, actsC, actC, aload, afield, apart, upd_eq, upd_ne, aindex, hk, astore, upd_upd]
    refine resK.same ⟨⟨_, _, rfl, ?_, ?_⟩, fun r hr => ?_⟩ (Nat.le_refl _)
    · (first | exact Or.inr (Or.inl ⟨rfl, by simp [effL]⟩) | exact FL.own (by omega) (by simp [effL]) (by simp [effL, upd_apply, ints]) | exact Or.inl (by simp [effL]))
    · (first | exact Or.inr (Or.inl ⟨rfl, by simp [effL]⟩) | exact FL.own (by omega) (by simp [effL]) (by simp [effL, upd_apply, ints]) | exact Or.inl (by simp [effL]))
    · repeat rw [upd_ne (by omega)]
  · refine AC.enter Try.func56 rfl Try.ntmps56 (by simp) ?_
    simp [modV, actsC, actC, aload, afield, apart, upd_eq, upd_ne, aindex, hk, astore, upd_upd, abuildS, afillP, tek, chunk]
    refine resK.same ⟨⟨_, _, rfl, ?_, ?_⟩, fun r hr => ?_⟩ (Nat.le_refl _)
    · (first | exact Or.inr (Or.inl ⟨rfl, by simp [effL]⟩) | exact FL.own (by omega) (by simp [effL]) (by simp [effL, upd_apply, ints]) | exact Or.inl (by simp [effL]))
    · (first | exact Or.inr (Or.inl ⟨rfl, by simp [effL]⟩) | exact FL.own (by omega) (by simp [effL]) (by simp [effL, upd_apply, ints]) | exact Or.inl (by simp [effL]))
    · repeat rw [upd_ne (by omega)]
  · refine AC.enter Try.func56 rfl Try.ntmps56 (by simp) ?_
    simp [modV, actsC, actC, aload, afield, apart, upd_eq, upd_ne, aindex, hk, astore, upd_upd, abuildS, afillP, tek, chunk]
    refine resK.same ⟨⟨_, _, rfl, ?_, ?_⟩, fun r hr => ?_⟩ (Nat.le_refl _)
    · (first | exact Or.inr (Or.inl ⟨rfl, by simp [effL]⟩) | exact FL.own (by omega) (by simp [effL]) (by simp [effL, upd_apply, ints]) | exact Or.inl (by simp [effL]))
    · (first | exact Or.inr (Or.inl ⟨rfl, by simp [effL]⟩) | exact FL.own (by omega) (by simp [effL]) (by simp [effL, upd_apply, ints]) | exact Or.inl (by simp [effL]))
    · repeat rw [upd_ne (by omega)]
  · refine AC.enter Try.func56 rfl Try.ntmps56 (by simp) ?_
    simp [modV, actsC, actC, aload, afield, apart, upd_eq, upd_ne, aindex, hk, astore, upd_upd, abuildS, afillP, tek, chunk]
    refine resK.same ⟨⟨_, _, rfl, ?_, ?_⟩, fun r hr => ?_⟩ (Nat.le_refl _)
    · (first | exact Or.inr (Or.inl ⟨rfl, by simp [effL]⟩) | exact FL.own (by omega) (by simp [effL]) (by simp [effL, upd_apply, ints]) | exact Or.inl (by simp [effL]))
    · (first | exact Or.inr (Or.inl ⟨rfl, by simp [effL]⟩) | exact FL.own (by omega) (by simp [effL]) (by simp [effL, upd_apply, ints]) | exact Or.inl (by simp [effL]))
    · repeat rw [upd_ne (by omega)]
  · refine AC.enter Try.func56 rfl Try.ntmps56 (by simp) ?_
    obtain ⟨j, rfl⟩ : ∃ j : Nat, a = j := ⟨a.toNat, by simp at hb; omega⟩
    have hj : j < m[k].regs.length := by have := hreg (by omega); omega
    simp [modV, actsC, actC, aload, afield, apart, upd_eq, upd_ne, aindex, hk, astore, upd_upd]
    refine drawK.intro mixed [(0, []), (1, []), (2, []), (3, []), (4, []), (5, []), (7, []), (6, []), (8, []), (9, [])] (by kernel_rfl) ?_
    simp [aload, afield, apart, upd_eq, upd_ne, aindex, abuildS, afillP, tek, chunk, hj]
    refine resK.same ⟨⟨_, _, rfl, ?_, ?_⟩, fun r hr => ?_⟩ (Nat.le_refl _)
    · (first | exact Or.inr (Or.inl ⟨rfl, by simp [effL, ea, List.getD_eq_getElem?_getD, hj]⟩) | exact FL.own (by omega) (by simp [effL, ea, List.getD_eq_getElem?_getD, hj]) (by simp [effL, upd_apply, ints, ea, List.getD_eq_getElem?_getD, hj]) | exact Or.inl (by simp [effL, ea, List.getD_eq_getElem?_getD, hj]))
    · (first | exact Or.inr (Or.inl ⟨rfl, by simp [effL, ea, List.getD_eq_getElem?_getD, hj]⟩) | exact FL.own (by omega) (by simp [effL, ea, List.getD_eq_getElem?_getD, hj]) (by simp [effL, upd_apply, ints, ea, List.getD_eq_getElem?_getD, hj]) | exact Or.inl (by simp [effL, ea, List.getD_eq_getElem?_getD, hj]))
    · repeat rw [upd_ne (by omega)]
  · refine AC.enter Try.func56 rfl Try.ntmps56 (by simp) ?_
    obtain ⟨j, rfl⟩ : ∃ j : Nat, a = j := ⟨a.toNat, by simp at hb; omega⟩
    have hj : j < m[k].regs.length := by have := hreg (by omega); omega
    simp [modV, actsC, actC, aload, afield, apart, upd_eq, upd_ne, aindex, hk, astore, upd_upd]
    simp [aload, apart, abuildS, afillP, tek, chunk, hj]
    refine resK.same ⟨⟨_, _, rfl, ?_, ?_⟩, fun r hr => ?_⟩ (Nat.le_refl _)
    · (first | exact Or.inr (Or.inl ⟨rfl, by simp [effL, ea, List.getD_eq_getElem?_getD, hj]⟩) | exact FL.own (by omega) (by simp [effL, ea, List.getD_eq_getElem?_getD, hj]) (by simp [effL, upd_apply, ints, ea, List.getD_eq_getElem?_getD, hj]) | exact Or.inl (by simp [effL, ea, List.getD_eq_getElem?_getD, hj]))
    · (first | exact Or.inr (Or.inl ⟨rfl, by simp [effL, ea, List.getD_eq_getElem?_getD, hj]⟩) | exact FL.own (by omega) (by simp [effL, ea, List.getD_eq_getElem?_getD, hj]) (by simp [effL, upd_apply, ints, ea, List.getD_eq_getElem?_getD, hj]) | exact Or.inl (by simp [effL, ea, List.getD_eq_getElem?_getD, hj]))
    · repeat rw [upd_ne (by omega)]
  · refine AC.enter Try.func56 rfl Try.ntmps56 (by simp) ?_
    simp [modV, actsC, actC, aload, afield, apart, upd_eq, upd_ne, aindex, hk, astore, upd_upd, abuildS, afillP, tek, chunk]
    refine resK.same ⟨⟨_, _, rfl, ?_, ?_⟩, fun r hr => ?_⟩ (Nat.le_refl _)
    · (first | exact Or.inr (Or.inl ⟨rfl, by simp [effL]⟩) | exact FL.own (by omega) (by simp [effL]) (by simp [effL, upd_apply, ints]) | exact Or.inl (by simp [effL]))
    · (first | exact Or.inr (Or.inl ⟨rfl, by simp [effL]⟩) | exact FL.own (by omega) (by simp [effL]) (by simp [effL, upd_apply, ints]) | exact Or.inl (by simp [effL]))
    · repeat rw [upd_ne (by omega)]
  · refine AC.enter Try.func56 rfl Try.ntmps56 (by simp) ?_
    simp [modV, actsC, actC, aload, afield, apart, upd_eq, upd_ne, aindex, hk, astore, upd_upd, abuildS, afillP, tek, chunk]
    refine resK.same ⟨⟨_, _, rfl, ?_, ?_⟩, fun r hr => ?_⟩ (Nat.le_refl _)
    · (first | exact Or.inr (Or.inl ⟨rfl, by simp [effL]⟩) | exact FL.own (by omega) (by simp [effL]) (by simp [effL, upd_apply, ints]) | exact Or.inl (by simp [effL]))
    · (first | exact Or.inr (Or.inl ⟨rfl, by simp [effL]⟩) | exact FL.own (by omega) (by simp [effL]) (by simp [effL, upd_apply, ints]) | exact Or.inl (by simp [effL]))
    · repeat rw [upd_ne (by omega)]
  · refine AC.enter Try.func56 rfl Try.ntmps56 (by simp) ?_
    simp [modV, actsC, actC, aload, afield, apart, upd_eq, upd_ne, aindex, hk, astore, upd_upd, abuildS, afillP, tek, chunk]
    refine resK.same ⟨⟨_, _, rfl, ?_, ?_⟩, fun r hr => ?_⟩ (Nat.le_refl _)
    · (first | exact Or.inr (Or.inl ⟨rfl, by simp [effL]⟩) | exact FL.own (by omega) (by simp [effL]) (by simp [effL, upd_apply, ints]) | exact Or.inl (by simp [effL]))
    · (first | exact Or.inr (Or.inl ⟨rfl, by simp [effL]⟩) | exact FL.own (by omega) (by simp [effL]) (by simp [effL, upd_apply, ints]) | exact Or.inl (by simp [effL]))
    · repeat rw [upd_ne (by omega)]
  · refine AC.enter Try.func56 rfl Try.ntmps56 (by simp) ?_
    simp [modV, actsC, actC, aload, afield, apart, upd_eq, upd_ne, aindex, hk, astore, upd_upd, abuildS, afillP, tek, chunk]
    refine resK.same ⟨⟨_, _, rfl, ?_, ?_⟩, fun r hr => ?_⟩ (Nat.le_refl _)
    · (first | exact Or.inr (Or.inl ⟨rfl, by simp [effL]⟩) | exact FL.own (by omega) (by simp [effL]) (by simp [effL, upd_apply, ints]) | exact Or.inl (by simp [effL]))
    · (first | exact Or.inr (Or.inl ⟨rfl, by simp [effL]⟩) | exact FL.own (by omega) (by simp [effL]) (by simp [effL, upd_apply, ints]) | exact Or.inl (by simp [effL]))
    · repeat rw [upd_ne (by omega)]
  · refine AC.enter Try.func56 rfl Try.ntmps56 (by simp) ?_
    simp [modV, actsC, actC, aload, afield, apart, upd_eq, upd_ne, aindex, hk, astore, upd_upd, abuildS, afillP, tek, chunk]
    refine resK.same ⟨⟨_, _, rfl, ?_, ?_⟩, fun r hr => ?_⟩ (Nat.le_refl _)
    · (first | exact Or.inr (Or.inl ⟨rfl, by simp [effL]⟩) | exact FL.own (by omega) (by simp [effL]) (by simp [effL, upd_apply, ints]) | exact Or.inl (by simp [effL]))
    · (first | exact Or.inr (Or.inl ⟨rfl, by simp [effL]⟩) | exact FL.own (by omega) (by simp [effL]) (by simp [effL, upd_apply, ints]) | exact Or.inl (by simp [effL]))
    · repeat rw [upd_ne (by omega)]
  · refine AC.enter Try.func56 rfl Try.ntmps56 (by simp) ?_
    simp [modV, actsC, actC, aload, afield, apart, upd_eq, upd_ne, aindex, hk, astore, upd_upd, abuildS, afillP, tek, chunk]
    refine resK.same ⟨⟨_, _, rfl, ?_, ?_⟩, fun r hr => ?_⟩ (Nat.le_refl _)
    · (first | exact Or.inr (Or.inl ⟨rfl, by simp [effL]⟩) | exact FL.own (by omega) (by simp [effL]) (by simp [effL, upd_apply, ints]) | exact Or.inl (by simp [effL]))
    · (first | exact Or.inr (Or.inl ⟨rfl, by simp [effL]⟩) | exact FL.own (by omega) (by simp [effL]) (by simp [effL, upd_apply, ints]) | exact Or.inl (by simp [effL]))
    · repeat rw [upd_ne (by omega)]
  · refine AC.enter Try.func56 rfl Try.ntmps56 (by simp) ?_
    simp [modV, actsC, actC, aload, afield, apart, upd_eq, upd_ne, aindex, hk, astore, upd_upd, abuildS, afillP, tek, chunk]
    refine resK.same ⟨⟨_, _, rfl, ?_, ?_⟩, fun r hr => ?_⟩ (Nat.le_refl _)
    · (first | exact Or.inr (Or.inl ⟨rfl, by simp [effL]⟩) | exact FL.own (by omega) (by simp [effL]) (by simp [effL, upd_apply, ints]) | exact Or.inl (by simp [effL]))
    · (first | exact Or.inr (Or.inl ⟨rfl, by simp [effL]⟩) | exact FL.own (by omega) (by simp [effL]) (by simp [effL, upd_apply, ints]) | exact Or.inl (by simp [effL]))
    · repeat rw [upd_ne (by omega)]
  · refine AC.enter Try.func56 rfl Try.ntmps56 (by simp) ?_
    simp [modV, actsC, actC, aload, afield, apart, upd_eq, upd_ne, aindex, hk, astore, upd_upd, abuildS, afillP, tek, chunk]
    refine resK.same ⟨⟨_, _, rfl, ?_, ?_⟩, fun r hr => ?_⟩ (Nat.le_refl _)
    · (first | exact Or.inr (Or.inl ⟨rfl, by simp [effL]⟩) | exact FL.own (by omega) (by simp [effL]) (by simp [effL, upd_apply, ints]) | exact Or.inl (by simp [effL]))
    · (first | exact Or.inr (Or.inl ⟨rfl, by simp [effL]⟩) | exact FL.own (by omega) (by simp [effL]) (by simp [effL, upd_apply, ints]) | exact Or.inl (by simp [effL]))
    · repeat rw [upd_ne (by omega)]
  · refine AC.enter Try.func56 rfl Try.ntmps56 (by simp) ?_
    simp [modV, actsC, actC, aload, afield, apart, upd_eq, upd_ne, aindex, hk, astore, upd_upd, abuildS, afillP, tek, chunk]
    refine resK.same ⟨⟨_, _, rfl, ?_, ?_⟩, fun r hr => ?_⟩ (Nat.le_refl _)
    · (first | exact Or.inr (Or.inl ⟨rfl, by simp [effL]⟩) | exact FL.own (by omega) (by simp [effL]) (by simp [effL, upd_apply, ints]) | exact Or.inl (by simp [effL]))
    · (first | exact Or.inr (Or.inl ⟨rfl, by simp [effL]⟩) | exact FL.own (by omega) (by simp [effL]) (by simp [effL, upd_apply, ints]) | exact Or.inl (by simp [effL]))
    · repeat rw [upd_ne (by omega)]
  · refine AC.enter Try.func56 rfl Try.ntmps56 (by simp) ?_
    simp [modV, actsC, actC, aload, afield, apart, upd_eq, upd_ne, aindex, hk, astore, upd_upd, abuildS, afillP, tek, chunk]
    refine resK.same ⟨⟨_, _, rfl, ?_, ?_⟩, fun r hr => ?_⟩ (Nat.le_refl _)
    · (first | exact Or.inr (Or.inl ⟨rfl, by simp [effL]⟩) | exact FL.own (by omega) (by simp [effL]) (by simp [effL, upd_apply, ints]) | exact Or.inl (by simp [effL]))
    · (first | exact Or.inr (Or.inl ⟨rfl, by simp [effL]⟩) | exact FL.own (by omega) (by simp [effL]) (by simp [effL, upd_apply, ints]) | exact Or.inl (by simp [effL]))
    · repeat rw [upd_ne (by omega)]
  · refine AC.enter Try.func56 rfl Try.ntmps56 (by simp) ?_
    simp [modV, actsC, actC, aload, afield, apart, upd_eq, upd_ne, aindex, hk, astore, upd_upd]
    refine resK.same ⟨⟨_, _, rfl, ?_, ?_⟩, fun r hr => ?_⟩ (Nat.le_refl _)
    · (first | exact Or.inr (Or.inl ⟨rfl, by simp [effL]⟩) | exact FL.own (by omega) (by simp [effL]) (by simp [effL, upd_apply, ints]) | exact Or.inl (by simp [effL]))
    · (first | exact Or.inr (Or.inl ⟨rfl, by simp [effL]⟩) | exact FL.own (by omega) (by simp [effL]) (by simp [effL, upd_apply, ints]) | exact Or.inl (by simp [effL]))
    · repeat rw [upd_ne (by omega)]
  · refine AC.enter Try.func56 rfl Try.ntmps56 (by simp) ?_
    simp [modV, actsC, actC, aload, afield, apart, upd_eq, upd_ne, aindex, hk, astore, upd_upd, abuildS, afillP, tek, chunk]
    refine resK.same ⟨⟨_, _, rfl, ?_, ?_⟩, fun r hr => ?_⟩ (Nat.le_refl _)
    · (first | exact Or.inr (Or.inl ⟨rfl, by simp [effL]⟩) | exact FL.own (by omega) (by simp [effL]) (by simp [effL, upd_apply, ints]) | exact Or.inl (by simp [effL]))
    · (first | exact Or.inr (Or.inl ⟨rfl, by simp [effL]⟩) | exact FL.own (by omega) (by simp [effL]) (by simp [effL, upd_apply, ints]) | exact Or.inl (by simp [effL]))
    · repeat rw [upd_ne (by omega)]
  · refine AC.enter Try.func56 rfl Try.ntmps56 (by simp) ?_
    simp [modV, actsC, actC, aload, afield, apart, upd_eq, upd_ne, aindex, hk, astore, upd_upd]
    refine ACK.rt (pid06_ac k _ _ (by omega)) ?_
    simp [abuildS, afillP, tek, chunk]
    refine resK.same ⟨⟨_, _, rfl, ?_, ?_⟩, fun r hr => ?_⟩ (Nat.le_refl _)
    · (first | exact Or.inr (Or.inl ⟨rfl, by simp [effL]⟩) | exact FL.own (by omega) (by simp [effL]) (by simp [effL, upd_apply, ints]) | exact Or.inl (by simp [effL]))
    · (first | exact Or.inr (Or.inl ⟨rfl, by simp [effL]⟩) | exact FL.own (by omega) (by simp [effL]) (by simp [effL, upd_apply, ints]) | exact Or.inl (by simp [effL]))
    · repeat rw [upd_ne (by omega)]
  · refine AC.enter Try.func56 rfl Try.ntmps56 (by simp) ?_
    obtain ⟨j, rfl⟩ : ∃ j : Nat, a = j := ⟨a.toNat, by simp at hb; omega⟩
    have hj : j < m.length := by have := hspn rfl; omega
    have ej : actr m (j : Int) = m[j] := by simp [actr, List.getD_eq_getElem?_getD, hj]
    simp [modV, actsC, actC, aload, afield, apart, upd_eq, upd_ne, aindex, hk, astore, upd_upd]
    refine drawK.intro mixed [(0, []), (1, []), (2, []), (3, []), (4, []), (5, []), (6, []), (7, []), (8, []), (9, [1, 3, 4, 6]), (11, []), (10, [1, 3, 4, 6]), (12, []), (13, [])] (by kernel_rfl) ?_
    simp [actC, aload, afield, apart, upd_eq, upd_ne, aindex, upd_ne hne2, hj]
    refine ACK.rt (pid06_ac j _ _ (by omega)) ?_
    simp [actC, upd_eq, upd_ne, abuildS, afillP, tek, chunk, upd_ne hne2, hj, lk_some, chkK, upd_ne (show n ≠ n + 1 + 1 + 1 by omega)]
    refine resK.same ⟨⟨_, _, rfl, ?_, ?_⟩, fun r hr => ?_⟩ (Nat.le_refl _)
    · (first | exact Or.inr (Or.inl ⟨rfl, by simp [effL, ej]⟩) | exact FL.own (by omega) (by simp [effL, ej]) (by simp [effL, upd_apply, ints, ej]) | exact Or.inl (by simp [effL, ej]))
    · (first | exact Or.inr (Or.inl ⟨rfl, by simp [effL, ej]⟩) | exact FL.own (by omega) (by simp [effL, ej]) (by simp [effL, upd_apply, ints, ej]) | exact Or.inl (by simp [effL, ej]))
    · repeat rw [upd_ne (by omega)]
  · refine AC.enter Try.func56 rfl Try.ntmps56 (by simp) ?_
    simp [modV, actsC, actC, aload, afield, apart, upd_eq, upd_ne, aindex, hk, astore, upd_upd]
    refine resK.same ⟨⟨_, _, rfl, ?_, ?_⟩, fun r hr => ?_⟩ (Nat.le_refl _)
    · (first | exact Or.inr (Or.inl ⟨rfl, by simp [effL]⟩) | exact FL.own (by omega) (by simp [effL]) (by simp [effL, upd_apply, ints]) | exact Or.inl (by simp [effL]))
    · (first | exact Or.inr (Or.inl ⟨rfl, by simp [effL]⟩) | exact FL.own (by omega) (by simp [effL]) (by simp [effL, upd_apply, ints]) | exact Or.inl (by simp [effL]))
    · repeat rw [upd_ne (by omega)]
  · refine AC.enter Try.func56 rfl Try.ntmps56 (by simp) ?_
    obtain ⟨j, rfl⟩ : ∃ j : Nat, a = j := ⟨a.toNat, by simp at hb; omega⟩
    have hj : j < m[k].tabs.length := by have := hrcv rfl; omega
    have et : tbl m[k] (j : Int) = m[k].tabs[j] := by simp [tbl, List.getD_eq_getElem?_getD, hj]
    simp [modV, actsC, actC, aload, afield, apart, upd_eq, upd_ne, aindex, hk, astore, upd_upd, hj, tblsC, tblC]
    refine CondP.dec (fun h0 => ?_) (fun h0 => ?_)
    · simp [h0, abuildS, afillP, tek, chunk]
      refine resK.same ⟨⟨_, _, rfl, ?_, ?_⟩, fun r hr => ?_⟩ (Nat.le_refl _)
      · (first | exact Or.inr (Or.inl ⟨rfl, by simp [effL, ea, et, h0]⟩) | exact FL.own (by omega) (by simp [effL, ea, et, h0]) (by simp [effL, upd_apply, ints, ea, et, h0]) | exact Or.inl (by simp [effL, ea, et, h0]))
      · (first | exact Or.inr (Or.inl ⟨rfl, by simp [effL, ea, et, h0]⟩) | exact FL.own (by omega) (by simp [effL, ea, et, h0]) (by simp [effL, upd_apply, ints, ea, et, h0]) | exact Or.inl (by simp [effL, ea, et, h0]))
      · repeat rw [upd_ne (by omega)]
    · simp [h0]
      refine resK.same ⟨⟨_, _, rfl, ?_, ?_⟩, fun r hr => ?_⟩ (Nat.le_refl _)
      · (first | exact Or.inr (Or.inl ⟨rfl, by simp [effL, ea, et, h0]⟩) | exact FL.own (by omega) (by simp [effL, ea, et, h0]) (by simp [effL, upd_apply, ints, ea, et, h0]) | exact Or.inl (by simp [effL, ea, et, h0]))
      · (first | exact Or.inr (Or.inl ⟨rfl, by simp [effL, ea, et, h0]⟩) | exact FL.own (by omega) (by simp [effL, ea, et, h0]) (by simp [effL, upd_apply, ints, ea, et, h0]) | exact Or.inl (by simp [effL, ea, et, h0]))
      · repeat rw [upd_ne (by omega)]
  · refine AC.enter Try.func56 rfl Try.ntmps56 (by simp) ?_
    simp [modV, actsC, actC, aload, afield, apart, upd_eq, upd_ne, aindex, hk, astore, upd_upd]
    refine resK.same ⟨⟨_, _, rfl, ?_, ?_⟩, fun r hr => ?_⟩ (Nat.le_refl _)
    · (first | exact Or.inr (Or.inl ⟨rfl, by simp [effL]⟩) | exact FL.own (by omega) (by simp [effL]) (by simp [effL, upd_apply, ints]) | exact Or.inl (by simp [effL]))
    · (first | exact Or.inr (Or.inl ⟨rfl, by simp [effL]⟩) | exact FL.own (by omega) (by simp [effL]) (by simp [effL, upd_apply, ints]) | exact Or.inl (by simp [effL]))
    · repeat rw [upd_ne (by omega)]
  · refine AC.enter Try.func56 rfl Try.ntmps56 (by simp) ?_
    simp [modV, actsC, actC, aload, afield, apart, upd_eq, upd_ne, aindex, hk, astore, upd_upd, abuildS, afillP, tek, chunk]
    refine resK.same ⟨⟨_, _, rfl, ?_, ?_⟩, fun r hr => ?_⟩ (Nat.le_refl _)
    · (first | exact Or.inr (Or.inl ⟨rfl, by simp [effL]⟩) | exact FL.own (by omega) (by simp [effL]) (by simp [effL, upd_apply, ints]) | exact Or.inl (by simp [effL]))
    · (first | exact Or.inr (Or.inl ⟨rfl, by simp [effL]⟩) | exact FL.own (by omega) (by simp [effL]) (by simp [effL, upd_apply, ints]) | exact Or.inl (by simp [effL]))
    · repeat rw [upd_ne (by omega)]
  · refine AC.enter Try.func56 rfl Try.ntmps56 (by simp) ?_
    simp [modV, actsC, actC, aload, afield, apart, upd_eq, upd_ne, aindex, hk, astore, upd_upd, abuildS, afillP, tek, chunk]
    refine resK.same ⟨⟨_, _, rfl, ?_, ?_⟩, fun r hr => ?_⟩ (Nat.le_refl _)
    · (first | exact Or.inr (Or.inl ⟨rfl, by simp [effL]⟩) | exact FL.own (by omega) (by simp [effL]) (by simp [effL, upd_apply, ints]) | exact Or.inl (by simp [effL]))
    · (first | exact Or.inr (Or.inl ⟨rfl, by simp [effL]⟩) | exact FL.own (by omega) (by simp [effL]) (by simp [effL, upd_apply, ints]) | exact Or.inl (by simp [effL]))
    · repeat rw [upd_ne (by omega)]
  · refine AC.enter Try.func56 rfl Try.ntmps56 (by simp) ?_
    simp [modV, actsC, actC, aload, afield, apart, upd_eq, upd_ne, aindex, hk, astore, upd_upd]
    refine resK.same ⟨⟨_, _, rfl, ?_, ?_⟩, fun r hr => ?_⟩ (Nat.le_refl _)
    · (first | exact Or.inr (Or.inl ⟨rfl, by simp [effL]⟩) | exact FL.own (by omega) (by simp [effL]) (by simp [effL, upd_apply, ints]) | exact Or.inl (by simp [effL]))
    · (first | exact Or.inr (Or.inl ⟨rfl, by simp [effL]⟩) | exact FL.own (by omega) (by simp [effL]) (by simp [effL, upd_apply, ints]) | exact Or.inl (by simp [effL]))
    · repeat rw [upd_ne (by omega)]
  · refine AC.enter Try.func56 rfl Try.ntmps56 (by simp) ?_
    simp [modV, actsC, actC, aload, afield, apart, upd_eq, upd_ne, aindex, hk, astore, upd_upd]
    refine resK.same ⟨⟨_, _, rfl, ?_, ?_⟩, fun r hr => ?_⟩ (Nat.le_refl _)
    · (first | exact Or.inr (Or.inl ⟨rfl, by simp [effL]⟩) | exact FL.own (by omega) (by simp [effL]) (by simp [effL, upd_apply, ints]) | exact Or.inl (by simp [effL]))
    · (first | exact Or.inr (Or.inl ⟨rfl, by simp [effL]⟩) | exact FL.own (by omega) (by simp [effL]) (by simp [effL, upd_apply, ints]) | exact Or.inl (by simp [effL]))
    · repeat rw [upd_ne (by omega)]

/-- a list that counts when there is no error -/
def roE (e : Int) (l : List Int) : AVal := if e = 0 then .rs 1 (ints l) else .undef
theorem roE_zero (l : List Int) : roE 0 l = .rs 1 (ints l) := rfl
theorem roE_ne {e : Int} (h : e ≠ 0) (l : List Int) : roE e l = .undef := by unfold roE; rw [if_neg h]
theorem roE_nq (η : AHeap) (e : Int) (l : List Int) : NQ η (roE e l) := by
  unfold roE; split
  · exact ints_nq η l
  · exact .undef
theorem AC.gleE {P : Program} {f : FuncId} {args : List AVal} {η : AHeap} {n : Nat} {l : List Int} {e : Int} (hl : l.length ≤ lenMax) (h : AC P f args η n fun v η' _ => (∃ u, v = .tup [u, .int .i64 e] ∧ (e = 0 → FL n η' u l)) ∧ ∀ r, r < n → η' r = η r) : AC P f args η n (Rt (.tup [roE e l, .int .i64 e]) η n) := by
  refine AC.gnd1 (.tup _ (by simp; exact ⟨roE_nq η e l, .int _ _⟩)) 2 (h.mono ?_)
  rintro v η' n' ⟨⟨u, rfl, h1⟩, h2⟩
  refine ⟨h2, ?_⟩
  rw [gnd_tup]
  refine Ent.tup ⟨?_, by rw [gnd_int]; exact Ent.refl _, trivial⟩
  by_cases he : e = 0
  · have := (h1 he).gnd hl 0
    subst he; exact this
  · rw [roE_ne he]; exact Ent.undef _
def oddL (c : Lc) (i : Int × Int) (s : List Int) : List Int × Int :=
  if i.1 = 20 then sendL c i.2 s else if s = [] then ([], 12) else if i.1 = 22 ∧ (actT (s.getLastD 0)).2 = false then ([], 10) else (if i.1 = 26 then s ++ [s.getLastD 0] else s.dropLast, 0)
theorem oddL_len (c : Lc) (i : Int × Int) (s : List Int) : (oddL c i s).1.length ≤ s.length + 1 := by
  have := sendL_len c i.2 s
  unfold oddL
  by_cases a2 : i.1 = 20
  · rw [if_pos a2]; omega
  rw [if_neg a2]
  by_cases a4 : s = []
  · simp [a4]
  rw [if_neg a4]
  by_cases a5 : i.1 = 22 ∧ (actT (s.getLastD 0)).2 = false
  · rw [if_pos a5]; simp
  · rw [if_neg a5]; simp only; split <;> simp; omega
theorem rs_hi {l : List Int} {x : Nat} {k : IntKind} {η : AHeap} (hx : x ≤ l.length) : asliceV Try.prog 52 (.rs 1 (ints l)) none (some (.int k x)) none η = some (.rs 1 (ints (l.take x))) := by
  simp [asliceV, abnd, hx]
  simp [ints]
theorem rs_lo {l : List Int} {x : Nat} {k : IntKind} {η : AHeap} (hx : x ≤ l.length) : asliceV Try.prog 52 (.rs 1 (ints l)) (some (.int k x)) none none η = some (.rs 1 (ints (l.drop x))) := by
  simp [asliceV, abnd, hx]
  simp [ints, tk_all]
theorem odd06_ac (m : List Actr) (k : Nat) (i : Int × Int) (s : List Int) (_ : m.length ≤ 8) (hA : 0 ≤ i.2) (hT : TyOK m.length s) (hl : s.length ≤ 16) (hi : i.1 = 20 ∨ i.1 = 22 ∨ i.1 = 25 ∨ i.1 = 26) (η : AHeap) (n : Nat) :
    AC Try.prog 57 [modV m, .agg [.int .i64 i.1, .int .i64 i.2], .rs 1 (ints s)] η n (Rt (.tup [roE (oddL ⟨m, k, actr m k⟩ i s).2 (oddL ⟨m, k, actr m k⟩ i s).1, .int .i64 (oddL ⟨m, k, actr m k⟩ i s).2]) η n) := by
  refine AC.gleE (Nat.le_trans (oddL_len ..) (by simp only [lenMax]; omega)) ?_
  generalize hc : (⟨m, k, actr m k⟩ : Lc) = c
  have hcm : c.m = m := by rw [← hc]
  obtain ⟨op, a⟩ := i
  simp only at hA hi
  have hs0 : s = [] ∨ 0 < s.length := by cases s <;> simp
  have o2 : ∀ o1 o2 x, x < n → (upd (upd η n o1) (n + 1) o2) x = η x := fun o1 o2 x hx => by rw [upd_ne (by omega), upd_ne (by omega)]
  have fin : ∀ {fr : Nat → AVal} {nt : Nat} {o o' : Option AObj} {u : AVal} {l : List Int} {e : Int} {i : Int × Int} {gg}, oddL c i s = (l, e) → (e = 0 → FL n (upd (upd η n o) (n + 1) o') u l) →
      resK (some (.tup [u, .int .i64 e])) ⟨fr, nt, upd (upd η n o) (n + 1) o', n + 1 + 1⟩ (fun v η' _ => (∃ u, v = .tup [u, .int .i64 (oddL c i s).2] ∧ ((oddL c i s).2 = 0 → FL n η' u (oddL c i s).1)) ∧ ∀ r, r < n → η' r = η r) gg :=
    fun he hu => resK.same ⟨⟨_, by rw [he], by rw [he]; exact hu⟩, o2 _ _⟩ (Nat.le_refl _)
  by_cases h0 : s = []
  · subst h0
    rcases hi with rfl | rfl | rfl | rfl
    all_goals
      refine AC.enter Try.func57 rfl Try.ntmps57 (by simp) ?_
      simp [modV]
      exact fin (l := []) (by simp [oddL, sendL]) (by simp)
  have hp : 0 < s.length := List.length_pos_iff.2 h0
  have hp' : ¬ ((s.length : Int) < 1) := by omega
  have hk : s.length - 1 < s.length := by omega
  have ek : (s.length : Int) - 1 = ((s.length - 1 : Nat) : Int) := by omega
  have e3 : IntKind.i64.wrap ((s.length - 1 : Nat) : Int) = ((s.length - 1 : Nat) : Int) := wrap_id (by omega) (by omega)
  have hr := hT s[s.length - 1] (List.getElem_mem ..)
  have eg : s.getLastD 0 = s[s.length - 1] := by rw [List.getLastD_eq_getLast?, List.getLast?_eq_getElem?, List.getElem?_eq_getElem hk, Option.getD_some]
  have ed : s.dropLast = s.take (s.length - 1) := List.dropLast_eq_take
  have hhi : ∀ η, asliceV Try.prog 52 (.rs 1 (ints s)) none (some (.int .i64 ((s.length - 1 : Nat) : Int))) none η = some (.rs 1 (ints (s.take (s.length - 1)))) := fun η => rs_hi (by omega)
  have hlo : ∀ η, asliceV Try.prog 52 (.rs 1 (ints s)) (some (.int .i64 ((s.length - 1 : Nat) : Int))) none none η = some (.rs 1 (ints (s.drop (s.length - 1)))) := fun η => rs_lo (by omega)
  have hdl : s.drop (s.length - 1) = [s[s.length - 1]] := by rw [List.drop_eq_getElem_cons hk, List.drop_eq_nil_of_le (by omega)]
  rcases hi with rfl | rfl | rfl | rfl
  · by_cases h2l : s.length < 2
    · have h1l : (s.length : Int) < 2 := by omega
      refine AC.enter Try.func57 rfl Try.ntmps57 (by simp) ?_
      simp [modV, aload, afield, apart, upd_eq, hp', ints_length, h1l]
      exact fin (l := []) (by simp [oddL, sendL, h2l]) (by simp)
    have h1l : ¬ (s.length : Int) < 2 := by omega
    have hk2 : s.length - 2 < s.length := by omega
    have ek2 : (s.length : Int) - 2 = ((s.length - 2 : Nat) : Int) := by omega
    have e32 : IntKind.i64.wrap ((s.length - 2 : Nat) : Int) = ((s.length - 2 : Nat) : Int) := wrap_id (by omega) (by omega)
    have hr2 := hT s[s.length - 2] (List.getElem_mem ..)
    have eg2 : s.getD (s.length - 2) 0 = s[s.length - 2] := by simp [List.getD_eq_getElem?_getD, hk2]
    have hhi2 : ∀ η, asliceV Try.prog 52 (.rs 1 (ints s)) none (some (.int .i64 ((s.length - 2 : Nat) : Int))) none η = some (.rs 1 (ints (s.take (s.length - 2)))) := fun η => rs_hi (by omega)
    have es : oddL c (20, a) s = sendL c a s := by simp [oddL]
    refine AC.enter Try.func57 rfl Try.ntmps57 (by simp) ?_
    simp [modV, aload, afield, apart, upd_eq, hp', ints_length, h1l, ek2, e32, aindex, hk2]
    refine ACK.rt (actor02_ac _ _ _ (rightT_i64 hr2)) ?_
    cases h2 : (actT s[s.length - 2]).2
    · simp
      exact fin (l := []) (i := (20, a)) (by rw [es]; simp only [sendL]; rw [if_neg h2l, eg2, if_pos h2]) (by simp)
    obtain ⟨j, ej, hj⟩ := actT_of hr2 h2
    have ea : actr c.m (j : Int) = m[j] := by rw [hcm]; simp [actr, List.getD_eq_getElem?_getD, hj]
    simp [ej]
    refine drawK.intro mixed [(0, []), (1, []), (2, []), (3, []), (4, []), (5, []), (6, []), (7, []), (8, []), (9, [])] (by kernel_rfl) ?_
    simp [aload, afield, apart, upd_eq, upd_ne, aindex, actsC, actC, hj]
    obtain ⟨b, rfl⟩ : ∃ b : Nat, a = b := ⟨a.toNat, by omega⟩
    have es' : sendL c (b : Int) s = if b < m[j].msgs.length then (s.take (s.length - 2), if s.drop (s.length - 1) = [m[j].msgs.getD b 0] then 0 else 10) else ([], 6) := by
      simp only [sendL]
      rw [if_neg h2l, eg2, if_neg (by simp [h2]), ej, ea]
      simp
    refine CondP.dec (fun h3 => ?_) (fun h3 => ?_)
    · have h3' : ¬ b < m[j].msgs.length := by omega
      simp [h3]
      exact fin (l := []) (i := (20, (b : Int))) (by rw [es, es', if_neg h3']) (by simp)
    have h3' : b < m[j].msgs.length := by omega
    have et : m[j].msgs.getD b 0 = m[j].msgs[b] := by simp [List.getD_eq_getElem?_getD, h3']
    rw [if_pos h3', et, hdl] at es'
    simp [h3]
    refine drawK.intro mixed [(0, []), (1, []), (2, []), (3, []), (4, []), (5, []), (6, []), (7, []), (8, []), (9, []), (10, []), (11, []), (12, []), (13, []), (14, []), (15, [])] (by kernel_rfl) ?_
    simp [aload, afield, apart, upd_eq, upd_ne, aindex, actC, hj, h3', ek, e3, hk, ints_length]
    by_cases h4 : s[s.length - 1] = m[j].msgs[b]
    · rw [if_pos (by rw [h4])] at es'
      simp [h4, ek2, e32, hhi2]
      exact fin (l := s.take (s.length - 2)) (i := (20, (b : Int))) (by rw [es, es']) (fun _ => Or.inl rfl)
    · rw [if_neg (by simpa using h4)] at es'
      simp [h4]
      exact fin (l := s.take (s.length - 2)) (i := (20, (b : Int))) (by rw [es, es']) (by simp)
  · refine AC.enter Try.func57 rfl Try.ntmps57 (by simp) ?_
    simp [modV, aload, afield, apart, upd_eq, hp', ints_length, ek, e3, aindex, hk]
    refine ACK.rt (actor02_ac _ _ _ (rightT_i64 hr)) ?_
    cases h2 : (actT s[s.length - 1]).2
    · simp
      exact fin (l := []) (i := (22, a)) (by simp only [oddL]; rw [if_neg (by omega), if_neg h0, eg, if_pos ⟨trivial, h2⟩]) (by simp)
    · simp [ek, e3, hhi]
      exact fin (l := s.take (s.length - 1)) (i := (22, a)) (by simp only [oddL]; rw [if_neg (by omega), if_neg h0, eg, if_neg (by simp [h2]), if_neg (by omega), ed]) (fun _ => Or.inl rfl)
  · refine AC.enter Try.func57 rfl Try.ntmps57 (by simp) ?_
    simp [modV, aload, afield, apart, upd_eq, hp', ints_length, ek, e3, hhi]
    exact fin (l := s.take (s.length - 1)) (by simp [oddL, h0, ed]) (fun _ => Or.inl rfl)
  · refine AC.enter Try.func57 rfl Try.ntmps57 (by simp) ?_
    simp [modV, aload, afield, apart, upd_eq, hp', ints_length, ek, e3, hlo]
    refine ACK.rt (with06_ac s _ _ _ (by omega) (by rw [hdl]; simp)) ?_
    simp
    exact fin (l := s ++ [s[s.length - 1]]) (by simp only [oddL]; rw [if_neg (by omega), if_neg h0, if_neg (by omega), eg]; simp) (fun _ => Or.inl (by rw [hdl]))

theorem behL_plain (c : Lc) (i : Int × Int) (s : List Int) (hl : s.length ≤ 16) : behL c i s = (if namesL c i = false then ([], 6) else if plainB i.1 = true then high ((popL s (effL c i).1).1 ++ (effL c i).2) (popL s (effL c i).1).2 else high (oddL c i s).1 (oddL c i s).2) := by
  unfold behL
  by_cases a1 : namesL c i = false
  · rw [if_pos a1, if_pos a1]
  rw [if_neg a1, if_neg a1]
  by_cases a2 : i.1 = 20
  · have e : oddL c i s = sendL c i.2 s := by simp [oddL, a2]
    have := sendL_len c i.2 s
    have hp : plainB i.1 = false := by simp [plainB, a2]
    rw [if_pos a2, hp, e]
    simp only [Bool.false_eq_true, if_false]
    unfold high
    rw [if_neg (by omega)]
  rw [if_neg a2]
  by_cases a3 : i.1 = 22 ∨ i.1 = 25 ∨ i.1 = 26
  · have hp : plainB i.1 = false := by unfold plainB; exact decide_eq_false (by omega)
    rw [if_pos a3, hp, oddL, if_neg a2]
    simp only [Bool.false_eq_true, if_false]
    by_cases a4 : s = []
    · rw [if_pos a4, if_pos a4]; rfl
    rw [if_neg a4, if_neg a4]
    by_cases a5 : i.1 = 22 ∧ (actT (s.getLastD 0)).2 = false
    · rw [if_pos a5, if_pos a5]; rfl
    · rw [if_neg a5, if_neg a5]
  · have hp : plainB i.1 = true := by unfold plainB; exact decide_eq_true (by omega)
    rw [if_neg a3, if_pos hp]
theorem behind06_ac (m : List Actr) (k : Nat) (i : Int × Int) (s : List Int) (hk : k < m.length) (hc : LcOK ⟨m, k, actr m k⟩) (hi : rightI i = true) (hT : TyOK m.length s) (hl : s.length ≤ 16) (η : AHeap) (n : Nat) :
    AC Try.prog 30 [modV m, .int .i64 k, .agg [.int .i64 i.1, .int .i64 i.2], .rs 1 (ints s)] η n (Rt (.tup [roE (behL ⟨m, k, actr m k⟩ i s).2 (behL ⟨m, k, actr m k⟩ i s).1, .int .i64 (behL ⟨m, k, actr m k⟩ i s).2]) η n) := by
  refine AC.gleE (Nat.le_trans (behL_len ..) (by simp only [lenMax]; omega)) ?_
  have hb := rightI_bd hi
  have hml := hc.ml
  simp only at hml
  have hna := fun η n => named06_ac m k i hk η n
  have hpl := fun hn η n => plain06_ac m k i hk hc hi hn η n
  have hod := fun hA hi η n => odd06_ac m k i s hml hA hT hl hi η n
  have hp16 : (effL ⟨m, k, actr m k⟩ i).1.length ≤ 16 := effL_tk _ _ fun j => by have := hc.par j; omega
  have hp1 := effL_len ⟨m, k, actr m k⟩ i
  have hbl : behL ⟨m, k, actr m k⟩ i s = (if namesL ⟨m, k, actr m k⟩ i = false then ([], 6) else if plainB i.1 = true then high ((popL s (effL ⟨m, k, actr m k⟩ i).1).1 ++ (effL ⟨m, k, actr m k⟩ i).2) (popL s (effL ⟨m, k, actr m k⟩ i).1).2 else high (oddL ⟨m, k, actr m k⟩ i s).1 (oddL ⟨m, k, actr m k⟩ i s).2) := behL_plain _ _ _ hl
  have hoi : plainB i.1 = false → i.1 = 20 ∨ i.1 = 22 ∨ i.1 = 25 ∨ i.1 = 26 := fun h => by simp [plainB] at h; omega
  generalize (⟨m, k, actr m k⟩ : Lc) = c at *
  obtain ⟨op, a⟩ := i
  simp only [modV, actsC] at hna hpl hod
  have o2 : ∀ o1 o2 x, x < n → (upd (upd η n o1) (n + 1) o2) x = η x := fun o1 o2 x hx => by rw [upd_ne (by omega), upd_ne (by omega)]
  have fin : ∀ {fr : Nat → AVal} {nt : Nat} {o o' : Option AObj} {u : AVal} {l : List Int} {e : Int} {gg}, behL c (op, a) s = (l, e) → (e = 0 → FL n (upd (upd η n o) (n + 1) o') u l) →
      resK (some (.tup [u, .int .i64 e])) ⟨fr, nt, upd (upd η n o) (n + 1) o', n + 1 + 1⟩ (fun v η' _ => (∃ u, v = .tup [u, .int .i64 (behL c (op, a) s).2] ∧ ((behL c (op, a) s).2 = 0 → FL n η' u (behL c (op, a) s).1)) ∧ ∀ r, r < n → η' r = η r) gg :=
    fun he hu => resK.same ⟨⟨_, by rw [he], by rw [he]; exact hu⟩, o2 _ _⟩ (Nat.le_refl _)
  refine AC.enter Try.func30 rfl Try.ntmps30 (by simp) ?_
  simp [modV, actsC, aload, apart, upd_eq, upd_ne]
  refine ACK.rt (hna _ _) ?_
  cases hN : namesL c (op, a)
  · rw [if_pos hN] at hbl
    simp
    exact fin hbl (by simp)
  have hpl' := hpl hN
  rw [if_neg (by simp [hN])] at hbl
  simp [aload, apart, upd_eq, upd_ne]
  refine ACK.rt (hpl' _ _) ?_
  cases hP : plainB op
  · rw [if_neg (by simp [hP])] at hbl
    simp [aload, apart, upd_eq, upd_ne]
    have hA : 0 ≤ a := by have := hoi hP; simp only at this hb; omega
    refine ACK.rt (hod hA (hoi hP) _ _) ?_
    have hol := oddL_len c (op, a) s
    generalize (oddL c (op, a) s).1 = out at *
    generalize (oddL c (op, a) s).2 = e at *
    by_cases he : e = 0
    · simp [he, roE_zero, ints_length]
      refine CondP.dec (fun h4 => ?_) (fun h4 => ?_)
      · simp [h4]
        exact fin (l := out) (by rw [hbl, high, if_pos ⟨he, by omega⟩]) (by simp)
      · simp [h4]
        exact fin (l := out) (by rw [hbl, high, if_neg (by omega), he]) (fun _ => Or.inl rfl)
    · simp [he]
      exact fin (l := out) (by rw [hbl, high, if_neg (by omega)]) (fun h => absurd h he)
  · rw [if_pos hP] at hbl
    generalize (effL c (op, a)).1 = tk at *
    generalize (effL c (op, a)).2 = pt at *
    simp [ints_length]
    refine CondP.dec (fun h1 => ?_) (fun h1 => ?_)
    · have h1' : s.length < tk.length := by omega
      simp [h1]
      exact fin (l := (popL s tk).1 ++ pt) (by rw [hbl, high]; simp [popL, h1']) (by simp)
    have h1' : ¬ s.length < tk.length := by omega
    have ek : (s.length : Int) - (tk.length : Int) = ((s.length - tk.length : Nat) : Int) := by omega
    have e3 : IntKind.i64.wrap ((s.length - tk.length : Nat) : Int) = ((s.length - tk.length : Nat) : Int) := wrap_id (by omega) (by omega)
    have hhi : ∀ η, asliceV Try.prog 52 (.rs 1 (ints s)) none (some (.int .i64 ((s.length - tk.length : Nat) : Int))) none η = some (.rs 1 (ints (s.take (s.length - tk.length)))) := fun η => rs_hi (by omega)
    have hlo : ∀ η, asliceV Try.prog 52 (.rs 1 (ints s)) (some (.int .i64 ((s.length - tk.length : Nat) : Int))) none none η = some (.rs 1 (ints (s.drop (s.length - tk.length)))) := fun η => rs_lo (by omega)
    simp [h1, ints_length, ek, e3, hlo]
    refine ACK.rt (same02_ac (Or.inl rfl) (Or.inl rfl) (by simp; omega)) ?_
    by_cases h3 : s.drop (s.length - tk.length) = tk
    · have ep : popL s tk = (s.take (s.length - tk.length), 0) := by simp [popL, h1', h3]
      rw [ep] at hbl
      simp [h3, ints_length, ek, e3, hhi]
      refine ACK.rt (with06_ac _ pt _ _ (by simp; omega) (by omega)) ?_
      simp [ints_length]
      have el : (s.take (s.length - tk.length) ++ pt).length = s.length - tk.length + pt.length := by simp
      refine CondP.dec (fun h4 => ?_) (fun h4 => ?_)
      · simp [h4]
        exact fin (l := s.take (s.length - tk.length) ++ pt) (by rw [hbl, high, if_pos ⟨rfl, by simp only [el]; omega⟩]) (by simp)
      · simp [h4]
        exact fin (l := s.take (s.length - tk.length) ++ pt) (by rw [hbl, high, if_neg (by simp only [el]; omega)]) (fun _ => Or.inl rfl)
    · have ep : popL s tk = ([], 10) := by simp [popL, h1', h3]
      rw [ep] at hbl
      simp [h3]
      exact fin (l := [] ++ pt) (by rw [hbl, high, if_neg (by omega)]) (by simp)
end Go.Proofs.Ytkhoelmbcmkhjaa
