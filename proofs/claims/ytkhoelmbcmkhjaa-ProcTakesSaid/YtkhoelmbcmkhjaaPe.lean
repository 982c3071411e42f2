/- proc.New, Got, Ready. -/
import Derived.Test.YtkhoelmbcmkhjaaPd
import Derived.Test.YtkhoelmbcmkhjaaAj
namespace Go.Proofs.Ytkhoelmbcmkhjaa
set_option maxRecDepth 100000

theorem take_min {α : Type} (l : List α) (k : Nat) : l.take (min l.length k) = l.take k := by
  rcases Nat.le_total l.length k with h | h
  · rw [Nat.min_eq_left h, List.take_length, List.take_of_length_le h]
  · rw [Nat.min_eq_right h]
theorem IsL.rows {η : AHeap} {v : AVal} {l : List Int} (h : IsL η v l) : arows 1 v η = some (ints l) := by
  rcases h with rfl | ⟨rfl, rfl⟩ | ⟨r, o, I, J, rfl, ho, hr⟩
  · simp [arows]
  · rfl
  · have ht := take_ints I l J
    rw [← ho] at ht
    have hlen : o + l.length ≤ I.length + (l.length + J.length) := by omega
    simp [arows, hr, hlen, ht]
def newF (m : List Actr) (k : Int) (args : List Int) : Sta × Int :=
  if k < 0 ∨ (m.length : Int) ≤ k then (sta0, 6) else if args.length ≠ (actr m k).params.length then (sta0, 1)
  else (⟨k, 0, [], args.take (actr m k).regs.length ++ List.replicate ((actr m k).regs.length - args.length) 0, false, -1⟩, 0)
/-- a state as New and Got hand it back -/
def NewR (η : AHeap) (n : Nat) (s : Sta) (err : Int) : AVal → AHeap → Nat → Prop := fun r η' n' => ∃ sv rv, r = .tup [.agg (stC s sv rv), .int .i64 err] ∧ IsL η' sv s.stack ∧ IsL η' rv s.regs ∧ (∀ r, r < n → η' r = η r) ∧ n ≤ n'
theorem new_ac (m : List Actr) (k : Int) (args : List Int) (η : AHeap) (n : Nat) {v : AVal} (h : IsL η v args) (hr : ∀ a ∈ m, a.regs.length ≤ 17592186044416) :
    AC Try.prog 35 [modV m, .int .i64 k, v] η n (NewR η n (newF m k args).1 (newF m k args).2) := by
  have l1 : ∀ η', alenT Try.prog 25 v η' = some (args.length : Int) := h.len (by simp)
  have z1 := h.sc
  have z2 := h.ac
  by_cases c1 : k < 0
  · have e : newF m k args = (sta0, 6) := if_pos (Or.inl c1)
    rw [e]
    refine AC.fresh fun hf => ?_; refine AC.enter Try.func35 rfl Try.ntmps35 (by simp) ?_
    simp [modV, aload, afield, apart, upd_apply, Nat.add_assoc, c1, abuild, aplace, afillP, astore]
    exact resK.rt ⟨.nils, .nils, rfl, Or.inr (Or.inl ⟨rfl, rfl⟩), Or.inr (Or.inl ⟨rfl, rfl⟩), fun r hr => by simp only [upd_apply]; repeat rw [if_neg (by omega)], by omega⟩
  by_cases c2 : (m.length : Int) ≤ k
  · have e : newF m k args = (sta0, 6) := if_pos (Or.inr c2)
    rw [e]
    refine AC.fresh fun hf => ?_; refine AC.enter Try.func35 rfl Try.ntmps35 (by simp) ?_
    simp [modV, aload, afield, apart, upd_apply, Nat.add_assoc, c1, c2, abuild, aplace, afillP, astore]
    exact resK.rt ⟨.nils, .nils, rfl, Or.inr (Or.inl ⟨rfl, rfl⟩), Or.inr (Or.inl ⟨rfl, rfl⟩), fun r hr => by simp only [upd_apply]; repeat rw [if_neg (by omega)], by omega⟩
  obtain ⟨j, rfl⟩ : ∃ j : Nat, k = (j : Int) := ⟨k.toNat, by omega⟩
  have hj : j < m.length := by omega
  obtain ⟨A, hA⟩ : ∃ A, m[j]'hj = A := ⟨_, rfl⟩
  have hA2 : actr m (j : Int) = A := by rw [actr, List.getD_eq_getElem?_getD]; simp [hj, hA]
  have hAm : A ∈ m := by rw [← hA]; exact List.getElem_mem ..
  have hrl := hr A hAm
  have e : newF m j args = if args.length ≠ A.params.length then (sta0, 1) else (⟨j, 0, [], args.take A.regs.length ++ List.replicate (A.regs.length - args.length) 0, false, -1⟩, 0) := by
    unfold newF; rw [if_neg (by omega), hA2]
  rw [e]
  by_cases c3 : args.length = A.params.length
  · rw [if_neg (by simpa using c3)]
    have c3' : ((args.length : Int) = A.params.length) := by omega
    have b1 : 8 * (A.regs.length : Int) ≤ 281474976710656 := by omega
    have b2 : (A.regs.length : Int) ≤ 9223372036854775807 := by omega
    refine AC.fresh fun hf => ?_; refine AC.enter Try.func35 rfl Try.ntmps35 (by simp) ?_
    have hk : ∀ o1 o2 o3 o4, IsL (upd (upd (upd (upd η n o1) (n + 1) o2) (n + 2) o3) (n + 3) o4) v args := fun _ _ _ _ => h.keep hf fun r hr => by simp only [upd_apply]; repeat rw [if_neg (by omega)]
    simp [modV, aload, afield, apart, upd_apply, Nat.add_assoc, c1, c2, abuild, aplace, afillP, astore, aindex, hj, hA, actC, l1, z1, z2, c3', makeK, b1, b2]
    have ho : ∀ η', (∀ r, r < n → η' r = η r) → arows 1 v η' = some (ints args) := fun η' h' => (h.keep hf h').rows
    refine cpyK.own (e := 2) (e2 := 2) (z := 1) (news := ints args) (rows := List.replicate A.regs.length [.int .i64 0]) (by simp) (by simp) (by simp) (by omega) (ho _ fun r hr => by simp only [upd_apply]; repeat rw [if_neg (by omega)]) ints_sc (by simp [upd_apply]) (by simp) ?_
    have er : List.take 0 (List.replicate A.regs.length [AVal.int .i64 0]) ++ List.take (min (ints args).length A.regs.length) (ints args) ++ List.drop (0 + min (ints args).length A.regs.length) (List.replicate A.regs.length [AVal.int .i64 0]) = ints (args.take A.regs.length ++ List.replicate (A.regs.length - args.length) 0) := by
      rw [take_min, ints_length]
      simp only [ints, List.take_zero, List.nil_append, List.map_append, Nat.zero_add, List.drop_replicate, List.map_replicate, List.map_take]
      congr 2; omega
    rw [er]
    simp [aload, afield, apart, upd_apply, Nat.add_assoc, astore]
    refine resK.rt ⟨.nils, .sl (n + 3) 0 A.regs.length, rfl, Or.inr (Or.inl ⟨rfl, rfl⟩), ?_, fun r hr => by simp only [upd_apply]; repeat rw [if_neg (by omega)], by omega⟩
    have el : A.regs.length = (args.take A.regs.length ++ List.replicate (A.regs.length - args.length) 0).length := by simp; omega
    refine Or.inr (Or.inr ⟨n + 3, 0, [], [], by rw [← el], rfl, ?_⟩)
    simp [upd_apply]
  · rw [if_pos c3]
    have c3' : ¬ ((args.length : Int) = A.params.length) := by omega
    refine AC.fresh fun hf => ?_; refine AC.enter Try.func35 rfl Try.ntmps35 (by simp) ?_
    simp [modV, aload, afield, apart, upd_apply, Nat.add_assoc, c1, c2, abuild, aplace, afillP, astore, aindex, hj, hA, actC, l1, z1, z2, c3']
    exact resK.rt ⟨.nils, .nils, rfl, Or.inr (Or.inl ⟨rfl, rfl⟩), Or.inr (Or.inl ⟨rfl, rfl⟩), fun r hr => by simp only [upd_apply]; repeat rw [if_neg (by omega)], by omega⟩
end Go.Proofs.Ytkhoelmbcmkhjaa
