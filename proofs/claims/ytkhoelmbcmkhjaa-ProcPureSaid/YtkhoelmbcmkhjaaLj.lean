/- Lists of numbers: what is general. -/
import Derived.Test.YtkhoelmbcmkhjaaP2
namespace Go.Proofs.Ytkhoelmbcmkhjaa
set_option maxRecDepth 100000

theorem IsL.own {η : AHeap} {r : Nat} {l J : List Int} (h : η r = some (.cells 1 (ints (l ++ J)))) : IsL η (.sl r 0 l.length) l := Or.inr (Or.inr ⟨r, 0, [], J, rfl, rfl, h⟩)
def NewL (η : AHeap) (n : Nat) (l : List Int) : AVal → AHeap → Nat → Prop := fun u η' n' => ∃ q, u = .sl q 0 l.length ∧ η' q = some (.cells 1 (ints l)) ∧ n ≤ q ∧ q < n' ∧ ∀ r, r < n → η' r = η r
theorem take_ints (I l J : List Int) : List.take l.length (List.drop I.length (ints (I ++ (l ++ J)))) = ints l := by simp [ints]
theorem ints_len (l : List Int) : (ints l).length = l.length := by simp [ints]
theorem ints_sc {l : List Int} : ∀ r ∈ ints l, ∀ c ∈ r, c.sc = true := by intro r hr c hc; simp [ints] at hr; obtain ⟨x, _, rfl⟩ := hr; simp at hc; subst hc; rfl
theorem IsL.keep {η η' : AHeap} {v : AVal} {l : List Int} {n : Nat} (h : IsL η v l) (hf : ∀ r, n ≤ r → η r = none) (hk : ∀ r, r < n → η' r = η r) : IsL η' v l := by
  rcases h with h | h | ⟨r, o, I, J, h1, h0, h2⟩
  · exact Or.inl h
  · exact Or.inr (Or.inl h)
  · exact Or.inr (Or.inr ⟨r, o, I, J, h1, h0, by rw [hk r (by rcases Nat.lt_or_ge r n with h | h; exact h; rw [hf r h] at h2; cases h2)]; exact h2⟩)
theorem upd_apply (η : AHeap) (r : Nat) (o : Option AObj) (x : Nat) : upd η r o x = if x = r then o else η x := rfl
theorem IsL.rows {η : AHeap} {v : AVal} {l : List Int} (h : IsL η v l) : arows 1 v η = some (ints l) := by
  rcases h with rfl | ⟨rfl, rfl⟩ | ⟨r, o, I, J, rfl, ho, hr⟩
  · simp [arows]
  · rfl
  · have ht := take_ints I l J
    rw [← ho] at ht
    have hlen : o + l.length ≤ I.length + (l.length + J.length) := by omega
    simp [arows, hr, hlen, ht]
theorem IsL.le {η η' : AHeap} {v : AVal} {l : List Int} (h : IsL η v l) (hl : η.le η') : IsL η' v l := by
  rcases h with k | k | ⟨r, o, I, J, k1, k0, k2⟩
  · exact Or.inl k
  · exact Or.inr (Or.inl k)
  · exact Or.inr (Or.inr ⟨r, o, I, J, k1, k0, hl _ _ k2⟩)
theorem IsL.own1 {η : AHeap} {r n : Nat} {l : List Int} (hn : n = l.length) (h : η r = some (.cells 1 (ints l))) : IsL η (.sl r 0 n) l := by
  subst hn; exact IsL.own (J := []) (by rw [List.append_nil]; exact h)
theorem IsL.upd {η : AHeap} {v : AVal} {l : List Int} (h : IsL η v l) {r : Nat} (hr : ∀ rows, η r ≠ some (.cells 1 rows)) (o : Option AObj) : IsL (upd η r o) v l := by
  rcases h with k | k | ⟨r', o', I, J, k1, k0, k2⟩
  · exact Or.inl k
  · exact Or.inr (Or.inl k)
  · exact Or.inr (Or.inr ⟨r', o', I, J, k1, k0, by rw [upd_ne (fun e => by subst e; exact hr _ k2)]; exact k2⟩)
theorem IsL.same {η η' : AHeap} {v : AVal} {l : List Int} {n : Nat} (h : IsL η v l) (hf : ∀ r, n ≤ r → η r = none) (hk : ∀ r, r < n → η' r = η r) : IsL η' v l := h.keep hf hk

theorem le_old {η η' : AHeap} {n : Nat} (hf : ∀ r, n ≤ r → η r = none) (h : ∀ r, r < n → η' r = η r) : η.le η' := fun r o hr => by
  rcases Nat.lt_or_ge r n with g | g
  · rw [h r g]; exact hr
  · rw [hf r g] at hr; cases hr
/-- an element of a list, wherever it lies -/
theorem IsL.idx {P : Program} {t e : TypeId} (ht : telem P t = some e) (hz : tsize P e = some 1) (hs : tsh P e = some (false, 1)) {η : AHeap} {v : AVal} {l : List Int} (h : IsL η v l) {k : Nat} (hk : k < l.length) :
    ∃ p, aindex P t v (.int .i64 (k : Int)) η = some p ∧ aload P e p η = some (.int .i64 l[k]) := by
  rcases h with rfl | ⟨rfl, rfl⟩ | ⟨r, o, I, J, rfl, ho, hr⟩
  · refine ⟨.ro [.int .i64 l[k]] 0, ?_, ?_⟩
    · simp [aindex, ht, hz, hk]
    · simp [aload, hs, apart]
  · simp at hk
  · refine ⟨.ptr r (o + k) 0, ?_, ?_⟩
    · simp [aindex, ht, hz, hk, hr]
    · have : (ints (I ++ (l ++ J)))[o + k]? = some [.int .i64 l[k]] := by
        rw [ints_get, List.getElem?_append_right (by omega), List.getElem?_append_left (by omega), ho]
        simp [hk]
      simp [aload, hs, hr, this, apart]
theorem drop_eq_iff {α : Type} [DecidableEq α] {l1 l2 : List α} (hl : l1.length = l2.length) {k : Nat} (hk : k < l1.length) (he : l1[k] = l2[k]) : (l1.drop k = l2.drop k) ↔ (l1.drop (k + 1) = l2.drop (k + 1)) := by
  have hk2 : k < l2.length := by omega
  rw [List.drop_eq_getElem_cons hk, List.drop_eq_getElem_cons hk2]
  rw [he]
  exact ⟨fun h => by injection h, fun h => by rw [h]⟩
end Go.Proofs.Ytkhoelmbcmkhjaa
