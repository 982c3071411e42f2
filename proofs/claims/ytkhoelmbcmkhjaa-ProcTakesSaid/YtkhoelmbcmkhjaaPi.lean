/- Lists compared: callboyref01.SameLongs. -/
import Derived.Test.YtkhoelmbcmkhjaaPh
namespace Go.Proofs.Ytkhoelmbcmkhjaa
set_option maxRecDepth 100000

/-- an element of a list, wherever it lies -/
theorem IsL.idx {P : Program} {t e : TypeId} (ht : telem P t = some e) (hz : tsize P e = some 1) (hs : tsh P e = some (false, 1)) {η : AHeap} {v : AVal} {l : List Int} (h : IsL η v l) {k : Nat} (hk : k < l.length) :
    ∃ p, aindex P t v (.int .i64 (k : Int)) η = some p ∧ aload P e p η = some (.int .i64 l[k]) := by
  rcases h with rfl | ⟨rfl, rfl⟩ | ⟨r, o, I, J, rfl, ho, hr⟩
  · refine ⟨.ro [.int .i64 l[k]] 0, ?_, ?_⟩
    · simp [aindex, ht, hz, hk]
    · simp [aload, hs, apart]
  · simp at hk
  · refine ⟨.ptr r (o + k) 0, ?_, ?_⟩
    · simp [aindex, ht, hz, hk, hr]
    · have : (ints (I ++ (l ++ J)))[o + k]? = some [.int .i64 l[k]] := by
        rw [ints_get, List.getElem?_append_right (by omega), List.getElem?_append_left (by omega), ho]
        simp [hk]
      simp [aload, hs, hr, this, apart]
theorem drop_eq_iff {α : Type} [DecidableEq α] {l1 l2 : List α} (hl : l1.length = l2.length) {k : Nat} (hk : k < l1.length) (he : l1[k] = l2[k]) : (l1.drop k = l2.drop k) ↔ (l1.drop (k + 1) = l2.drop (k + 1)) := by
  have hk2 : k < l2.length := by omega
  rw [List.drop_eq_getElem_cons hk, List.drop_eq_getElem_cons hk2]
  rw [he]
  exact ⟨fun h => by injection h, fun h => by rw [h]⟩
theorem sameLongs_ac {η : AHeap} {n : Nat} {v1 v2 : AVal} {l1 l2 : List Int} (h1 : IsL η v1 l1) (h2 : IsL η v2 l2) (hl : l1.length ≤ 17592186044416) : AC Try.prog 23 [v1, v2] η n (Rt (.bool (decide (l1 = l2))) η n) := by
  have z1 : ∀ η', alenT Try.prog 25 v1 η' = some (l1.length : Int) := h1.len (by simp)
  have z2 : ∀ η', alenT Try.prog 25 v2 η' = some (l2.length : Int) := h2.len (by simp)
  by_cases hn : l1.length = l2.length
  · have hn' : (l1.length : Int) = l2.length := by omega
    refine AC.enter Try.func23 rfl Try.ntmps23 (by simp) ?_
    simp [z1, z2, hn']
    refine loopK.inv [4, 5, 11, 12, 13, 14, 15, 16, 17, 18, 19, 20, 21, 22, 23, 24, 25] (fun k : Nat => k ≤ l1.length ∧ (l1.drop k = l2.drop k ↔ l1 = l2)) (fun k => [(5, .int .i64 k)]) (fun _ => η) (fun _ => n) (fun k => l1.length - k) 0 (by simp) (by simp) (by simp) (by simp) ?_
    intro k ⟨g1, g2⟩
    simp [z1]
    refine CondP.dec (fun h => ?_) (fun h => ?_)
    · have h' : k < l1.length := by omega
      obtain ⟨p1, a1, a2⟩ := h1.idx (P := Try.prog) (t := 25) (e := 2) (by simp) (by simp) (by simp) h'
      obtain ⟨p2, b1, b2⟩ := h2.idx (P := Try.prog) (t := 25) (e := 2) (by simp) (by simp) (by simp) (hn ▸ h' : k < l2.length)
      simp [h]
      refine drawK.intro mixed [(0, []), (1, []), (2, []), (3, []), (4, []), (5, []), (6, []), (7, []), (8, [])] (by kernel_rfl) ?_
      simp [a1, a2, b1, b2]
      refine CondP.ndec (fun h4 => ?_) (fun h4 => ?_)
      · simp [h4]
        rw [wrap_id (by omega) (by omega)]
        exact endK.intro (k + 1) ⟨by omega, (drop_eq_iff hn h' h4).symm.trans g2⟩ (by simp) (by repeat (first | exact Agree.mask _ _ | refine Agree.setf rfl ?_)) (AHeap.le_rfl _) (Nat.le_refl _) (show l1.length - (k + 1) < l1.length - k by omega)
      · simp [h4]
        refine resK.rt ⟨?_, rfl, rfl⟩
        have : ¬ l1 = l2 := fun e => h4 (by subst e; rfl)
        simp [this]
    · simp [h]
      refine resK.rt ⟨?_, rfl, rfl⟩
      have : l1 = l2 := g2.1 (by rw [List.drop_eq_nil_of_le (by omega), List.drop_eq_nil_of_le (by omega)])
      simp [this]
  · have hn' : ¬ (l1.length : Int) = l2.length := by omega
    refine AC.enter Try.func23 rfl Try.ntmps23 (by simp) ?_
    simp [z1, z2, hn']
    refine resK.rt ⟨?_, rfl, rfl⟩
    have : ¬ l1 = l2 := fun e => hn (by rw [e])
    simp [this]
end Go.Proofs.Ytkhoelmbcmkhjaa
