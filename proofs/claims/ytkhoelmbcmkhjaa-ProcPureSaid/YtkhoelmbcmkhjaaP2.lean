/- proc: a table's clauses, messages, states. -/
import Derived.Test.YtkhoelmbcmkhjaaP1
import Derived.Test.YtkhoelmbcmkhjaaAi
namespace Go.Proofs.Ytkhoelmbcmkhjaa
set_option maxRecDepth 100000

def toF : List (Int × Int) → Int → Int × Bool
  | [], _ => (0, false)
  | c :: r, tag => if c.1 = tag then (c.2, true) else toF r tag
theorem to_ac (t : Tbl) (tag : Int) (η : AHeap) (m : Nat) (hl : t.cls.length ≤ 17592186044416) : AC Try.prog 93 [.agg (tblC t), .int .i64 tag] η m (Rt (.tup [.int .i64 (toF t.cls tag).1, .bool (toF t.cls tag).2]) η m) := by
  refine AC.pure (.tup _ (by simp; exact ⟨.int _ _, .bool _⟩)) ?_
  refine AC.fresh fun hf => ?_; refine AC.enter Try.func93 rfl Try.ntmps93 (by simp) ?_
  simp [tblC, aload, afield, apart, upd_eq, alenT]
  refine loopK.inv [4, 5, 7, 11, 12, 13, 14, 15, 16, 17, 18, 19, 20, 21] (fun x : Nat × Nat => x.1 ≤ t.cls.length ∧ m ≤ x.2 ∧ toF (t.cls.drop x.1) tag = toF t.cls tag) (fun x => [(11, .int .i64 x.1)]) (fun _ => η) (fun x => x.2) (fun x => t.cls.length - x.1) (0, m + 1) (by simp) (by simp) (by simp [le_upd_iff, hf]) (by simp) ?_
  intro ⟨k, q⟩ ⟨h1, h2, h3⟩
  simp only at h1 h2 h3
  simp
  refine CondP.dec (fun h => ?_) (fun h => ?_)
  · have hd : t.cls.drop k = t.cls[k] :: t.cls.drop (k + 1) := List.drop_eq_getElem_cons h
    rw [hd, toF] at h3
    simp [h, aindex, aload, apart, astore, upd_eq, upd_upd, afield]
    refine CondP.dec (fun h4 => ?_) (fun h4 => ?_)
    · rw [if_pos h4] at h3
      simp [h4, aload, afield, apart, upd_eq]
      refine resK.of (η' := η) (by simp [le_upd_iff, hf q h2]) _ (Nat.le_refl _) ?_
      simp [← h3]
    · rw [if_neg h4] at h3
      simp [h4]
      rw [wrap_id (by omega) (by omega)]
      refine endK.intro (k + 1, q + 1) ⟨by omega, by omega, h3⟩ (by simp) (by repeat (first | exact Agree.mask _ _ | refine Agree.setf rfl ?_ | refine Agree.inner rfl ?_)) (by simp [le_upd_iff, hf q h2]) (by simp) (by simp; omega)
  · simp [h]
    refine resK.same (n' := q) ?_ (Nat.le_refl _)
    have : t.cls.drop k = [] := List.drop_eq_nil_of_le (by omega)
    rw [this, toF] at h3
    simp [← h3]

/-- the place of the first message that a table has a clause for, and where that goes -/
def matchF (cls : List (Int × Int)) : List (Int × Int) → Int → Int × Int × Bool
  | [], _ => (0, 0, false)
  | m :: r, i => if (toF cls m.1).2 = true then (i, (toF cls m.1).1, true) else matchF cls r (i + 1)
theorem match_ac (t : Tbl) (box : List (Int × Int)) (η : AHeap) (m : Nat) (hl : t.cls.length ≤ 17592186044416) (hb : box.length ≤ 17592186044416) : AC Try.prog 65 [.agg (tblC t), .rs 2 (pairs box)] η m
    (Rt (.tup [.int .i64 (matchF t.cls box 0).1, .int .i64 (matchF t.cls box 0).2.1, .bool (matchF t.cls box 0).2.2]) η m) := by
  refine AC.pure (.tup _ (by simp; exact ⟨.int _ _, .int _ _, .bool _⟩)) ?_
  refine AC.fresh fun hf => ?_; refine AC.enter Try.func65 rfl Try.ntmps65 (by simp) ?_
  simp [tblC, alenT]
  refine loopK.inv [4, 5, 6, 7, 8, 11, 12, 13, 14, 15, 16, 17, 18, 19, 20, 21, 22, 23, 24, 25, 26] (fun x : Nat × Nat => x.1 ≤ box.length ∧ m + 1 ≤ x.2 ∧ matchF t.cls (box.drop x.1) x.1 = matchF t.cls box 0) (fun x => [(11, .int .i64 x.1)]) (fun _ => upd η m (some (.cells 2 [tblC t]))) (fun x => x.2) (fun x => box.length - x.1) (0, m + 1) (by simp) (by simp) (by simp [tblC, AHeap.le]) (by simp) ?_
  intro ⟨k, q⟩ ⟨h1, h2, h3⟩
  simp only at h1 h2 h3
  have hmq : m ≠ q := by omega
  have hq0 := hf q (by omega)
  simp
  refine CondP.dec (fun h => ?_) (fun h => ?_)
  · have hd : box.drop k = box[k] :: box.drop (k + 1) := List.drop_eq_getElem_cons h
    rw [hd, matchF] at h3
    simp [h, aindex, aload, apart, astore, upd_eq, upd_upd, upd_ne hmq, afield, tblC]
    refine ACK.rt (to_ac t box[k].1 _ _ hl) ?_
    simp
    have hup : (upd η m (some (.cells 2 [tblC t]))).le (upd (upd η m (some (.cells 2 [tblC t]))) q (some (.cells 2 [[.int .i64 box[k].1, .int .i64 box[k].2]]))) := le_upd (AHeap.le_rfl _) (by rw [upd_ne (Ne.symm hmq)]; exact hq0)
    refine CondP.intro (fun h4 => ?_) (fun h4 => ?_)
    · rw [if_pos h4] at h3
      simp [h4]
      refine resK.of (η' := η) (by simp [le_upd_iff, hf q (by omega), hf m (Nat.le_refl _)]) _ (Nat.le_refl _) ?_
      simp [← h3]
    · rw [if_neg (by simp [h4])] at h3
      simp [h4]
      rw [wrap_id (by omega) (by omega)]
      refine endK.intro (k + 1, q + 1) ⟨by omega, by omega, by simpa using h3⟩ (by simp) (by repeat (first | exact Agree.mask _ _ | refine Agree.setf rfl ?_ | refine Agree.inner rfl ?_)) hup (by simp) (by simp; omega)
  · simp [h]
    refine resK.of (η' := η) (by simp [le_upd_iff, hf m (Nat.le_refl _)]) _ (Nat.le_refl _) ?_
    have : box.drop k = [] := List.drop_eq_nil_of_le (by omega)
    rw [this, matchF] at h3
    simp [← h3]

/-- a list of numbers, read only or in a row of one's own -/
def IsL (η : AHeap) (v : AVal) (l : List Int) : Prop := v = .rs 1 (ints l) ∨ (v = .nils ∧ l = []) ∨ ∃ r o I J, v = .sl r o l.length ∧ o = I.length ∧ η r = some (.cells 1 (ints (I ++ (l ++ J))))
theorem IsL.sc {η : AHeap} {v : AVal} {l : List Int} (h : IsL η v l) : v.sc = true := by
  rcases h with rfl | ⟨rfl, _⟩ | ⟨r, o, I, J, rfl, _⟩ <;> rfl
theorem IsL.ac {η : AHeap} {v : AVal} {l : List Int} (h : IsL η v l) : acells v = [v] := by
  rcases h with rfl | ⟨rfl, _⟩ | ⟨r, o, I, J, rfl, _⟩ <;> rfl
theorem IsL.len {P : Program} {η : AHeap} {v : AVal} {l : List Int} (h : IsL η v l) {t : TypeId} (ht : isSlT P t = true) (η' : AHeap) : alenT P t v η' = some (l.length : Int) := by
  rcases h with rfl | ⟨rfl, rfl⟩ | ⟨r, o, I, J, rfl, _⟩
  · rw [alen_rs P t _ _ _ ht]; simp
  · rw [alen_nils P t _ ht]; rfl
  · rw [alen_sl P t _ _ _ _ ht]
def actr (m : List Actr) (k : Int) : Actr := m.getD k.toNat ⟨[], [], [], [], []⟩
def ins (a : Actr) (pc : Int) : Int × Int := a.code.getD pc.toNat (0, 0)
def tbl (a : Actr) (k : Int) : Tbl := a.tabs.getD k.toNat ⟨[], 0⟩
/-- is a state? -/
def soundF (m : List Actr) (s : Sta) : Bool :=
  decide (0 ≤ s.actor ∧ s.actor < m.length ∧ 0 ≤ s.pc ∧ s.pc < (actr m s.actor).code.length ∧ s.regs.length = (actr m s.actor).regs.length ∧ s.stack.length ≤ 16 ∧
    (s.waiting = true → (ins (actr m s.actor) s.pc).1 = 21 ∧ 0 ≤ (ins (actr m s.actor) s.pc).2 ∧ (ins (actr m s.actor) s.pc).2 < (actr m s.actor).tabs.length))
theorem sound_ac (m : List Actr) (s : Sta) (η : AHeap) (n : Nat) {sv rv : AVal} {η0 : AHeap} (k1 : IsL η0 sv s.stack) (k2 : IsL η0 rv s.regs) : AC Try.prog 47 [modV m, .agg (stC s sv rv)] η n (Rt (.bool (soundF m s)) η n) := by
  refine AC.pure (.bool _) ?_
  obtain ⟨sa, sp, ss, sr, sw, su⟩ := s
  have l1 : ∀ η', alenT Try.prog 25 sv η' = some (ss.length : Int) := k1.len (by simp)
  have l2 : ∀ η', alenT Try.prog 25 rv η' = some (sr.length : Int) := k2.len (by simp)
  have s1 := k1.sc
  have s2 := k2.sc
  have d1 := k1.ac
  have d2 := k2.ac
  refine AC.fresh fun hf => ?_
  have e0 := hf n (Nat.le_refl _)
  have e1 := hf (n + 1) (by omega)
  have e2 := hf (n + 1 + 1) (by omega)
  by_cases c1 : sa < 0
  · refine AC.enter Try.func47 rfl Try.ntmps47 (by simp) ?_
    simp [modV, stC, aload, afield, apart, upd_eq, s1, s2, c1]
    exact resK.of (η' := η) (by simp [le_upd_iff, e0, e1]) _ (Nat.le_refl _) ⟨by simp [soundF]; omega, rfl⟩
  by_cases c2 : (m.length : Int) ≤ sa
  · refine AC.enter Try.func47 rfl Try.ntmps47 (by simp) ?_
    simp [modV, stC, aload, afield, apart, upd_eq, upd_ne, s1, s2, c1, c2]
    exact resK.of (η' := η) (by simp [le_upd_iff, e0, e1]) _ (Nat.le_refl _) ⟨by simp [soundF]; omega, rfl⟩
  obtain ⟨j, rfl⟩ : ∃ j : Nat, sa = (j : Int) := ⟨sa.toNat, by omega⟩
  have hj : j < m.length := by omega
  have ea : actr m (j : Int) = m[j] := by unfold actr; simp [List.getD_eq_getElem?_getD, hj]
  have hs : soundF m ⟨j, sp, ss, sr, sw, su⟩ = decide (0 ≤ sp ∧ sp < m[j].code.length ∧ sr.length = m[j].regs.length ∧ ss.length ≤ 16 ∧ (sw = true → (ins m[j] sp).1 = 21 ∧ 0 ≤ (ins m[j] sp).2 ∧ (ins m[j] sp).2 < m[j].tabs.length)) := by
    simp only [soundF, ea]
    have : (j : Int) < m.length := by omega
    simp [this]
  rw [hs]
  have c1' : ¬ ((j : Int) < 0) := c1
  have hle : ∀ o1 o2 o3, η.le (upd (upd (upd η n o1) (n + 1) o2) (n + 1 + 1) o3) := fun o1 o2 o3 => by simp [le_upd_iff, e0, e1, e2]
  by_cases c3 : sp < 0
  · have : ¬ 0 ≤ sp := by omega
    refine AC.enter Try.func47 rfl Try.ntmps47 (by simp) ?_
    simp [modV, stC, aload, afield, apart, upd_eq, upd_ne, s1, s2, c1', c2, aindex, hj, actC, astore, upd_upd, c3]
    exact resK.of (η' := η) (hle _ _ _) _ (Nat.le_refl _) ⟨by simp [this], rfl⟩
  obtain ⟨i, rfl⟩ : ∃ i : Nat, sp = (i : Int) := ⟨sp.toNat, by omega⟩
  have c3' : ¬ ((i : Int) < 0) := c3
  by_cases c4 : m[j].code.length ≤ i
  · have : ¬ i < m[j].code.length := by omega
    refine AC.enter Try.func47 rfl Try.ntmps47 (by simp) ?_
    simp [modV, stC, aload, afield, apart, upd_eq, upd_ne, s1, s2, c1', c2, aindex, hj, actC, astore, upd_upd, c3', c4]
    exact resK.of (η' := η) (hle _ _ _) _ (Nat.le_refl _) ⟨by simp [this], rfl⟩
  have hi : i < m[j].code.length := by omega
  have hins : ins m[j] (i : Int) = m[j].code[i] := by unfold ins; simp [List.getD_eq_getElem?_getD, hi]
  rw [hins]
  refine AC.enter Try.func47 rfl Try.ntmps47 (by simp) ?_
  simp [modV, stC, aload, afield, apart, upd_eq, upd_ne, l2, s1, s2, c1', c2, aindex, hj, actC, astore, upd_upd, c3', c4]
  refine CondP.ndec (fun c5 => ?_) (fun c5 => ?_)
  · have c5' : sr.length = m[j].regs.length := by omega
    simp [c5, aload, afield, apart, upd_eq, upd_ne, l1]
    refine CondP.dec (fun c6 => ?_) (fun c6 => ?_)
    · simp [c6]
      have n6 : ¬ ss.length ≤ 16 := by omega
      exact resK.of (η' := η) (hle _ _ _) _ (Nat.le_refl _) ⟨by simp [n6], rfl⟩
    · have c6' : ss.length ≤ 16 := by omega
      simp [c6, aload, afield, apart, upd_eq, upd_ne]
      cases sw
      · simp
        exact resK.of (η' := η) (hle _ _ _) _ (Nat.le_refl _) ⟨by simp [hi, c5', c6'], rfl⟩
      · simp [aload, afield, apart, upd_eq, upd_ne, aindex, hi, astore, upd_upd]
        have hle4 : ∀ o1 o2 o3 o4, η.le (upd (upd (upd (upd η n o1) (n + 1) o2) (n + 1 + 1) o3) (n + 1 + 1 + 1) o4) := fun o1 o2 o3 o4 => by simp [le_upd_iff, e0, e1, e2, hf (n + 1 + 1 + 1) (by omega)]
        refine CondP.dec (fun c7 => ?_) (fun c7 => ?_)
        · simp [c7, aload, afield, apart, upd_eq, upd_ne]
          refine ACK.rt (names_ac _ _ _ _) ?_
          simp
          exact resK.of (η' := η) (hle4 _ _ _ _) _ (Nat.le_refl _) ⟨by simp [hi, c5', c6', c7], rfl⟩
        · simp [c7]
          exact resK.of (η' := η) (hle4 _ _ _ _) _ (Nat.le_refl _) ⟨by simp [c7], rfl⟩
  · have c5' : ¬ sr.length = m[j].regs.length := by omega
    simp [c5]
    exact resK.of (η' := η) (hle _ _ _) _ (Nat.le_refl _) ⟨by simp [c5'], rfl⟩
end Go.Proofs.Ytkhoelmbcmkhjaa
