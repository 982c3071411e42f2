/- Layer 5: modules that are right; the reference's. -/
import Derived.Test.YtkhoelmbcmkhjaaCd
import Derived.Test.YtkhoelmbcmkhjaaRt
namespace Go.Proofs.Ytkhoelmbcmkhjaa
set_option maxRecDepth 100000

theorem allA_ac {η : AHeap} {n : Nat} (l : List Actr) (f : FuncId) (caps : List AVal) (p : Actr → Bool) (hb : HB Try.prog f = true) (hp : ∀ a ∈ l, ∀ q, n ≤ q → AC Try.prog f ([.agg (actC a)] ++ caps) (upd η q (some (.cells 5 [actC a]))) (q + 1) (Rt (.bool (p a)) (upd η q (some (.cells 5 [actC a]))) (q + 1))) (hl : l.length ≤ 17592186044416) :
    AC Try.prog 59 [.rs 5 (actsC l), .func f [] caps] η n (Rt (.bool (l.all p)) η n) := by
  refine AC.pure (.bool _) ?_
  refine AC.fresh fun hf => ?_; refine AC.enter Try.func59 rfl Try.ntmps59 (by simp) ?_
  simp
  refine loopK.inv [4, 6, 9, 10, 11, 12, 13, 14, 15, 16, 17] (fun x : Nat × Nat => x.1 ≤ l.length ∧ n ≤ x.2 ∧ l.all p = (l.drop x.1).all p) (fun x => [(9, .int .i64 x.1)]) (fun _ => η) (fun x => x.2) (fun x => l.length - x.1) (0, n) (by simp) (by simp) (by simp) (Nat.le_refl _) ?_
  intro ⟨k, q⟩ ⟨g1, g2, g3⟩
  simp only at g1 g2 g3
  simp
  have hup : ∀ o, η.le (upd η q o) := fun o => le_upd (AHeap.le_rfl _) (hf q g2)
  refine CondP.dec (fun h => ?_) (fun h => ?_)
  · have h' : k < l.length := by omega
    have hx := hp l[k] (List.getElem_mem ..) q g2
    have ew : IntKind.i64.wrap ((k : Int) + 1) = (k : Int) + 1 := wrap_id (by omega) (by omega)
    rw [List.drop_eq_getElem_cons h', List.all_cons] at g3
    simp only [actC] at hx
    simp [h', aindex, aload, apart, hb, actC, astore, upd_eq, upd_upd]
    refine ACK.rt hx ?_
    cases hpx : p l[k]
    · simp
      exact resK.of (η' := η) (hup _) _ (Nat.le_refl _) ⟨by rw [g3, hpx]; rfl, rfl⟩
    · simp [ew]
      exact endK.intro (k + 1, q + 1) ⟨by omega, by omega, by rw [g3, hpx]; rfl⟩ (by simp) (by repeat (first | exact Agree.mask _ _ | refine Agree.setf rfl ?_ | refine Agree.inner rfl ?_)) (hup _) (Nat.le_refl _) (show l.length - (k + 1) < l.length - k by omega)
  · simp [h]
    exact resK.of (η' := η) (AHeap.le_rfl _) _ (Nat.le_refl _) ⟨by rw [g3, List.drop_eq_nil_of_le (by omega)]; rfl, rfl⟩
def tabsFew (l : List Tbl) : Bool := l.all fun t => decide (t.cls.length ≤ 8)
def littleF (a : Actr) : Bool := tabsFew a.tabs && decide (a.params.length ≤ 4 ∧ a.regs.length ≤ 16 ∧ a.msgs.length ≤ 8 ∧ a.code.length ≤ 200 ∧ a.tabs.length ≤ 8)
theorem little_ac (a : Actr) (η : AHeap) (n : Nat) (ha : a.tabs.length ≤ 17592186044416) : AC Try.prog 60 [.agg (actC a)] η n (Rt (.bool (littleF a)) η n) := by
  refine AC.pure (.bool _) ?_
  refine AC.fresh fun hf => ?_; refine AC.enter Try.func60 rfl Try.ntmps60 (by simp) ?_
  simp [actC, aload, afield, apart, upd_eq]
  refine loopK.inv [2, 4, 8, 9, 10, 11, 12, 13, 14, 15, 16] (fun x : Nat × Nat => x.1 ≤ a.tabs.length ∧ n + 1 ≤ x.2 ∧ tabsFew a.tabs = tabsFew (a.tabs.drop x.1)) (fun x => [(8, .int .i64 x.1)]) (fun _ => upd η n (some (.cells 5 [actC a]))) (fun x => x.2) (fun x => a.tabs.length - x.1) (0, n + 1) (by simp) (by simp) (by simp [actC]) (Nat.le_refl _) ?_
  intro ⟨k, q⟩ ⟨g1, g2, g3⟩
  simp only at g1 g2 g3
  have hnq : n ≠ q := by omega
  have hq0 : upd η n (some (.cells 5 [actC a])) q = none := by rw [upd_ne (Ne.symm hnq)]; exact hf q (by omega)
  have hup : ∀ o, (upd η n (some (.cells 5 [actC a]))).le (upd (upd η n (some (.cells 5 [actC a]))) q o) := fun o => le_upd (AHeap.le_rfl _) hq0
  have le0 : ∀ o, η.le (upd η n o) := fun o => le_upd (AHeap.le_rfl _) (hf n (Nat.le_refl _))
  have hle : ∀ o, η.le (upd (upd η n (some (.cells 5 [actC a]))) q o) := fun o => fun r o' hr => hup o r o' (le0 _ r o' hr)
  simp
  refine CondP.dec (fun h => ?_) (fun h => ?_)
  · have h' : k < a.tabs.length := by omega
    have ew : IntKind.i64.wrap ((k : Int) + 1) = (k : Int) + 1 := wrap_id (by omega) (by omega)
    rw [List.drop_eq_getElem_cons h'] at g3
    simp [h', aindex, aload, apart, afield, tblC, astore, upd_eq, upd_upd]
    refine CondP.dec (fun h2 => ?_) (fun h2 => ?_)
    · simp [h2]
      refine resK.of (η' := η) (hle _) _ (Nat.le_refl _) ⟨?_, rfl⟩
      have h3 : ¬ a.tabs[k].cls.length ≤ 8 := by omega
      have : tabsFew a.tabs = false := by rw [g3, tabsFew, List.all_cons]; simp [h3]
      simp [littleF, this]
    · have h3 : a.tabs[k].cls.length ≤ 8 := by omega
      simp [h2, ew]
      exact endK.intro (k + 1, q + 1) ⟨by omega, by omega, by rw [g3]; unfold tabsFew; rw [List.all_cons]; simp [h3]⟩ (by simp) (by repeat (first | exact Agree.mask _ _ | refine Agree.setf rfl ?_ | refine Agree.inner rfl ?_)) (hup _) (Nat.le_refl _) (show a.tabs.length - (k + 1) < a.tabs.length - k by omega)
  · have ht : tabsFew a.tabs = true := by rw [g3, List.drop_eq_nil_of_le (by omega)]; rfl
    simp [h, aload, afield, apart, upd_eq, actC]
    refine CondP.dec (fun h1 => ?_) (fun h1 => ?_)
    · simp [h1, aload, afield, apart, upd_eq]
      refine CondP.dec (fun h2 => ?_) (fun h2 => ?_)
      · simp [h2, aload, afield, apart, upd_eq]
        refine CondP.dec (fun h3 => ?_) (fun h3 => ?_)
        · simp [h3, aload, afield, apart, upd_eq]
          refine CondP.dec (fun h4 => ?_) (fun h4 => ?_)
          · simp [h4, aload, afield, apart, upd_eq]
            refine resK.of (η' := η) (le0 _) _ (Nat.le_refl _) ⟨?_, rfl⟩
            have e1 : a.params.length ≤ 4 := by omega
            have e2 : a.regs.length ≤ 16 := by omega
            have e3 : a.msgs.length ≤ 8 := by omega
            have e4 : a.code.length ≤ 200 := by omega
            simp [littleF, ht, e1, e2, e3, e4]; omega
          · simp [h4]
            refine resK.of (η' := η) (le0 _) _ (Nat.le_refl _) ⟨?_, rfl⟩
            have : littleF a = false := by simp only [littleF, ht, Bool.true_and, decide_eq_false_iff_not]; omega
            rw [this]
        · simp [h3]
          refine resK.of (η' := η) (le0 _) _ (Nat.le_refl _) ⟨?_, rfl⟩
          have : littleF a = false := by simp only [littleF, ht, Bool.true_and, decide_eq_false_iff_not]; omega
          rw [this]
      · simp [h2]
        refine resK.of (η' := η) (le0 _) _ (Nat.le_refl _) ⟨?_, rfl⟩
        have : littleF a = false := by simp only [littleF, ht, Bool.true_and, decide_eq_false_iff_not]; omega
        rw [this]
    · simp [h1]
      refine resK.of (η' := η) (le0 _) _ (Nat.le_refl _) ⟨?_, rfl⟩
      have : littleF a = false := by simp only [littleF, ht, Bool.true_and, decide_eq_false_iff_not]; omega
      rw [this]
theorem r1_ac (i : Int × Int) (η : AHeap) (m : Nat) : AC Try.prog 85 [.agg [.int .i64 i.1, .int .i64 i.2]] η m (Rt (.bool (!rightI i)) η m) := by
  refine AC.pure (.bool _) ?_
  refine AC.fresh fun hf => ?_; refine AC.enter Try.func85 rfl Try.ntmps85 (by simp) ?_
  simp [aload, apart, upd_eq]
  refine ACK.rt (iright_ac i _ _) ?_
  simp
  exact resK.of (η' := η) (le_upd (AHeap.le_rfl _) (hf m (Nat.le_refl _))) _ (Nat.le_refl _) ⟨rfl, rfl⟩
theorem r2_ac (t : Tbl) (η : AHeap) (m : Nat) (hl : t.cls.length ≤ 17592186044416) : AC Try.prog 88 [.agg (tblC t)] η m (Rt (.bool (!tableOK t)) η m) := by
  have ht := fun η m => table_ac t η m hl
  simp only [tblC] at ht ⊢
  refine AC.pure (.bool _) ?_
  refine AC.fresh fun hf => ?_; refine AC.enter Try.func88 rfl Try.ntmps88 (by simp) ?_
  simp [aload, apart, upd_eq]
  refine ACK.rt (ht _ _) ?_
  simp
  exact resK.of (η' := η) (le_upd (AHeap.le_rfl _) (hf m (Nat.le_refl _))) _ (Nat.le_refl _) ⟨rfl, rfl⟩
def rightA (a : Actr) (n : Int) : Bool := allT (a.params ++ a.regs ++ a.msgs) n && (decide (a.code ≠ [] ∧ a.params.length ≤ a.regs.length) && (a.code.all rightI && (a.tabs.all tableOK && decide (a.params = a.regs.take a.params.length))))
end Go.Proofs.Ytkhoelmbcmkhjaa
