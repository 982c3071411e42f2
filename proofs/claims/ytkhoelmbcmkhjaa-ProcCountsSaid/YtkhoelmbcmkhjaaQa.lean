/- callboylaw15.ProcCounts. -/
import Derived.Test.YtkhoelmbcmkhjaaPi
import Derived.Test.YtkhoelmbcmkhjaaAq
namespace Go.Proofs.Ytkhoelmbcmkhjaa
set_option maxRecDepth 100000

def opsL : List Int := [6, 7, 8, 9, 10, 11, 12, 14, 15]
def mC (op : Int) : List Actr := [⟨[], [], [], [(op, 0), (0, 0)], []⟩]
def sC (a b : Int) : Sta := ⟨0, 0, [7, a, b], [], false, -1⟩
theorem two_err {op : Int} (h : op ∈ opsL) (a b : Int) : (twoF op a b).2 = 0 ∨ (twoF op a b).2 = 15 := by
  simp [opsL] at h
  rcases h with rfl | rfl | rfl | rfl | rfl | rfl | rfl | rfl | rfl <;> simp [twoF, divF] <;> split <;> simp
theorem step_counts {op : Int} (h : op ∈ opsL) (a b : Int) : stepF (mC op) 1 (sC a b) 0 [] =
    if (twoF op a b).2 = 15 then (sC a b, ⟨5, 0, (0, 0), 0, [], 0, (2, 0), -1⟩, 0) else (⟨0, 1, [7, (twoF op a b).1], [], false, -1⟩, ⟨0, 0, (0, 0), 0, [], 0, (0, 0), -1⟩, 0) := by
  have hs : soundF (mC op) (sC a b) = true := by simp [soundF, mC, sC, actr, ins]
  have h2 : isTwo op := by
    simp [opsL] at h
    rcases h with rfl | rfl | rfl | rfl | rfl | rfl | rfl | rfl | rfl <;> simp [isTwo]
  have e1 : (wc0 (mC op) 1 (sC a b) 0 []).op = op := by simp [wc0, mC, sC, actr, ins]
  have w1 : IntKind.i64.wrap ((sC a b).pc + 1) = 1 := by rw [wrap_id] <;> simp [sC]
  have w2 : IntKind.i64.wrap ((0 : Int) - 1) = -1 := by rw [wrap_id] <;> simp
  have w3 : IntKind.i64.wrap (0 : Int) = 0 := by rw [wrap_id] <;> simp
  rw [stepF, if_pos hs, stepG, e1, if_pos h2, w1]
  unfold Wx.two
  have p1 : ((wx0 (sC a b)).setpc 1).pop = { (wx0 (sC a b)).setpc 1 with s := ⟨0, 1, [7, a], [], false, -1⟩ } := by simp [Wx.pop, Wx.setpc, wx0, sC]
  have p2 : ((wx0 (sC a b)).setpc 1).pop.pop = { (wx0 (sC a b)).setpc 1 with s := ⟨0, 1, [7], [], false, -1⟩ } := by rw [p1]; simp [Wx.pop]
  have t1 : ((wx0 (sC a b)).setpc 1).top = b := by simp [Wx.top, Wx.setpc, wx0, sC]
  have t2 : ((wx0 (sC a b)).setpc 1).pop.top = a := by rw [p1]; simp [Wx.top]
  rw [p2, t1, t2]
  by_cases h15 : (twoF op a b).2 = 15
  · simp [h15, stepEnd, Wx.div0, Wx.stays, Wx.exits, Wx.setpc, wx0, eff0, sC, w3]
  · simp [h15, stepEnd, Wx.push, Wx.setpc, wx0, eff0]
theorem mC_ok (op : Int) : ModOK (mC op) := ⟨by simp [mC], by simp [mC]⟩
theorem counts_ac (which a b : Int) (η : AHeap) (n : Nat) (hw : I64 which) : AC Try.prog 4 [.int .i64 which, .int .i64 a, .int .i64 b] η n (fun r _ _ => r = .bool true) := by
  obtain ⟨i, hi, hi2⟩ : ∃ i : Nat, i < 9 ∧ (which % 18446744073709551616) % 9 = (i : Int) := ⟨((which % 18446744073709551616) % 9).toNat, by omega, by omega⟩
  obtain ⟨op, hop⟩ : ∃ op, opsL[i]'(by simpa [opsL] using hi) = op := ⟨_, rfl⟩
  have hrow : [[AVal.int .i64 6], [AVal.int .i64 7], [AVal.int .i64 8], [AVal.int .i64 9], [AVal.int .i64 10], [AVal.int .i64 11], [AVal.int .i64 12], [AVal.int .i64 14], [AVal.int .i64 15]][i]? = some [AVal.int .i64 op] := by
    have : [[AVal.int .i64 6], [AVal.int .i64 7], [AVal.int .i64 8], [AVal.int .i64 9], [AVal.int .i64 10], [AVal.int .i64 11], [AVal.int .i64 12], [AVal.int .i64 14], [AVal.int .i64 15]] = ints opsL := rfl
    rw [this, ints_get, List.getElem?_eq_getElem (by simpa [opsL] using hi), hop]; rfl
  have hrow2 : [[AVal.int .i64 6], [AVal.int .i64 7], [AVal.int .i64 8], [AVal.int .i64 9], [AVal.int .i64 10], [AVal.int .i64 11], [AVal.int .i64 12], [AVal.int .i64 14], [AVal.int .i64 15]][i]'(by simpa using hi) = [AVal.int .i64 op] := by rw [List.getElem?_eq_getElem (by simpa using hi)] at hrow; exact Option.some.inj hrow
  have hm : op ∈ opsL := by rw [← hop]; exact List.getElem_mem ..
  have hlives := fun η n => lives15_ac η n
  refine AC.fresh fun hf => ?_; refine AC.enter Try.func4 rfl Try.ntmps4 (by simp) ?_
  simp
  refine ACK.rt (hlives _ _) ?_
  have c1 : IntKind.u64.wrap which = which % 18446744073709551616 := by rw [IntKind.wrap_u64]
  have c2 : IntKind.u64.wrap 9 = 9 := by rw [IntKind.wrap_u64]; rfl
  have c3 : (which % 18446744073709551616).tmod 9 = (i : Int) := by rw [Int.tmod_eq_emod_of_nonneg (by omega), hi2]
  have c4 : IntKind.i64.wrap (i : Int) = i := wrap_id (by omega) (by omega)
  have hi' : (i : Int) < 9 := by omega
  simp [hi', abuildS, afillP, chunk, tek, aconv, alenT, c1, c2, c3, c4, aindex, upd_eq, hrow2, hi, aload, apart, abuild, aplace, astore, upd_apply, Nat.add_assoc]
  refine ACK.freeze [n + 1, n + 2] [] 6 ?_
  have hK : IsL (frzH [n + 1, n + 2] [] 6 (upd (upd (upd (upd (upd (upd η n (some (.cells 1 [[AVal.int .i64 6], [AVal.int .i64 7], [AVal.int .i64 8], [AVal.int .i64 9], [AVal.int .i64 10], [AVal.int .i64 11], [AVal.int .i64 12], [AVal.int .i64 14], [AVal.int .i64 15]]))) (n + 1) (some (.cells 2 [[.int .i64 op, .int .i64 0], [.int .i64 0, .int .i64 0]]))) (n + 2) (some (.cells 5 [[.nils, .nils, .nils, .sl (n + 1) 0 2, .nils]]))) (n + 3) (some (.cells 1 [[.nils]]))) (n + 3) (some (.cells 1 [[.sl (n + 2) 0 1]]))) (n + 4) (some (.cells 1 [[.int .i64 7], [.int .i64 a], [.int .i64 b]])))) (.sl (n + 4) 0 3) [7, a, b] := Or.inr (Or.inr ⟨n + 4, 0, [], [], rfl, rfl, by rw [frzH_out _ (by simp) (by simp) (by simp), upd_eq]; rfl⟩)
  refine ACK.use (g := .mk) (AC.freshP (AC.args (step_ac (mC op) 1 (sC a b) 0 [] _ _ (mC_ok op) (by simp) (by simp [sC]) (sv := .sl (n + 4) 0 3) (rv := .nils) hK (Or.inr (Or.inl ⟨rfl, rfl⟩))) ?_)) ?_
  · simp [frz, upd_apply, lenMax, sC, stC]
    exact ⟨Ent.mod (by simp [actsC, actC, mC, ints, pairs, tblsC]), Ent.nils _⟩
  intro r η2 n2 ⟨⟨sv2, rv2, av2, e1, j1, j2, j3, j4, j5⟩, hf2⟩
  subst e1
  rw [step_counts hm] at j1 j2 j3 ⊢
  have sd1 := j1.sc
  have sd2 := j2.sc
  have sd3 := j3.sc
  have ad1 := j1.ac
  have ad2 := j2.ac
  have ad3 := j3.ac
  simp [stC, effC, aload, afield, apart, astore, upd_apply, upd_upd, sd1, sd2, sd3, ad1, ad2, ad3, Nat.add_assoc]
  refine ACK.rt (two_ac _ _ _ _ _) ?_
  have m1 : ¬ n2 = n2 + 1 := by omega
  by_cases h15 : (twoF op a b).2 = 15
  · rw [if_pos h15] at j1 ⊢
    simp [h15, aload, afield, apart, upd_apply, sC, abuild, aplace, afillP, aeqS2 fields_reason, abuildS, chunk, tek]
    refine ACK.rt (sameLongs_ac (j1.keep hf2 ?_) (l2 := [7, a, b]) (IsL.own1 rfl ?_) (by simp [sC])) ?_
    · exact fun r hr => by simp only [upd_apply]; repeat rw [if_neg (by omega)]
    · rw [upd_eq]; rfl
    simp [aload, afield, apart, upd_apply, sC]
    exact resK.rt rfl
  · have h0 : (twoF op a b).2 = 0 := (two_err hm a b).resolve_right h15
    rw [if_neg h15] at j1 ⊢
    simp [h0, aload, afield, apart, upd_apply, abuildS, chunk, tek, afillP]
    refine ACK.rt (sameLongs_ac (j1.keep hf2 ?_) (l2 := [7, (twoF op a b).1]) (IsL.own1 rfl ?_) (by simp)) ?_
    · exact fun r hr => by simp only [upd_apply]; repeat rw [if_neg (by omega)]
    · rw [upd_eq]; rfl
    simp [aload, afield, apart, upd_apply]
    exact resK.rt rfl
end Go.Proofs.Ytkhoelmbcmkhjaa
