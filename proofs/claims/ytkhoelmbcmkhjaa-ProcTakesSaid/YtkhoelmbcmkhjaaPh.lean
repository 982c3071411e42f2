/- callboylaw15.lives. -/
import Derived.Test.YtkhoelmbcmkhjaaPg
namespace Go.Proofs.Ytkhoelmbcmkhjaa
set_option maxRecDepth 100000

theorem IsL.le {η η' : AHeap} {v : AVal} {l : List Int} (h : IsL η v l) (hl : η.le η') : IsL η' v l := by
  rcases h with k | k | ⟨r, o, I, J, k1, k0, k2⟩
  · exact Or.inl k
  · exact Or.inr (Or.inl k)
  · exact Or.inr (Or.inr ⟨r, o, I, J, k1, k0, hl _ _ k2⟩)
theorem IsL.own1 {η : AHeap} {r n : Nat} {l : List Int} (hn : n = l.length) (h : η r = some (.cells 1 (ints l))) : IsL η (.sl r 0 n) l := by
  subst hn; exact IsL.own (J := []) (by rw [List.append_nil]; exact h)
theorem IsL.upd {η : AHeap} {v : AVal} {l : List Int} (h : IsL η v l) {r : Nat} (hr : ∀ rows, η r ≠ some (.cells 1 rows)) (o : Option AObj) : IsL (upd η r o) v l := by
  rcases h with k | k | ⟨r', o', I, J, k1, k0, k2⟩
  · exact Or.inl k
  · exact Or.inr (Or.inl k)
  · exact Or.inr (Or.inr ⟨r', o', I, J, k1, k0, by rw [upd_ne (fun e => by subst e; exact hr _ k2)]; exact k2⟩)
theorem IsL.same {η η' : AHeap} {v : AVal} {l : List Int} {n : Nat} (h : IsL η v l) (hf : ∀ r, n ≤ r → η r = none) (hk : ∀ r, r < n → η' r = η r) : IsL η' v l := h.keep hf hk

def m15 : List Actr := [⟨[], [], [], [(1, 7), (24, 0), (0, 0)], []⟩]
def s15a : Sta := ⟨0, 0, [], [], false, -1⟩
def s15b : Sta := ⟨0, 1, [7], [], false, -1⟩
def s15c : Sta := ⟨0, 2, [], [], false, -1⟩
def e15b : Eff := ⟨0, 0, (0, 0), 0, [], 0, (0, 0), -1⟩
def e15c : Eff := ⟨1, 0, (0, 0), 0, [], 7, (0, 0), -1⟩
theorem new15 : newF m15 0 [] = (s15a, 0) := by kernel_rfl
theorem step15a : stepF m15 1 s15a 0 [] = (s15b, e15b, 0) := by kernel_rfl
theorem step15b : stepF m15 1 s15b 0 [] = (s15c, e15c, 0) := by kernel_rfl
theorem ready15 : readyF m15 s15c 0 [] = true := by kernel_rfl
theorem m15_ok : ModOK m15 := ⟨by simp [m15], by simp [m15]⟩
theorem Ent.mod {X : List (List AVal)} {m : List Actr} (h : EntR X (actsC m)) : Ent (.agg [.rs 5 X]) (modV m) := Ent.agg ⟨Ent.rs h, trivial⟩ rfl
theorem frzH_out {F G : List Nat} {f x : Nat} (η : AHeap) (_ : F.contains x = false) (h1 : F.contains x = false) (h2 : G.contains x = false) : frzH F G f η x = η x := by
  unfold frzH; rw [if_neg (by rw [h1]; simp), if_neg (by rw [h2]; simp)]
theorem le_old {η η' : AHeap} {n : Nat} (hf : ∀ r, n ≤ r → η r = none) (h : ∀ r, r < n → η' r = η r) : η.le η' := fun r o hr => by
  rcases Nat.lt_or_ge r n with g | g
  · rw [h r g]; exact hr
  · rw [hf r g] at hr; cases hr
theorem lives15_ac (η : AHeap) (n : Nat) : AC Try.prog 14 [] η n (Rt (.bool true) η n) := by
  refine AC.pure (.bool _) ?_
  refine AC.fresh fun hf => ?_; refine AC.enter Try.func14 rfl Try.ntmps14 (by simp) ?_
  simp [abuild, aplace, afillP, abuildS, chunk, tek, astore, upd_apply, upd_upd, Nat.add_assoc, aload, apart]
  refine ACK.freeze [n, n + 1] [n + 2] 6 ?_
  refine AC.weak (r := n + 2) (k := 1) (rows' := [[.rs 5 (actsC m15)]]) (rows := [[.rs 5 [[.nils, .nils, .nils, .rs 2 (pairs [(1, 7), (24, 0), (0, 0)]), .nils]]]]) ?_ ?_ ?_
  · simp [frzH, frz, objMap, upd_apply, pairs, lenMax]
  · simp [actsC, actC, m15, ints, pairs, tblsC]
    exact Ent.rs (by simp)
  refine ACK.use (g := .mk) (AC.freshP (AC.args (new_ac m15 0 [] _ _ (v := .nils) (Or.inr (Or.inl ⟨rfl, rfl⟩)) (by simp [m15])) ?_)) ?_
  · simp [frz, upd_apply, lenMax]
    exact Ent.mod (by simp [actsC, actC, m15, ints, pairs, tblsC])
  intro r η1 n1 ⟨⟨sv, rv, e1, i1, i2, a1, a2⟩, hf1⟩
  subst e1
  rw [new15] at i1 i2 ⊢
  have b2 := a1 (n + 2) (by omega)
  rw [upd_eq] at b2
  have old1 : ∀ r, r < n → η1 r = η r := fun r hr => by
    rw [a1 r (by omega), upd_ne (by omega), frzH_out _ (by simp; omega) (by simp; omega) (by simp; omega)]
    simp only [upd_apply]
    repeat rw [if_neg (by omega)]
  have sc1 := i1.sc
  have sc2 := i2.sc
  have ac1 := i1.ac
  have ac2 := i2.ac
  have m2 : ¬ n + 2 = n1 := by omega
  have n3 : ¬ n1 = n + 2 := by omega
  simp [stC, s15a, aload, afield, apart, astore, upd_apply, upd_upd, sc1, sc2, ac1, ac2, b2, m2, Nat.add_assoc]
  refine ACK.use (g := .mk) (AC.freshP (AC.args (step_ac m15 1 s15a 0 [] _ _ m15_ok (by simp) (by simp [s15a]) (i1.le (le_upd (AHeap.le_rfl _) (hf1 n1 (Nat.le_refl _)))) (i2.le (le_upd (AHeap.le_rfl _) (hf1 n1 (Nat.le_refl _))))) ⟨Ent.refl _, Ent.refl _, Ent.refl _, Ent.refl _, Ent.nils _, trivial⟩)) ?_
  intro r η2 n2 ⟨⟨sv2, rv2, av2, e1, j1, j2, j3, j4, j5⟩, hf2⟩
  subst e1
  rw [step15a] at j1 j2 j3 ⊢
  have c2 := j4 (n + 2) (by omega)
  rw [upd_ne (by omega), b2] at c2
  have c3 := j4 n1 (by omega)
  rw [upd_eq] at c3
  have old2 : ∀ r, r < n → η2 r = η r := fun r hr => by rw [j4 r (by omega), upd_ne (by omega), old1 r hr]
  have sd1 := j1.sc
  have sd2 := j2.sc
  have sd3 := j3.sc
  have ad1 := j1.ac
  have ad2 := j2.ac
  have ad3 := j3.ac
  have m3 : ¬ n + 2 = n2 := by omega
  have m4 : ¬ n1 = n2 := by omega
  have m5 : ¬ n2 = n1 := by omega
  simp [stC, effC, s15b, e15b, aload, afield, apart, astore, upd_apply, upd_upd, sd1, sd2, sd3, ad1, ad2, ad3, c2, c3, m2, m3, m4, m5, Nat.add_assoc]
  have f2 := hf2 n2 (Nat.le_refl _)
  have kp : ∀ k o1 o2 o3 v l, k ≠ 1 → IsL η2 v l → IsL (upd (upd (upd η2 n2 (some (.cells k o1))) n1 o2) n2 o3) v l := fun k o1 o2 o3 v l hk h => by
    refine IsL.upd (IsL.upd (IsL.upd h ?_ _) ?_ _) ?_ _ <;> simp [upd_apply, f2, c3, m4, m5, hk]
  refine ACK.use (g := .mk) (AC.freshP (AC.args (step_ac m15 1 s15b 0 [] _ _ m15_ok (by simp) (by simp [s15b]) (kp _ _ _ _ _ _ (by omega) j1) (kp _ _ _ _ _ _ (by omega) j2)) ⟨Ent.refl _, Ent.refl _, Ent.refl _, Ent.refl _, Ent.nils _, trivial⟩)) ?_
  intro r η3 n3 ⟨⟨sv3, rv3, av3, e1, g1, g2, g3, g4, g5⟩, hf3⟩
  subst e1
  rw [step15b] at g1 g2 g3 ⊢
  have d2 := g4 (n + 2) (by omega)
  have d3 := g4 n1 (by omega)
  have d4 := g4 n2 (by omega)
  simp [upd_apply, m2, m3, m4, m5, c2] at d2 d3 d4
  have old3 : ∀ r, r < n → η3 r = η r := fun r hr => by rw [g4 r (by omega), upd_ne (by omega), upd_ne (by omega), upd_ne (by omega), old2 r hr]
  have se1 := g1.sc
  have se2 := g2.sc
  have se3 := g3.sc
  have ae1 := g1.ac
  have ae2 := g2.ac
  have ae3 := g3.ac
  have q2 : ¬ n + 2 = n3 := by omega
  have q3 : ¬ n1 = n3 := by omega
  have q4 : ¬ n2 = n3 := by omega
  have q5 : ¬ n3 = n1 := by omega
  have q6 : ¬ n3 = n2 := by omega
  simp [stC, effC, s15c, e15c, aload, afield, apart, astore, upd_apply, upd_upd, se1, se2, se3, ae1, ae2, ae3, d2, d3, d4, m2, m3, m4, m5, q2, q3, q4, q5, q6, Nat.add_assoc]
  have f3 := hf3 n3 (Nat.le_refl _)
  refine ACK.rt (AC.args (ready_ac m15 s15c 0 [] _ _ (η0 := η3) g1 g2 m15_ok (by simp)) ⟨Ent.refl _, Ent.refl _, Ent.refl _, Ent.nils _, trivial⟩) ?_
  rw [ready15]
  simp
  exact resK.of (η' := η) (le_old hf fun r hr => by rw [upd_ne (by omega), upd_ne (by omega), upd_ne (by omega), old3 r hr]) _ (Nat.le_refl _) ⟨rfl, rfl⟩
end Go.Proofs.Ytkhoelmbcmkhjaa
