/- proc's two: an operation on two values, or back where it was. -/
import Derived.Test.YtkhoelmbcmkhjaaP6
namespace Go.Proofs.Ytkhoelmbcmkhjaa
set_option maxRecDepth 100000

/-- the places of the work alone: what is made later is none of them -/
theorem WkAt.tight {B : Nat} {F : List Nat} {η : AHeap} {g n : Nat} {c : Wc} {x : Wx} (h : WkAt B F η g c x) (hf : ∀ r, n ≤ r → η r = none) : ∃ F', (∀ r ∈ F', In B F r ∧ r < n) ∧ ∀ m η', (∀ r, r < n → η' r = η r) → WkAt m F' η' g c x := by
  obtain ⟨sr, rr, av, J, h⟩ := h
  have lt : ∀ r o, η r = some o → r < n := fun r o hr => by
    rcases Nat.lt_or_ge r n with h' | h'
    · exact h'
    · rw [hf r h'] at hr; cases hr
  have lg := lt _ _ h.blk
  have ls := lt _ _ h.st
  have lr := lt _ _ h.rg
  rcases h.ar with k | ⟨ar, k1, k2, k3, k4, k5, k6⟩
  · refine ⟨[g, sr, rr], ?_, fun m η' he => ⟨sr, rr, av, J, by rw [he _ lg]; exact h.blk, by rw [he _ ls]; exact h.st, by rw [he _ lr]; exact h.rg, Or.inl k, h.gs, h.gr, h.srr, Or.inl (by simp), Or.inl (by simp), Or.inl (by simp)⟩⟩
    intro r hr
    simp at hr
    rcases hr with rfl | rfl | rfl
    · exact ⟨h.ig, lg⟩
    · exact ⟨h.is, ls⟩
    · exact ⟨h.ir, lr⟩
  · have la := lt _ _ k2
    refine ⟨[g, sr, rr, ar], ?_, fun m η' he => ⟨sr, rr, av, J, by rw [he _ lg]; exact h.blk, by rw [he _ ls]; exact h.st, by rw [he _ lr]; exact h.rg, Or.inr ⟨ar, k1, by rw [he _ la]; exact k2, k3, k4, k5, Or.inl (by simp)⟩, h.gs, h.gr, h.srr, Or.inl (by simp), Or.inl (by simp), Or.inl (by simp)⟩⟩
    intro r hr
    simp at hr
    rcases hr with rfl | rfl | rfl | rfl
    · exact ⟨h.ig, lg⟩
    · exact ⟨h.is, ls⟩
    · exact ⟨h.ir, lr⟩
    · exact ⟨k6, la⟩
/-- what was there already, and is none of the places, stays; and back to the wider places -/
theorem Keep.wide {B m : Nat} {F F' : List Nat} {η η' : AHeap} (h : Keep m F' η η') (hF : ∀ r ∈ F', In B F r) (hm : B ≤ m) : Keep B F η η' := fun r hr => h r fun hi => hr (by
  rcases hi with hi | hi
  · exact hF r hi
  · exact Or.inr (by omega))
theorem WkAt.wide {B m : Nat} {F F' : List Nat} {η : AHeap} {g : Nat} {c : Wc} {x : Wx} (h : WkAt m F' η g c x) (hF : ∀ r ∈ F', In B F r) (hm : B ≤ m) : WkAt B F η g c x := by
  have w : ∀ r, In m F' r → In B F r := fun r hi => by
    rcases hi with hi | hi
    · exact hF r hi
    · exact Or.inr (by omega)
  obtain ⟨sr, rr, av, J, h⟩ := h
  refine ⟨sr, rr, av, J, h.blk, h.st, h.rg, ?_, h.gs, h.gr, h.srr, w _ h.ig, w _ h.is, w _ h.ir⟩
  rcases h.ar with k | ⟨ar, k1, k2, k3, k4, k5, k6⟩
  · exact Or.inl k
  · exact Or.inr ⟨ar, k1, k2, k3, k4, k5, w _ k6⟩
section
variable {B : Nat} {F : List Nat} {η : AHeap} {g n : Nat} {c : Wc} {x : Wx}
def Wx.div0 (z : Wx) (s : Sta) : Wx := ({ z with s := s } : Wx).stays.exits 2 0
def Wx.two (x : Wx) (op : Int) : Wx :=
  if (twoF op x.pop.top x.top).2 = 15 ∧ x.pop.pop.err = 0 then x.pop.pop.div0 x.s else x.pop.pop.push (twoF op x.pop.top x.top).1
theorem wtwo_ac (h : WkAt B F η g c x) (hn : B ≤ n) (hl : x.s.stack.length ≤ 17592186044416) (hr : x.s.regs.length ≤ 17592186044416) : AC Try.prog 76 [.ptr g 0 0] η n (WPost B F η g c (x.two c.op) (.tup []) n) := by
  refine AC.fresh fun hf => ?_
  obtain ⟨F', hF', H⟩ := h.tight hf
  have hin := fun r hr => (hF' r hr).1
  have lo : ∀ m r, n ≤ r → r < m → ¬ In m F' r := fun m r h1 h2 hi => by
    rcases hi with hi | hi
    · have := (hF' r hi).2; omega
    · omega
  have fin : ∀ m η1 η' x' n', n ≤ m → (∀ r, r < n → η1 r = η r) → WkAt m F' η' g c x' → Keep m F' η1 η' → n ≤ n' → WPost B F η g c x' (.tup []) n (.tup []) η' n' := fun m η1 η' x' n' h1 h1' h2 h3 h4 => ⟨rfl, h2.wide hin (by omega), fun r hr => by
    by_cases hrn : r < n
    · rw [(h3.wide hin (by omega)) r hr, h1' r hrn]
    · exact absurd (Or.inr (by omega)) hr, h4⟩
  obtain ⟨sr, rr, av, J, k⟩ := h
  have hb := k.blk
  have i1 : IsL η (.sl sr 0 x.s.stack.length) x.s.stack := IsL.own k.st
  have i2 : IsL η (.sl rr 0 x.s.regs.length) x.s.regs := IsL.own (J := []) (by rw [List.append_nil]; exact k.rg)
  have ho := own_ac (n := n) (s := x.s) i1 i2 hl hr
  have hl2 : x.pop.s.stack.length ≤ 17592186044416 := by
    unfold Wx.pop Wx.fail; split
    · split <;> exact hl
    · simp; omega
  simp only [stA] at ho
  refine AC.enter Try.func76 rfl Try.ntmps76 (by simp) ?_
  simp [aload, afield, apart, hb, workC]
  refine ACK.use ho ?_
  intro r η1 n1 ⟨q1, q2, e1, a1, a2, a3, a4, a5, a6, a7, a8⟩
  subst e1
  simp [stA, astore, upd_eq, upd_upd]
  have keep1 : ∀ o r, r < n → upd η1 n1 o r = η r := fun o r hr => by rw [upd_ne (by omega)]; exact a8 r hr
  refine ACK.use (pop_ac (H (n1 + 1) _ (keep1 _)) hl) ?_
  intro r η2 n2 ⟨e1, k2, k3, k4⟩
  subst e1
  simp
  refine ACK.use (pop_ac k2 hl2) ?_
  intro r η3 n3 ⟨e1, k5, k6, k7⟩
  subst e1
  have kk := k3.trans k6
  have b1 := kk n1 (lo _ _ (by omega) (by omega))
  have s1 := kk q1 (lo _ _ (by omega) (by omega))
  have s2 := kk q2 (lo _ _ (by omega) (by omega))
  rw [upd_eq] at b1
  rw [upd_ne (by omega)] at s1 s2
  rw [a1] at s1
  rw [a2] at s2
  have k5' := k5
  obtain ⟨tr, ur, aw, J2, k8⟩ := k5'
  have hb3 := k8.blk
  simp [aload, afield, apart, hb3, workC]
  have bad : ∀ x', (twoF c.op x.pop.top x.top).2 ≠ 15 ∨ x.pop.pop.err ≠ 0 → x' = x.pop.pop.push (twoF c.op x.pop.top x.top).1 → x' = x.two c.op := fun x' h e => by
    rw [e, Wx.two, if_neg (by rcases h with h | h <;> simp [h])]
  have hin2 : ∀ r ∈ q1 :: q2 :: F', In B F r := fun r hr => by
    simp at hr
    rcases hr with rfl | rfl | hr
    · exact Or.inr (by omega)
    · exact Or.inr (by omega)
    · exact hin r hr
  have up : ∀ r, In (n1 + 1) F' r → In (n1 + 1) (q1 :: q2 :: F') r := fun r hi => by
    rcases hi with hi | hi
    · exact Or.inl (by simp [hi])
    · exact Or.inr hi
  have ne1 : ∀ r, In (n1 + 1) F' r → r ≠ q1 ∧ r ≠ q2 := fun r hi => ⟨fun e => lo (n1 + 1) q1 (by omega) (by omega) (e ▸ hi), fun e => lo (n1 + 1) q2 (by omega) (by omega) (e ▸ hi)⟩
  have K9 : ∀ cs, cs = workC c { x.pop.pop with s := x.s } (.sl q1 0 x.s.stack.length) (.sl q2 0 x.s.regs.length) aw → WkAt (n1 + 1) (q1 :: q2 :: F') (upd η3 g (some (.cells 28 [cs]))) g c { x.pop.pop with s := x.s } := fun cs hc => by
    subst hc
    have g1 := ne1 g k8.ig
    refine ⟨q1, q2, aw, [], upd_eq .., by rw [upd_ne g1.1.symm, List.append_nil]; exact s1, by rw [upd_ne g1.2.symm]; exact s2, ?_, g1.1, g1.2, a5, up _ k8.ig, Or.inl (by simp), Or.inl (by simp)⟩
    rcases k8.ar with k | ⟨ar, m1, m2, m3, m4, m5, m6⟩
    · exact Or.inl k
    · have g2 := ne1 ar m6
      exact Or.inr ⟨ar, m1, by rw [upd_ne m3]; exact m2, m3, g2.1, g2.2, up _ m6⟩
  refine ACK.rt (two_ac _ _ _ _ _) ?_
  simp
  refine CondP.dec (fun h15 => ?_) (fun h15 => ?_)
  · simp [h15, aload, afield, apart, hb3, workC]
    refine CondP.dec (fun he => ?_) (fun he => ?_)
    · have e2 : x.two c.op = x.pop.pop.div0 x.s := if_pos ⟨h15, he⟩
      simp [he, aload, afield, apart, hb3, b1, workC, astore]
      refine ACK.use (stays_ac (K9 _ (by simp [workC, he]))) ?_
      intro r η4 n4 ⟨e1, l2, l3, l4⟩
      subst e1
      simp
      refine ACK.use (exits_ac l2 2 0) ?_
      intro r η5 n5 ⟨e1, l5, l6, l7⟩
      subst e1
      simp
      rw [e2]
      refine resK.rt ⟨rfl, l5.wide hin2 (by omega), fun r hr => ?_, by omega⟩
      have hrn : r < n := by
        rcases Nat.lt_or_ge r n with h' | h'
        · exact h'
        · exact absurd (Or.inr (by omega)) hr
      rw [((l3.trans l6).wide hin2 (by omega)) r hr, upd_ne (fun e => by subst e; exact hr k.ig), (kk.wide hin (by omega)) r hr]
      exact keep1 _ r hrn
    · simp [he]
      refine ACK.use (push_ac k5 (by omega) _) ?_
      intro r η4 n4 ⟨e1, l2, l3, l4⟩
      subst e1
      simp
      exact resK.rt (fin _ _ _ _ _ (by omega) (keep1 _) (bad _ (Or.inr he) rfl ▸ l2) (kk.trans l3) (by omega))
  · simp [h15]
    refine ACK.use (push_ac k5 (by omega) _) ?_
    intro r η4 n4 ⟨e1, l2, l3, l4⟩
    subst e1
    simp
    exact resK.rt (fin _ _ _ _ _ (by omega) (keep1 _) (bad _ (Or.inl h15) rfl ▸ l2) (kk.trans l3) (by omega))
end
end Go.Proofs.Ytkhoelmbcmkhjaa
