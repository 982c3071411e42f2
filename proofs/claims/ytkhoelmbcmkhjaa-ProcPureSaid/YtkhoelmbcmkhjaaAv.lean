/- Abstract Go: a region that draws its order, in which variables are made at any time ahead of their use. -/
import Derived.Test.YtkhoelmbcmkhjaaAu
namespace Go.Proofs.Ytkhoelmbcmkhjaa

/-- a variable that is made without asking for anything -/
def fltO (o : Oper) : Option (TypeId × Nat) :=
  match o.op, o.dst, o.guard with
  | .alloc t, some d, none => if (o.after.toList.all fun e => !Region.binds .any e) = true then some (t, d) else none
  | _, _, _ => none
theorem fltO_spec {o : Oper} {t : TypeId} {d : Nat} (h : fltO o = some (t, d)) : o.op = .alloc t ∧ o.dst = some d ∧ o.guard = none ∧ ∀ e ∈ o.after, Region.binds .any e = false := by
  unfold fltO at h
  split at h
  · rename_i t' d' h1 h2 h3
    split at h
    · rename_i h4
      simp only [Option.some.injEq, Prod.mk.injEq] at h
      obtain ⟨rfl, rfl⟩ := h
      exact ⟨h1, h2, h3, fun e he => by simpa using List.all_eq_true.1 h4 e (by simpa using he)⟩
    · cases h
  · cases h
/-- k may stand ahead of i -/
def okF (ops : Array Oper) (T : Array (List Nat)) (F : List Nat) (k i : Nat) : Bool :=
  k != i && (match ops[k]?, ops[i]? with
    | some ok, some oi => (ok.after.toList.all fun e => !Region.binds .any e || e.on != i) &&
        (if F.contains i then F.contains k || (isChg ok.op || ok.apart ops oi) else (T.getD i []).contains k || (!F.contains k && (ok.apart ops oi && !isChg ok.op)))
    | _, _ => false)
def oneF (ops : Array Oper) (F : List Nat) (i : Nat) : Bool := match ops[i]? with
  | some o => (o.after.toList.all fun e => !Region.binds .any e || (decide (e.on < ops.size) && e.on != i)) && ((!F.contains i || (fltO o).isSome) &&
      F.all fun p => p == i || (match ops[p]? with
        | some op => !(op.dst == o.dst)
        | none => false))
  | none => false
def pwB (p : Nat → Nat → Bool) : List Nat → Bool
  | [] => true
  | i :: l => l.all (p i) && pwB p l
theorem pwB_spec {p : Nat → Nat → Bool} : ∀ {l : List Nat}, pwB p l = true → l.Pairwise fun k i => p k i = true
  | [], _ => List.Pairwise.nil
  | i :: l, h => by
    simp only [pwB, Bool.and_eq_true] at h
    exact List.Pairwise.cons (fun j hj => List.all_eq_true.1 h.1 j hj) (pwB_spec h.2)
def canonOKF (ops : Array Oper) (F l : List Nat) : Bool := closedT ops (preT ops) && (l.length == ops.size && (l.all (oneF ops F) && pwB (okF ops (preT ops) F) l))

section
variable {P : Program} {ops : Array Oper} {T : Array (List Nat)} {K : AState → Prop} {F : List Nat}

theorem okF_spec {k i : Nat} (h : okF ops T F k i = true) : k ≠ i ∧ ∃ ok oi, ops[k]? = some ok ∧ ops[i]? = some oi ∧ (∀ e ∈ ok.after, Region.binds .any e = true → e.on ≠ i) ∧
    (i ∈ F → k ∈ F ∨ isChg ok.op = true ∨ ok.apart ops oi = true) ∧ (i ∉ F → (T.getD i []).contains k = true ∨ (k ∉ F ∧ ok.apart ops oi = true ∧ isChg ok.op = false)) := by
  unfold okF at h
  rw [Bool.and_eq_true, bne_iff_ne] at h
  obtain ⟨h0, h⟩ := h
  split at h
  · rename_i ok oi h1 h2
    rw [Bool.and_eq_true] at h
    obtain ⟨h3, h4⟩ := h
    refine ⟨h0, ok, oi, h1, h2, fun e he hb => ?_, fun hi => ?_, fun hi => ?_⟩
    · have := List.all_eq_true.1 h3 e (by simpa using he)
      simpa [hb] using this
    · rw [if_pos (by simpa using hi)] at h4
      simpa using h4
    · rw [if_neg (by simpa using hi)] at h4
      simpa using h4
  · cases h
theorem oneF_spec {i : Nat} (h : oneF ops F i = true) : ∃ o, ops[i]? = some o ∧ (∀ e ∈ o.after, Region.binds .any e = true → e.on < ops.size ∧ e.on ≠ i) ∧ (i ∈ F → ∃ t d, fltO o = some (t, d)) ∧
    ∀ p ∈ F, p ≠ i → ∃ op, ops[p]? = some op ∧ op.dst ≠ o.dst := by
  unfold oneF at h
  split at h
  · rename_i o ho
    simp only [Bool.and_eq_true] at h
    obtain ⟨h1, h2, h3⟩ := h
    refine ⟨o, ho, fun e he hb => ?_, fun hi => ?_, fun p hp hne => ?_⟩
    · have := List.all_eq_true.1 h1 e (by simpa using he)
      simpa [hb] using this
    · have : (fltO o).isSome = true := by simpa [hi] using h2
      obtain ⟨⟨t, d⟩, e⟩ := Option.isSome_iff_exists.1 this
      exact ⟨t, d, e⟩
    · have := List.all_eq_true.1 h3 p hp
      simp only [Bool.or_eq_true, beq_iff_eq, hne, false_or] at this
      split at this
      · rename_i op hop
        exact ⟨op, hop, by simpa using this⟩
      · cases this
  · cases h

/-- variables that were made, and that nobody knows yet -/
structure Res (P : Program) (κ : Kap) (ops : Array Oper) (s : AState) (a : Act) (w : World) (own : Own) (M : Mem) (R : List Nat) (β : Nat → Nat) : Prop where
  at' : ∀ p ∈ R, ∃ o t d z w0, ops[p]? = some o ∧ fltO o = some (t, d) ∧ (zeroValue t).run P w0 = .ok z w0 ∧ (d < a.tmps.size → a.tmps.getD d undef = .pointer (some ⟨β p, 0, none⟩)) ∧
    w.heap[β p]? = some (.cells z.cells t (0, 0)) ∧ ¬ OB own s.η (β p) ∧ M (β p) = none ∧ κ.w.heap.size ≤ β p
  inj : ∀ p ∈ R, ∀ q ∈ R, β p = β q → p = q
def Und (ops : Array Oper) (F l : List Nat) (s : AState) : Prop := ∀ p ∈ l, p ∈ F → ∀ o t d, ops[p]? = some o → fltO o = some (t, d) → s.fr d = .undef

theorem Res.reg {κ : Kap} {s : AState} {a : Act} {w : World} {own : Own} {M : Mem} {R : List Nat} {β : Nat → Nat} (hr : Rel κ s a w own M) (hs : Res P κ ops s a w own M R β) {p : Nat} (hp : p ∈ R) {o : Oper} {t : TypeId} {d : Nat} (ho : ops[p]? = some o) (hf : fltO o = some (t, d))
    {cs : List AVal} (hz : tzero P t = some cs) (hcs : cs ≠ []) : ∃ own', Rel κ (({ s with η := upd s.η s.n (some (.cells cs.length [cs])), n := s.n + 1 } : AState).put (some d) (.ptr s.n 0 0)) a w own' M ∧
      Res P κ ops (({ s with η := upd s.η s.n (some (.cells cs.length [cs])), n := s.n + 1 } : AState).put (some d) (.ptr s.n 0 0)) a w own' M (R.filter (· != p)) β := by
  obtain ⟨o', t', d', z, w0, g1, g2, g3, g4, g5, g6, g7, g8⟩ := hs.at' p hp
  rw [ho] at g1; cases g1
  rw [hf] at g2; cases g2
  obtain ⟨z', z1, z2, z3, z4, z5⟩ := zero_run (own := own) (M := M) hz w0
  rw [g3] at z1; cases z1
  have hfn := hr.st.fresh s.n (Nat.le_refl _)
  have hle := Own.le_put hfn ⟨β p, 0, z.cells.size, cs.length⟩
  have hlen : 0 < cs.length := List.length_pos_iff.2 hcs
  have hst : St (own.put s.n ⟨β p, 0, z.cells.size, cs.length⟩) M (upd s.η s.n (some (.cells cs.length [cs]))) (s.n + 1) w := by
    refine hr.st.add (p := ⟨β p, 0, z.cells.size, cs.length⟩) ⟨rfl, hlen, by simp, by simp; omega, fun _ => ⟨g7, z.cells, t, g5, Nat.le_refl _⟩, fun i j row c hi hj => ?_⟩ (fun hlt r q o hr' hq hs' e => g6 ⟨r, q, o, hr', hq, hs', e⟩) (fun _ _ => rfl) (fun _ _ _ => rfl)
    cases i with
    | succ i => simp at hi
    | zero =>
      simp at hi; subst hi
      have hjl := (List.getElem?_eq_some_iff.1 hj).1
      refine ⟨z.cells.getD j undef, ?_, (z4 j c hj).mono hle (Mem.le_refl _)⟩
      have : j < z.cells.size := by omega
      simp [World.cell?, g5, this, Array.getD_eq_getD_getElem?]
  have pη := AState.put_η (s := ({ s with η := upd s.η s.n (some (.cells cs.length [cs])), n := s.n + 1 } : AState)) (d := some d) (v := .ptr s.n 0 0)
  refine ⟨own.put s.n ⟨β p, 0, z.cells.size, cs.length⟩, ⟨by rw [pη.1, pη.2]; exact hst, fun x => ?_, ?_, hr.df, Own.le_trans hr.le hle, hr.mle, hr.frm, ⟨fun b hb => ?_, hr.ob.2⟩, by rw [pη.2]; exact Nat.le_succ_of_le hr.n⟩, fun q hq => ?_, fun q1 h1 q2 h2 => hs.inj q1 (List.mem_filter.1 h1).1 q2 (List.mem_filter.1 h2).1⟩
  · by_cases hx : x = d ∧ d < s.nt
    · obtain ⟨rfl, hd⟩ := hx
      have e1 : (({ s with η := upd s.η s.n (some (.cells cs.length [cs])), n := s.n + 1 } : AState).put (some x) (.ptr s.n 0 0)).fr x = .ptr s.n 0 0 := by
        unfold AState.put; simp only [hd, if_true, setf_eq]
      rw [e1, g4 (by rw [hr.nt]; exact hd)]
      have := VR.ptr (own := own.put s.n ⟨β p, 0, z.cells.size, cs.length⟩) (M := M) s.n 0 0 ⟨β p, 0, z.cells.size, cs.length⟩ (by simp [Own.put])
      simpa using this
    · have e1 : (({ s with η := upd s.η s.n (some (.cells cs.length [cs])), n := s.n + 1 } : AState).put (some d) (.ptr s.n 0 0)).fr x = s.fr x := by
        unfold AState.put
        simp only
        split
        · rename_i hd; simp only; rw [setf_ne fun e => hx ⟨e, hd⟩]
        · rfl
      rw [e1]
      exact (hr.fr x).mono hle (Mem.le_refl _)
  · rw [hr.nt]; unfold AState.put; simp only; split <;> rfl
  · rw [pη.1] at hb
    rcases OB.add hfn hb with h | h
    · exact hr.ob.1 b h
    · exact Or.inr (by rw [h]; exact g8)
  · obtain ⟨q1, q2⟩ := List.mem_filter.1 hq
    obtain ⟨o1, t1, d1, y, y0, k1, k2, k3, k4, k5, k6, k7, k8⟩ := hs.at' q q1
    refine ⟨o1, t1, d1, y, y0, k1, k2, k3, k4, k5, fun hb => ?_, k7, k8⟩
    rw [pη.1] at hb
    rcases OB.add hfn hb with h | h
    · exact k6 h
    · have := hs.inj q q1 p hp h
      simp [this] at q2

/-- what was made is named, where it stands ahead -/
theorem flush {κ : Kap} {a : Act} {w : World} {M : Mem} {β : Nat → Nat} (hcl : closedT ops T = true) {l2 : List Nat} : ∀ (l1 pre R : List Nat) (lds : List (Nat × (AHeap → Prop))) (s : AState) (own : Own), Rel κ s a w own M → Res P κ ops s a w own M R β → Und ops F (pre ++ (l1 ++ l2)) s →
    (∀ x ∈ l1, x ∈ F → x ∈ R) → (∀ k ∈ pre, k ∉ F ∧ ∃ ok, ops[k]? = some ok ∧ isChg ok.op = false) → (∀ k ∈ l1, k ∉ F → ∃ ok, ops[k]? = some ok ∧ isChg ok.op = false) → (∀ i ∈ pre ++ (l1 ++ l2), oneF ops F i = true) → ((pre ++ (l1 ++ l2)).Pairwise fun k i => okF ops T F k i = true) → adr P ops T (pre ++ (l1 ++ l2)) lds K s →
    ∃ lds' s' own', Rel κ s' a w own' M ∧ Res P κ ops s' a w own' M (R.filter fun q => !l1.contains q) β ∧ Und ops F (pre ++ (l1.filter (fun x => !F.contains x) ++ l2)) s' ∧ adr P ops T (pre ++ (l1.filter (fun x => !F.contains x) ++ l2)) lds' K s'
  | [], pre, R, lds, s, own, hr, hs, hu, _, _, _, _, _, ha => by
    refine ⟨lds, s, own, hr, ?_, by simpa using hu, by simpa using ha⟩
    have : (R.filter fun q => !([] : List Nat).contains q) = R := List.filter_eq_self.2 fun x _ => by simp
    rw [this]; exact hs
  | x :: l1, pre, R, lds, s, own, hr, hs, hu, hR, hpre, hl1, h1, hpw, ha => by
    by_cases hx : x ∈ F
    · obtain ⟨o, ho, e1, e2, e3⟩ := oneF_spec (h1 x (by simp))
      obtain ⟨t, d, hf⟩ := e2 hx
      obtain ⟨f1, f2, f3, f4⟩ := fltO_spec hf
      have hTx : ∀ k, (T.getD x []).contains k = false := fun k => by
        cases hc : (T.getD x []).contains k with
        | false => rfl
        | true =>
          have hcl' := List.all_eq_true.1 hcl x (List.mem_range.2 (Array.getElem?_eq_some_iff.1 ho).1)
          simp only [ho] at hcl'
          have hc' := List.all_eq_true.1 hcl' k (by simpa using hc)
          obtain ⟨ed, hed, hb⟩ := List.any_eq_true.1 hc'
          rw [f4 ed (by simpa using hed)] at hb
          simp at hb
      have hfr : adr P ops T (x :: (pre ++ (l1 ++ l2))) lds K s := by
        refine adr_front ho pre lds s (fun k hk => ⟨hTx k, ?_⟩) ha
        obtain ⟨k1, ok, k2, k3⟩ := hpre k hk
        have hkx := (List.pairwise_append.1 hpw).2.2 k hk x (by simp)
        obtain ⟨_, ok', oi, m1, m2, _, m3, _⟩ := okF_spec hkx
        rw [k2] at m1; cases m1
        rw [ho] at m2; cases m2
        refine ⟨ok, k2, ?_, k3⟩
        rcases m3 hx with g | g | g
        · exact absurd g k1
        · rw [k3] at g; cases g
        · exact g
      rw [adr] at hfr
      simp only [ho] at hfr
      rw [aguard_iff] at hfr
      have hw : wantd ops o s = some true := by unfold wantd; rw [f3]
      rcases hfr with ⟨_, hfr⟩ | ⟨hw', _⟩
      · rw [if_pos (by rw [f1]; rfl)] at hfr
        unfold achg at hfr
        rw [f1] at hfr
        simp only at hfr
        split at hfr
        · rename_i cs hz
          obtain ⟨hcs, _, hfr⟩ := hfr
          rw [f2] at hfr
          obtain ⟨own', hr', hs'⟩ := hs.reg hr (hR x (by simp) hx) ho hf hz hcs
          have hne : ∀ p ∈ pre ++ (l1 ++ l2), p ≠ x := fun p hp e => by
            subst e
            rw [List.pairwise_append] at hpw
            obtain ⟨w1, w2, w3⟩ := hpw
            rcases List.mem_append.1 hp with hp | hp
            · exact (okF_spec (w3 p hp p (by simp))).1 rfl
            · exact (okF_spec ((List.pairwise_cons.1 w2).1 p hp)).1 rfl
          have hsubl : (pre ++ (l1 ++ l2)).Sublist (pre ++ (x :: l1 ++ l2)) := List.Sublist.append (List.Sublist.refl _) (by simp)
          have hu' : Und ops F (pre ++ (l1 ++ l2)) (({ s with η := upd s.η s.n (some (.cells cs.length [cs])), n := s.n + 1 } : AState).put (some d) (.ptr s.n 0 0)) := fun p hp hpF o1 t1 d1 ho1 hf1 => by
            rw [AState.fr_put]
            · exact hu p (hsubl.mem hp) hpF o1 t1 d1 ho1 hf1
            · intro y hy e
              obtain ⟨op, k1, k2⟩ := e3 p hpF (hne p hp)
              rw [ho1] at k1; cases k1
              rw [(fltO_spec hf1).2.1, f2] at k2
              simp only [Option.some.injEq] at hy
              exact k2 (by rw [← e, ← hy])
          obtain ⟨lds', s', own'', r1, r2, r3, r4⟩ := flush hcl (l2 := l2) l1 pre _ _ _ own' hr' hs' hu' (fun y hy hyF => List.mem_filter.2 ⟨hR y (by simp [hy]) hyF, by simpa using hne y (by simp [hy])⟩) hpre (fun k hk => hl1 k (by simp [hk])) (fun i hi => h1 i (hsubl.mem hi)) (hpw.sublist hsubl) hfr
          refine ⟨lds', s', own'', r1, ?_, ?_, ?_⟩
          · have : (R.filter fun q => !(x :: l1).contains q) = (R.filter (· != x)).filter fun q => !l1.contains q := by
              rw [List.filter_filter]
              congr 1
              funext q
              simp only [List.contains_cons, Bool.not_or, bne]
              rw [Bool.and_comm]
            rw [this]; exact r2
          · simpa [hx] using r3
          · simpa [hx] using r4
        · exact hfr.elim
      · rw [hw] at hw'; cases hw'
    · have e0 : pre ++ (x :: l1 ++ l2) = (pre ++ [x]) ++ (l1 ++ l2) := by simp
      rw [e0] at hu h1 hpw ha
      obtain ⟨lds', s', own', r1, r2, r3, r4⟩ := flush hcl (l2 := l2) l1 (pre ++ [x]) R lds s own hr hs hu (fun y hy => hR y (by simp [hy])) (fun k hk => by
        rcases List.mem_append.1 hk with hk | hk
        · exact hpre k hk
        · simp only [List.mem_singleton] at hk
          subst hk
          exact ⟨hx, hl1 k (by simp) hx⟩) (fun k hk => hl1 k (by simp [hk])) h1 hpw ha
      have e1 : (x :: l1).filter (fun x => !F.contains x) = x :: l1.filter (fun x => !F.contains x) := by simp [hx]
      refine ⟨lds', s', own', r1, ⟨fun p hp => ?_, fun p hp q hq => ?_⟩, by rw [e1]; simpa using r3, by rw [e1]; simpa using r4⟩
      · exact r2.at' p (by
          obtain ⟨h1, h2⟩ := List.mem_filter.1 hp
          simp only [List.contains_cons, Bool.not_or, Bool.and_eq_true] at h2
          exact List.mem_filter.2 ⟨h1, h2.2⟩)
      · have key : ∀ p, p ∈ (R.filter fun q => !(x :: l1).contains q) → p ∈ R.filter fun q => !l1.contains q := fun p hp => by
          obtain ⟨h1, h2⟩ := List.mem_filter.1 hp
          simp only [List.contains_cons, Bool.not_or, Bool.and_eq_true] at h2
          exact List.mem_filter.2 ⟨h1, h2.2⟩
        exact r2.inj p (key p hp) q (key q hq)

/-- what is left of an order: R: what was made already, and stands there still -/
structure LeftF (ops : Array Oper) (T : Array (List Nat)) (F : List Nat) (listed : Array Bool) (l R : List Nat) : Prop where
  mem : ∀ i, i < ops.size → (listed.getD i true = false ↔ i ∈ l ∧ i ∉ R)
  one : ∀ i ∈ l, oneF ops F i = true
  sz : listed.size = ops.size
  dn : ∀ j, j < ops.size → listed.getD j true = true → ∀ k, (T.getD j []).contains k = true → listed.getD k true = true
  pw : l.Pairwise fun k i => okF ops T F k i = true
  sub : ∀ p ∈ R, p ∈ l ∧ p ∈ F

theorem LeftF.lt {listed : Array Bool} {l R : List Nat} (h : LeftF ops T F listed l R) {i : Nat} (hi : i ∈ l) : i < ops.size := by
  obtain ⟨o, ho, _⟩ := oneF_spec (h.one i hi)
  exact (Array.getElem?_eq_some_iff.1 ho).1
theorem getD_ft {listed : Array Bool} {j : Nat} (h : listed.getD j false = true) : listed.getD j true = true := by
  rw [Array.getD_eq_getD_getElem?] at h ⊢
  cases hx : listed[j]? with
  | none => rfl
  | some x => rw [hx] at h; exact h
theorem getD_tf {listed : Array Bool} {j : Nat} (hj : j < listed.size) (h : listed.getD j true = true) : listed.getD j false = true := by
  rw [Array.getD_eq_getD_getElem?] at h ⊢
  rw [Array.getElem?_eq_getElem hj] at h ⊢
  exact h
theorem LeftF.ready {listed : Array Bool} {l R : List Nat} (h : LeftF ops T F listed l R) {i : Nat} (hi : i ∈ Region.ready .any ops listed) : i ∈ l ∧ i ∉ R ∧ ∃ o, ops[i]? = some o ∧ ∀ e ∈ o.after, Region.binds .any e = true → listed.getD e.on true = true ∧ e.on < ops.size := by
  obtain ⟨h1, o, ho, h2⟩ := mem_ready.1 hi
  obtain ⟨k1, k2⟩ := (h.mem i (Array.getElem?_eq_some_iff.1 ho).1).1 h1
  obtain ⟨o', ho', h3, _⟩ := oneF_spec (h.one i k1)
  rw [ho] at ho'; cases ho'
  exact ⟨k1, k2, o, ho, fun e he hb => ⟨getD_ft (h2 e he hb), (h3 e he hb).1⟩⟩
theorem LeftF.preT {listed : Array Bool} {l R : List Nat} (h : LeftF ops T F listed l R) (hcl : closedT ops T = true) {i : Nat} (hi : i ∈ Region.ready .any ops listed) : ∀ k, (T.getD i []).contains k = true → listed.getD k true = true := fun k hk => by
  obtain ⟨hil, _, o, ho, hpre⟩ := h.ready hi
  have hcl' := List.all_eq_true.1 hcl i (List.mem_range.2 (h.lt hil))
  simp only [ho] at hcl'
  have hc := List.all_eq_true.1 hcl' k (by simpa using hk)
  obtain ⟨ed, hed, hb⟩ := List.any_eq_true.1 hc
  simp only [Bool.and_eq_true, Bool.or_eq_true, beq_iff_eq] at hb
  obtain ⟨hb1, hb2⟩ := hb
  obtain ⟨k1, k2⟩ := hpre ed (by simpa using hed) hb1
  rcases hb2 with rfl | hb2
  · exact k1
  · exact h.dn ed.on k2 k1 k hb2
theorem LeftF.set {listed : Array Bool} {l R : List Nat} (h : LeftF ops T F listed l R) {i j : Nat} (hi : i < ops.size) : (listed.setIfInBounds i true).getD j true = true ↔ listed.getD j true = true ∨ j = i := by
  by_cases e : i = j
  · subst e
    simp only [or_true, iff_true]
    rw [Array.getD_eq_getD_getElem?, Array.getElem?_setIfInBounds]
    simp [h.sz, hi]
  · rw [getD_set_ne true e]
    exact ⟨Or.inl, fun g => g.elim id fun g => absurd g.symm e⟩
/-- with one more done, and what was named struck -/
theorem LeftF.next {listed : Array Bool} {l R l' R' : List Nat} (h : LeftF ops T F listed l R) (hcl : closedT ops T = true) {i : Nat} (hi : i ∈ Region.ready .any ops listed) (hs : l'.Sublist l) (hm : ∀ j, j < ops.size → ((j ∈ l' ∧ j ∉ R') ↔ ((j ∈ l ∧ j ∉ R) ∧ j ≠ i))) (hR : ∀ p ∈ R', p ∈ l' ∧ p ∈ F) :
    LeftF ops T F (listed.setIfInBounds i true) l' R' := by
  have hio := h.lt (h.ready hi).1
  refine ⟨fun j hj => ?_, fun j hj => h.one j (hs.mem hj), by simpa using h.sz, fun j hj hl k hk => ?_, h.pw.sublist hs, hR⟩
  · rw [hm j hj, ← h.mem j hj, ← Bool.not_eq_true, h.set hio, not_or, Bool.not_eq_true]
  · rw [h.set hio] at hl ⊢
    rcases hl with hl | rfl
    · exact Or.inl (h.dn j hj hl k hk)
    · exact Or.inl (h.preT hcl hi k hk)

/-- how many are still to come -/
def toCome (ops : Array Oper) (listed : Array Bool) : Nat := ((List.range ops.size).filter fun j => !listed.getD j true).length
theorem toCome_set {listed : Array Bool} {i : Nat} (hi : i < ops.size) (hsz : listed.size = ops.size) (hl : listed.getD i true = false) : toCome ops (listed.setIfInBounds i true) < toCome ops listed := by
  unfold toCome
  have e : ((List.range ops.size).filter fun j => !(listed.setIfInBounds i true).getD j true) = ((List.range ops.size).filter fun j => !listed.getD j true).filter fun j => j != i := by
    rw [List.filter_filter]
    refine List.filter_congr fun j _ => ?_
    by_cases hji : j = i
    · subst hji
      rw [Array.getD_eq_getD_getElem?, Array.getElem?_setIfInBounds]
      simp [hsz, hi]
    · rw [getD_set_ne true (Ne.symm hji)]
      simp [hji]
  rw [e]
  have hm : i ∈ (List.range ops.size).filter fun j => !listed.getD j true := List.mem_filter.2 ⟨List.mem_range.2 hi, by simp [hl]⟩
  exact List.length_filter_lt_length_iff_exists.2 ⟨i, hm, by simp⟩

theorem LeftF.done {listed : Array Bool} {l R : List Nat} (h : LeftF ops T F listed l R) (h0 : Region.ready .any ops listed = []) : ∀ x ∈ l, x ∈ R := by
  have key : ∀ (l1 l2 : List Nat), l = l1 ++ l2 → (∀ x ∈ l1, x ∈ R) → ∀ x ∈ l2, x ∈ R := fun l1 l2 => by
    induction l2 generalizing l1 with
    | nil => intro _ _ x hx; simp at hx
    | cons y l2 ih =>
      intro e h1
      have hy : y ∈ R := by
        by_cases hy : y ∈ R
        · exact hy
        · have hyl : y ∈ l := by rw [e]; simp
          obtain ⟨o, ho, h3, _⟩ := oneF_spec (h.one y hyl)
          have : y ∈ Region.ready .any ops listed := by
            refine mem_ready.2 ⟨(h.mem y (h.lt hyl)).2 ⟨hyl, hy⟩, o, ho, fun ed hed hb => ?_⟩
            obtain ⟨k1, k2⟩ := h3 ed hed hb
            refine getD_tf (by rw [h.sz]; exact k1) ?_
            cases hx : listed.getD ed.on true with
            | true => rfl
            | false =>
              obtain ⟨q1, q2⟩ := (h.mem ed.on k1).1 hx
              exfalso
              rw [e] at q1
              rcases List.mem_append.1 q1 with q1 | q1
              · exact q2 (h1 _ q1)
              · rcases List.mem_cons.1 q1 with q1 | q1
                · exact k2 q1
                · have hpw := h.pw
                  rw [e] at hpw
                  have := (List.pairwise_cons.1 (List.pairwise_append.1 hpw).2.1).1 _ q1
                  obtain ⟨_, oy, _, m1, _, m2, _⟩ := okF_spec this
                  rw [ho] at m1; cases m1
                  exact m2 ed hed hb rfl
          rw [h0] at this; simp at this
      intro x hx
      rcases List.mem_cons.1 hx with rfl | hx
      · exact hy
      · refine ih (l1 ++ [y]) (by rw [e]; simp) (fun z hz => ?_) x hx
        rcases List.mem_append.1 hz with hz | hz
        · exact h1 z hz
        · simp at hz; rw [hz]; exact hy
  exact key [] l rfl (by simp)

/-- what was made stays, whatever is done next -/
theorem Res.out {κ : Kap} {s : AState} {a : Act} {w : World} {own : Own} {M : Mem} {R : List Nat} {β : Nat → Nat} (hr : Rel κ s a w own M) (hs : Res P κ ops s a w own M R β) {K' : AVal → AHeap → Nat → Prop} {u : Value} {w' : World} (ho : Out own M s.η s.n w K' u w') {dst : Option Tmp}
    (hd : ∀ p ∈ R, ∀ o t d, ops[p]? = some o → fltO o = some (t, d) → dst ≠ some d) : ∃ v η' n' own' M', K' v η' n' ∧ Rel κ (({ s with η := η', n := n' } : AState).put dst v) (a.put dst u) w' own' M' ∧ Res P κ ops (({ s with η := η', n := n' } : AState).put dst v) (a.put dst u) w' own' M' R β := by
  obtain ⟨v, η', n', own', M', h1, h2, h3, h4, h5, h6, h7, h8⟩ := ho
  refine ⟨v, η', n', own', M', h1, Rel.put (s := { s with η := η', n := n' }) ⟨h3, fun t => (hr.fr t).mono h5 h6, hr.nt, hr.df, Own.le_trans hr.le h5, Mem.le_trans hr.mle h6, hr.frm.trans h7 fun x hx hb => ?_, ⟨fun b hb => ?_, fun b hb => ?_⟩, Nat.le_trans hr.n h2⟩ dst h4, fun p hp => ?_, hs.inj⟩
  · rcases hr.ob.1 x hb with g | g
    · exact g
    · omega
  · rcases h8.1 b hb with g | g
    · exact hr.ob.1 b g
    · exact Or.inr (Nat.le_trans hr.frm.size g)
  · rcases h8.2 b hb with g | g | g
    · exact hr.ob.2 b g
    · exact Or.inr (hr.ob.1 b g)
    · exact Or.inr (Or.inr (Nat.le_trans hr.frm.size g))
  · obtain ⟨o, t, d, z, w0, g1, g2, g3, g4, g5, g6, g7, g8⟩ := hs.at' p hp
    have hlt := blk_lt' g5
    have hdd := hd p hp o t d g1 g2
    refine ⟨o, t, d, z, w0, g1, g2, g3, fun hsz => ?_, by rw [h7.block _ hlt g6]; exact g5, fun hb => ?_, ?_, g8⟩
    · cases dst with
      | none => exact g4 hsz
      | some x =>
        have hxd : x ≠ d := fun e => hdd (by rw [e])
        have e1 : (a.put (some x) u).tmps = a.tmps.setIfInBounds x u := rfl
        rw [e1] at hsz ⊢
        rw [Array.getD_eq_getD_getElem?, Array.getElem?_setIfInBounds, if_neg hxd, ← Array.getD_eq_getD_getElem?]
        exact g4 (by simpa using hsz)
    · rw [AState.put_η.1] at hb
      rcases h8.1 _ hb with g | g
      · exact g6 g
      · omega
    · cases hM : M' (β p) with
      | none => rfl
      | some x =>
        rcases h8.2 (β p) (by rw [hM]; simp) with g | g | g
        · exact absurd g7 g
        · exact absurd g g6
        · omega

theorem Und.put {l : List Nat} {s : AState} (hu : Und ops F l s) {dst : Option Tmp} {v : AVal} {η : AHeap} {n : Nat} (hd : ∀ p ∈ l, p ∈ F → ∀ o t d, ops[p]? = some o → fltO o = some (t, d) → dst ≠ some d) : Und ops F l (({ s with η := η, n := n } : AState).put dst v) := fun p hp hpF o t d ho hf => by
  rw [AState.fr_put fun x hx e => hd p hp hpF o t d ho hf (by rw [hx, e])]
  exact hu p hp hpF o t d ho hf

theorem adr_flt {κ : Kap} {Q : Exit → Act → World → Prop} (hQ : ∀ s a w, K s → RelE κ s a w → Q .normal a w) (hcl : closedT ops T = true) (hz : ∀ p ∈ F, ∀ o t d, ops[p]? = some o → fltO o = some (t, d) → ∃ cs, tzero P t = some cs) :
    ∀ (m : Nat) (l R : List Nat) (β : Nat → Nat) (listed : Array Bool) (lds : List (Nat × (AHeap → Prop))) (s : AState) (a : Act) (w : World) (own : Own) (M : Mem), toCome ops listed ≤ m → LeftF ops T F listed l R → Rel κ s a w own M → Res P κ ops s a w own M R β → Und ops F l s →
      adr P ops T l lds K s → wpAny P .any ops Q m listed a w
  | m, l, R, β, listed, lds, s, a, w, own, M, hm, hL, hr, hs, hu, ha => by
    have hend : Region.ready .any ops listed = [] → Q .normal a w := fun h0 => by
      have hlR := hL.done h0
      obtain ⟨lds', s', own', r1, _, _, r4⟩ := flush hcl (l2 := []) l [] R lds s own hr hs (by simpa using hu) (fun x hx _ => hlR x hx) (by simp) (fun k hk hkF => absurd (hL.sub k (hlR k hk)).2 hkF) (by simpa using hL.one) (by simpa using hL.pw) (by simpa using ha)
      have e : l.filter (fun x => !F.contains x) = [] := List.filter_eq_nil_iff.2 fun x hx => by simpa using (hL.sub x (hlR x hx)).2
      rw [e] at r4
      exact hQ s' a w (by simpa [adr] using r4) ⟨own', M, r1⟩
    cases m with
    | zero =>
      have h0 : Region.ready .any ops listed = [] := by
        cases hrd : Region.ready .any ops listed with
        | nil => rfl
        | cons i r =>
          have hi : i ∈ Region.ready .any ops listed := by rw [hrd]; simp
          obtain ⟨k1, k2, _⟩ := hL.ready hi
          have := toCome_set (hL.lt k1) hL.sz ((hL.mem i (hL.lt k1)).2 ⟨k1, k2⟩)
          omega
      exact ⟨h0, hend h0⟩
    | succ m =>
      refine ⟨hend, fun i hi => ?_⟩
      obtain ⟨hil, hiR, o, ho, _⟩ := hL.ready hi
      obtain ⟨o', ho', e1, e2, e3⟩ := oneF_spec (hL.one i hil)
      rw [ho] at ho'; cases ho'
      have hio := hL.lt hil
      have hm' : toCome ops (listed.setIfInBounds i true) ≤ m := by
        have := toCome_set hio hL.sz ((hL.mem i hio).2 ⟨hil, hiR⟩)
        omega
      have hdst : ∀ p ∈ l, p ∈ F → p ≠ i → ∀ op t d, ops[p]? = some op → fltO op = some (t, d) → o.dst ≠ some d := fun p _ hpF hne op t d hop hf e => by
        obtain ⟨op', k1, k2⟩ := e3 p hpF hne
        rw [hop] at k1; cases k1
        exact k2 (by rw [(fltO_spec hf).2.1, e])
      by_cases hiF : i ∈ F
      · -- made, and not yet named
        obtain ⟨t, d, hf⟩ := e2 hiF
        obtain ⟨f1, f2, f3, f4⟩ := fltO_spec hf
        obtain ⟨cs, hcs⟩ := hz i hiF o t d ho hf
        obtain ⟨z, z1, _⟩ := zero_run (own := own) (M := M) hcs w
        have hund : s.fr d = .undef := hu i hil hiF o t d ho hf
        unfold wpOp
        rw [ho]
        simp only
        rw [if_pos (by unfold Region.wanted; rw [f3])]
        refine Or.inl ?_
        have hrun : (execOp a.eval o).run P w = .ok (.value (.pointer (some ⟨w.heap.size, 0, none⟩))) (w.alloc (.cells z.cells t)) := by
          unfold execOp
          rw [f1]
          unfold Instr.alloc newVar newRow
          simp only [Sem.run_bind, z1, Result.andThen_ok, Sem.run_pure, run_newObj, Nat.zero_mul, Nat.add_zero]
          rfl
        unfold Oper.wp
        rw [hrun]
        show wpAny P .any ops Q m (listed.setIfInBounds i true) (a.put o.dst (.pointer (some ⟨w.heap.size, 0, none⟩))) (w.alloc (.cells z.cells t))
        have hold : ∀ b, b < w.heap.size → (w.alloc (.cells z.cells t)).heap[b]? = w.heap[b]? := fun b hb => Go.RowKit.Below.heap_alloc _ _ _ hb
        have hnew : (w.alloc (.cells z.cells t)).heap[w.heap.size]? = some (.cells z.cells t (0, 0)) := by
          show (w.heap.push _)[w.heap.size]? = _
          simp
        have eput : (a.put o.dst (.pointer (some ⟨w.heap.size, 0, none⟩))).tmps = a.tmps.setIfInBounds d (.pointer (some ⟨w.heap.size, 0, none⟩)) := by rw [f2]; rfl
        have hob : ¬ OB own s.η w.heap.size := fun h => by have := OB.lt hr.st h; omega
        refine adr_flt hQ hcl hz m l (i :: R) (fun p => if p = i then w.heap.size else β p) _ lds s _ _ own M hm' ?_ ?_ ?_ hu ha
        · refine hL.next hcl hi (List.Sublist.refl _) (fun j _ => ?_) fun p hp => ?_
          · simp only [List.mem_cons, not_or]
            exact ⟨fun h => ⟨⟨h.1, h.2.2⟩, h.2.1⟩, fun h => ⟨h.1.1, h.2, h.1.2⟩⟩
          · rcases List.mem_cons.1 hp with rfl | hp
            · exact ⟨hil, hiF⟩
            · exact hL.sub p hp
        · refine ⟨hr.st.world (fun b hb => hold b (OB.lt hr.st hb)) (fun b arr hb => hold b (hr.st.mem_lt hb)), fun x => ?_, ?_, ?_, hr.le, hr.mle, hr.frm.trans (Fr.alloc κ.D w _) fun _ _ h => h, hr.ob, hr.n⟩
          · rw [eput]
            by_cases hx : d = x
            · subst hx; rw [hund]; exact .undef _
            · rw [Array.getD_eq_getD_getElem?, Array.getElem?_setIfInBounds, if_neg hx, ← Array.getD_eq_getD_getElem?]
              exact hr.fr x
          · rw [eput]; simpa using hr.nt
          · rw [f2]; exact hr.df
        · refine ⟨fun p hp => ?_, fun p hp q hq hpq => ?_⟩
          · by_cases hpi : p = i
            · subst hpi
              refine ⟨o, t, d, z, w, ho, hf, z1, fun hsz => ?_, by simpa using hnew, by simpa using hob, ?_, ?_⟩
              · rw [eput] at hsz ⊢
                rw [Array.getD_eq_getD_getElem?, Array.getElem?_setIfInBounds]
                simp at hsz
                simp [hsz]
              · simp only [if_true]
                cases hM : M w.heap.size with
                | none => rfl
                | some x => have := hr.st.mem_lt hM; omega
              · simpa using hr.frm.size
            · have hpR : p ∈ R := by
                rcases List.mem_cons.1 hp with h | h
                · exact absurd h hpi
                · exact h
              obtain ⟨op, t', d', y, y0, g1, g2, g3, g4, g5, g6, g7, g8⟩ := hs.at' p hpR
              simp only [if_neg hpi]
              refine ⟨op, t', d', y, y0, g1, g2, g3, fun hsz => ?_, by rw [hold _ (blk_lt' g5)]; exact g5, g6, g7, g8⟩
              have hdd := hdst p (hL.sub p hpR).1 (hL.sub p hpR).2 hpi op t' d' g1 g2
              rw [eput] at hsz ⊢
              rw [Array.getD_eq_getD_getElem?, Array.getElem?_setIfInBounds, if_neg (fun e => hdd (by rw [f2, e])), ← Array.getD_eq_getD_getElem?]
              exact g4 (by simpa using hsz)
          · have hR' : ∀ p, p ∈ i :: R → p ≠ i → p ∈ R ∧ β p < w.heap.size := fun p hp hne => by
              have hpR : p ∈ R := by
                rcases List.mem_cons.1 hp with h | h
                · exact absurd h hne
                · exact h
              obtain ⟨_, _, _, _, _, _, _, _, _, g5, _⟩ := hs.at' p hpR
              exact ⟨hpR, blk_lt' g5⟩
            by_cases hpi : p = i
            · by_cases hqi : q = i
              · rw [hpi, hqi]
              · have := (hR' q hq hqi).2
                simp only [if_pos hpi, if_neg hqi] at hpq
                omega
            · by_cases hqi : q = i
              · have := (hR' p hp hpi).2
                simp only [if_pos hqi, if_neg hpi] at hpq
                omega
              · simp only [if_neg hqi, if_neg hpi] at hpq
                exact hs.inj p (hR' p hp hpi).1 q (hR' q hq hqi).1 hpq
      · -- done, behind the names of all that was made ahead of it
        obtain ⟨l1, l2, e⟩ := List.append_of_mem hil
        have hpT := hL.preT hcl hi
        have hpw := hL.pw
        rw [e] at hpw
        have hki : ∀ k ∈ l1, okF ops T F k i = true := fun k hk => (List.pairwise_append.1 hpw).2.2 k hk i (by simp)
        have hkl : ∀ k ∈ l1, (T.getD i []).contains k = true → k ∈ R := fun k hk hT => by
          have h1 := hpT k hT
          have hkl : k ∈ l := by rw [e]; simp [hk]
          by_cases hkR : k ∈ R
          · exact hkR
          · have := (hL.mem k (hL.lt hkl)).2 ⟨hkl, hkR⟩
            rw [h1] at this; cases this
        have hl1F : ∀ x ∈ l1, x ∈ F → x ∈ R := fun x hx hxF => by
          obtain ⟨_, _, _, _, _, _, _, g⟩ := okF_spec (hki x hx)
          rcases g hiF with g | g
          · exact hkl x hx g
          · exact absurd hxF g.1
        have hl1N : ∀ k ∈ l1, k ∉ F → (T.getD i []).contains k = false ∧ ∃ ok, ops[k]? = some ok ∧ ok.apart ops o = true ∧ isChg ok.op = false := fun k hk hkF => by
          obtain ⟨_, ok, oi, m1, m2, _, _, g⟩ := okF_spec (hki k hk)
          rw [ho] at m2; cases m2
          have hT : (T.getD i []).contains k = false := by
            cases hc : (T.getD i []).contains k with
            | false => rfl
            | true => exact absurd (hL.sub k (hkl k hk hc)).2 hkF
          refine ⟨hT, ok, m1, ?_⟩
          rcases g hiF with g | g
          · rw [hT] at g; cases g
          · exact g.2
        obtain ⟨lds', s', own', r1, r2, r3, r4⟩ := flush hcl (l2 := i :: l2) l1 [] R lds s own hr hs (by simpa [e] using hu) hl1F (by simp) (fun k hk hkF => by
          obtain ⟨_, ok, m1, _, m3⟩ := hl1N k hk hkF
          exact ⟨ok, m1, m3⟩) (by simpa [e] using hL.one) (by simpa using hpw) (by simpa [e] using ha)
        simp only [List.nil_append] at r3 r4
        have hf := adr_front ho (l1.filter fun x => !F.contains x) lds' s' (fun k hk => by
          obtain ⟨k1, k2⟩ := List.mem_filter.1 hk
          exact hl1N k k1 (by simpa using k2)) r4
        -- what is behind it
        have hsub : (l1.filter (fun x => !F.contains x) ++ l2).Sublist l := by
          rw [e]
          exact List.Sublist.append List.filter_sublist (by simp)
        have hni : i ∉ l1 ∧ i ∉ l2 := by
          obtain ⟨w1, w2, w3⟩ := List.pairwise_append.1 hpw
          exact ⟨fun h => (okF_spec (w3 i h i (by simp))).1 rfl, fun h => (okF_spec ((List.pairwise_cons.1 w2).1 i h)).1 rfl⟩
        have hl12 : ∀ x ∈ l1, x ∉ l2 := fun x h1 h2 => (okF_spec ((List.pairwise_append.1 hpw).2.2 x h1 x (by simp [h2]))).1 rfl
        have hL' : LeftF ops T F (listed.setIfInBounds i true) (l1.filter (fun x => !F.contains x) ++ l2) (R.filter fun q => !l1.contains q) := by
          refine hL.next hcl hi hsub (fun j _ => ?_) fun p hp => ?_
          · rw [e]
            simp only [List.mem_append, List.mem_cons, List.mem_filter, Bool.not_eq_true', List.contains_eq_mem, decide_eq_false_iff_not]
            constructor
            · rintro ⟨h1 | h1, h2⟩
              · have hjR : j ∉ R := fun hjR => h1.2 (hL.sub j hjR).2
                exact ⟨⟨Or.inl h1.1, hjR⟩, fun ej => hni.1 (ej ▸ h1.1)⟩
              · have hjl1 : j ∉ l1 := fun h => hl12 j h h1
                exact ⟨⟨Or.inr (Or.inr h1), fun hjR => h2 ⟨hjR, hjl1⟩⟩, fun ej => hni.2 (ej ▸ h1)⟩
            · rintro ⟨⟨h1 | h1 | h1, h2⟩, h3⟩
              · refine ⟨Or.inl ⟨h1, fun hjF => h2 (hl1F j h1 hjF)⟩, fun h => h2 h.1⟩
              · exact absurd h1 h3
              · exact ⟨Or.inr h1, fun h => h2 h.1⟩
          · obtain ⟨p1, p2⟩ := List.mem_filter.1 hp
            obtain ⟨k1, k2⟩ := hL.sub p p1
            refine ⟨?_, k2⟩
            rw [e] at k1
            rcases List.mem_append.1 k1 with h | h
            · simp [h] at p2
            · rcases List.mem_cons.1 h with h | h
              · exact absurd (h ▸ k2) hiF
              · exact List.mem_append_right _ h
        have hdR : ∀ p ∈ R.filter (fun q => !l1.contains q), ∀ op t d, ops[p]? = some op → fltO op = some (t, d) → o.dst ≠ some d := fun p hp => by
          obtain ⟨k1, k2⟩ := hL.sub p (List.mem_filter.1 hp).1
          exact hdst p k1 k2 fun ep => hiF (ep ▸ k2)
        have hdl : ∀ p ∈ l1.filter (fun x => !F.contains x) ++ l2, p ∈ F → ∀ op t d, ops[p]? = some op → fltO op = some (t, d) → o.dst ≠ some d := fun p hp hpF => hdst p (hsub.mem hp) hpF fun ep => hiF (ep ▸ hpF)
        have hu' : Und ops F (l1.filter (fun x => !F.contains x) ++ l2) s' := fun p hp => r3 p (by
          rcases List.mem_append.1 hp with h | h
          · exact List.mem_append_left _ h
          · exact List.mem_append_right _ (List.mem_cons_of_mem _ h))
        have go : ∀ (lds2 : List (Nat × (AHeap → Prop))) (s2 : AState) (a2 : Act) (w2 : World) (own2 : Own) (M2 : Mem), Rel κ s2 a2 w2 own2 M2 → Res P κ ops s2 a2 w2 own2 M2 (R.filter fun q => !l1.contains q) β → Und ops F (l1.filter (fun x => !F.contains x) ++ l2) s2 →
            adr P ops T (l1.filter (fun x => !F.contains x) ++ l2) lds2 K s2 → wpAny P .any ops Q m (listed.setIfInBounds i true) a2 w2 := fun lds2 s2 a2 w2 own2 M2 q1 q2 q3 q4 =>
          adr_flt hQ hcl hz m _ _ β _ lds2 s2 a2 w2 own2 M2 hm' hL' q1 q2 q3 q4
        rw [adr] at hf
        simp only [ho] at hf
        unfold wpOp
        rw [ho]
        simp only
        have pure' : ∀ (v : AVal) (u : Value), VR own' M v u → Rel κ (s'.put o.dst v) (a.put o.dst u) w own' M ∧ Res P κ ops (s'.put o.dst v) (a.put o.dst u) w own' M (R.filter fun q => !l1.contains q) β ∧ Und ops F (l1.filter (fun x => !F.contains x) ++ l2) (s'.put o.dst v) := fun v u hv => by
          obtain ⟨v2, η2, n2, own2, M2, t1, t2, t3⟩ := r2.out r1 (K' := fun v2 η2 n2 => v2 = v ∧ η2 = s'.η ∧ n2 = s'.n) (u := u) (w' := w) ⟨v, s'.η, s'.n, own', M, ⟨rfl, rfl, rfl⟩, Nat.le_refl _, r1.st, hv, Own.le_refl _, Mem.le_refl _, Fr.refl _ _, fun b hb => Or.inl hb, fun b hb => Or.inl hb⟩ hdR
          refine ⟨r1.put o.dst hv, ⟨fun p hp => ?_, r2.inj⟩, ?_⟩
          · obtain ⟨op, t, d, z, w0, g1, g2, g3, g4, g5, g6, g7, g8⟩ := r2.at' p hp
            refine ⟨op, t, d, z, w0, g1, g2, g3, fun hsz => ?_, g5, by rw [AState.put_η.1]; exact g6, g7, g8⟩
            have hdd := hdR p hp op t d g1 g2
            cases hdst' : o.dst with
            | none => rw [hdst'] at hsz; exact g4 hsz
            | some x =>
              rw [hdst'] at hsz hdd
              have hxd : x ≠ d := fun e => hdd (by rw [e])
              have e1 : (a.put (some x) u).tmps = a.tmps.setIfInBounds x u := rfl
              rw [e1] at hsz ⊢
              rw [Array.getD_eq_getD_getElem?, Array.getElem?_setIfInBounds, if_neg hxd, ← Array.getD_eq_getD_getElem?]
              exact g4 (by simpa using hsz)
          · exact Und.put (η := s'.η) (n := s'.n) hu' hdl
        rcases aguard_sound ⟨own', M, r1⟩ hf with ⟨g1, g2⟩ | ⟨g1, g2⟩
        · rw [if_pos g1]
          refine Or.inl ?_
          split at g2
          · refine achg_sound r1.st (aev_sound r1.fr) g2 fun u w' ho' => ?_
            obtain ⟨v, η', n', own2, M2, t1, t2, t3⟩ := r2.out r1 ho' hdR
            exact go _ _ _ w' own2 M2 t2 t3 (Und.put hu' hdl) t1.2
          · split at g2
            · rename_i v hv
              obtain ⟨u, k1, k2⟩ := aval_sound r1.st (aev_sound r1.fr) hv
              unfold Oper.wp
              rw [k1]
              obtain ⟨t1, t2, t3⟩ := pure' v u k2
              exact go _ _ _ w own' M t1 t2 t3 g2
            · exact g2.elim
        · rw [if_neg (by rw [g1]; simp)]
          obtain ⟨t1, t2, t3⟩ := pure' _ _ vr_skip
          exact go _ _ _ w own' M t1 t2 t3 g2

/-- the slots of variables that may be made early are not known yet -/
def fltK (P : Program) (ops : Array Oper) (F : List Nat) (s : AState) : Prop := ∀ p ∈ F, ∀ o t d, ops[p]? = some o → fltO o = some (t, d) → (∃ cs, tzero P t = some cs) ∧ s.fr d = .undef
theorem DrawP.introF {id : Nat} {Q : Exit → AState → Prop} {s : AState} (hm : P.follows .mixedOrders = true) (F l : List Nat) (hl : canonOKF ops F l = true) (hF : fltK P ops F s) (h : adr P ops (preT ops) l [] (Q .normal) s) : DrawP P id ops Q s := by
  intro κ a w hr
  unfold canonOKF at hl
  simp only [Bool.and_eq_true, beq_iff_eq] at hl
  obtain ⟨hcl, hlen, hone, hpw⟩ := hl
  have hpw := pwB_spec hpw
  have hnd : l.Nodup := hpw.imp fun h => (okF_spec h).1
  have hone' : ∀ i ∈ l, oneF ops F i = true := fun i hi => List.all_eq_true.1 hone i hi
  have hlt : ∀ i ∈ l, i < ops.size := fun i hi => by
    obtain ⟨o, ho, _⟩ := oneF_spec (hone' i hi)
    exact (Array.getElem?_eq_some_iff.1 ho).1
  have hall : ∀ i, i < ops.size → i ∈ l := fun i hi => nodup_all ops.size l hnd hlt hlen i hi
  have hrep : ∀ i, i < ops.size → (Array.replicate ops.size false).getD i true = false := fun i hi => by simp [Array.getD_eq_getD_getElem?, hi]
  refine wp_region_any hm ?_
  obtain ⟨own, M, hR⟩ := hr
  have hr' : Rel κ s a { w with drawn := w.drawn + 1 } own M := ⟨hR.st.drawn _, hR.fr, hR.nt, hR.df, hR.le, hR.mle, hR.frm.trans (Fr.drewN κ.D w _) fun _ _ h => h, hR.ob, hR.n⟩
  refine adr_flt (K := Q .normal) (Q := Lift κ Q) (fun s a w hK hR => ⟨s, hK, hR⟩) hcl (fun p hp o t d ho hf => (hF p hp o t d ho hf).1) ops.size l [] (fun _ => 0) (Array.replicate ops.size false) [] s a _ own M ?_ ?_ hr' ⟨by simp, by simp⟩ (fun p _ hpF o t d ho hf => (hF p hpF o t d ho hf).2) h
  · unfold toCome
    exact Nat.le_trans (List.length_filter_le _ _) (by simp)
  · refine ⟨fun i hi => ⟨fun _ => ⟨hall i hi, by simp⟩, fun _ => hrep i hi⟩, hone', by simp, fun j hj hl => ?_, hpw, by simp⟩
    rw [hrep j hj] at hl; cases hl
def fltD (P : Program) (o : Oper) (s : AState) (_ : Tag o) : Prop := match o.op, o.dst with
  | .alloc t, some d => (∃ cs, tzero P t = some cs) ∧ s.fr d = .undef
  | _, _ => True
@[simp] theorem fltD_alloc (s : AState) (d : Tmp) (t ty : TypeId) (ps : String) (af : Array Edge) (gd : Option (Nat × Bool)) (g : Tag (⟨some d, .alloc t, ty, ps, af, gd⟩ : Oper)) : fltD P ⟨some d, .alloc t, ty, ps, af, gd⟩ s g = ((∃ cs, tzero P t = some cs) ∧ s.fr d = .undef) := _root_.id rfl
def fltC (P : Program) (ops : Array Oper) (s : AState) : List Nat → Prop
  | [] => True
  | p :: F => atK ops p (fun o => fltD P o s .mk) .mk .mk ∧ fltC P ops s F
theorem fltC_K {s : AState} : ∀ {F : List Nat}, fltC P ops s F → fltK P ops F s
  | [], _ => fun p hp => by simp at hp
  | q :: F, h => fun p hp o t d ho hf => by
    rcases List.mem_cons.1 hp with rfl | hp
    · have h := h.1
      obtain ⟨f1, f2, _⟩ := fltO_spec hf
      unfold atK at h
      rw [ho] at h
      simp only [fltD, f1, f2] at h
      exact h
    · exact fltC_K h.2 p hp o t d ho hf
def canonAF (ops : Array Oper) (F : List Nat) (l : List (Nat × List Nat)) : Bool := canonOKF ops F (l.map (·.1)) && canonU ops (preT ops) [] l
/-- the rule: F: the variables that may be made early -/
theorem drawK.introF {id : Nat} {s : AState} {Q : Exit → AState → Prop} {g : Tag ops} {g' : Tag Q} (hm : P.follows .mixedOrders = true) (F : List Nat) (l : List (Nat × List Nat)) (hl : canonAF ops F l = true) (hF : fltC P ops s F) (h : drK P ops l [] s (Q .normal) .mk .mk .mk) : drawK P id ops s Q g g' := by
  unfold canonAF at hl
  simp only [Bool.and_eq_true] at hl
  exact DrawP.introF hm F (l.map (·.1)) hl.1 (fltC_K hF) (adr_of_U l [] [] s hl.2 (by simp) h)
end
end Go.Proofs.Ytkhoelmbcmkhjaa
