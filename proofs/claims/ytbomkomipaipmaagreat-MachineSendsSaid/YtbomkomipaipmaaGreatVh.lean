/- Abstract Go: a region that draws its order, in which variables are made at any time ahead of their use. ref15: Step, plain; Sound. ref15: Step. How long a step's lists are. Layer 16 (machine): what it calls, with lists that are only read. Layer 16 (machine): lists, cloned. Layer 16 (machine): a module, copied. Layer 16 (machine): how a machine stands in memory. Layer 16 (machine): the map of those that live. Layer 16 (machine): a process ends. Layer 16 (machine): a process falls, and who falls with it. Layer 16 (machine): a machine that is not there; what is quickly told. Layer 16 (machine): Live. Layer 16 (machine): the machine goes on: what changes, what stays. Layer 16 (machine): what holds of every machine, in plain words; ending keeps it. Layer 16 (machine): falling, spawning, linking, in plain words: what holds stays so. -/
import Derived.Test.YtbomkomipaipmaaGreatVg
namespace Go.Proofs.YtbomkomipaipmaaGreat

/-- a variable that is made without asking for anything -/
def fltO (o : Oper) : Option (TypeId × Nat) :=
  match o.op, o.dst, o.guard with
  | .alloc t, some d, none => if (o.after.toList.all fun e => !Region.binds .any e) = true then some (t, d) else none
  | _, _, _ => none
theorem fltO_spec {o : Oper} {t : TypeId} {d : Nat} (h : fltO o = some (t, d)) : o.op = .alloc t ∧ o.dst = some d ∧ o.guard = none ∧ ∀ e ∈ o.after, Region.binds .any e = false := by
  unfold fltO at h
  split at h
  · rename_i t' d' h1 h2 h3
    split at h
    · rename_i h4
      simp only [Option.some.injEq, Prod.mk.injEq] at h
      obtain ⟨rfl, rfl⟩ := h
      exact ⟨h1, h2, h3, fun e he => by simpa using List.all_eq_true.1 h4 e (by simpa using he)⟩
    · cases h
  · cases h
/-- k may stand ahead of i -/
def okF (ops : Array Oper) (T : Array (List Nat)) (F : List Nat) (k i : Nat) : Bool :=
  k != i && (match ops[k]?, ops[i]? with
    | some ok, some oi => (ok.after.toList.all fun e => !Region.binds .any e || e.on != i) &&
        (if F.contains i then F.contains k || (isChg ok.op || ok.apart ops oi) else (T.getD i []).contains k || (!F.contains k && (ok.apart ops oi && !isChg ok.op)))
    | _, _ => false)
def oneF (ops : Array Oper) (F : List Nat) (i : Nat) : Bool := match ops[i]? with
  | some o => (o.after.toList.all fun e => !Region.binds .any e || (decide (e.on < ops.size) && e.on != i)) && ((!F.contains i || (fltO o).isSome) &&
      F.all fun p => p == i || (match ops[p]? with
        | some op => !(op.dst == o.dst)
        | none => false))
  | none => false
def pwB (p : Nat → Nat → Bool) : List Nat → Bool
  | [] => true
  | i :: l => l.all (p i) && pwB p l
theorem pwB_spec {p : Nat → Nat → Bool} : ∀ {l : List Nat}, pwB p l = true → l.Pairwise fun k i => p k i = true
  | [], _ => List.Pairwise.nil
  | i :: l, h => by
    simp only [pwB, Bool.and_eq_true] at h
    exact List.Pairwise.cons (fun j hj => List.all_eq_true.1 h.1 j hj) (pwB_spec h.2)
def canonOKF (ops : Array Oper) (F l : List Nat) : Bool := closedT ops (preT ops) && (l.length == ops.size && (l.all (oneF ops F) && pwB (okF ops (preT ops) F) l))

section
variable {P : Program} {ops : Array Oper} {T : Array (List Nat)} {K : AState → Prop} {F : List Nat}

theorem okF_spec {k i : Nat} (h : okF ops T F k i = true) : k ≠ i ∧ ∃ ok oi, ops[k]? = some ok ∧ ops[i]? = some oi ∧ (∀ e ∈ ok.after, Region.binds .any e = true → e.on ≠ i) ∧
    (i ∈ F → k ∈ F ∨ isChg ok.op = true ∨ ok.apart ops oi = true) ∧ (i ∉ F → (T.getD i []).contains k = true ∨ (k ∉ F ∧ ok.apart ops oi = true ∧ isChg ok.op = false)) := by
  unfold okF at h
  rw [Bool.and_eq_true, bne_iff_ne] at h
  obtain ⟨h0, h⟩ := h
  split at h
  · rename_i ok oi h1 h2
    rw [Bool.and_eq_true] at h
    obtain ⟨h3, h4⟩ := h
    refine ⟨h0, ok, oi, h1, h2, fun e he hb => ?_, fun hi => ?_, fun hi => ?_⟩
    · have := List.all_eq_true.1 h3 e (by simpa using he)
      simpa [hb] using this
    · rw [if_pos (by simpa using hi)] at h4
      simpa using h4
    · rw [if_neg (by simpa using hi)] at h4
      simpa using h4
  · cases h
theorem oneF_spec {i : Nat} (h : oneF ops F i = true) : ∃ o, ops[i]? = some o ∧ (∀ e ∈ o.after, Region.binds .any e = true → e.on < ops.size ∧ e.on ≠ i) ∧ (i ∈ F → ∃ t d, fltO o = some (t, d)) ∧
    ∀ p ∈ F, p ≠ i → ∃ op, ops[p]? = some op ∧ op.dst ≠ o.dst := by
  unfold oneF at h
  split at h
  · rename_i o ho
    simp only [Bool.and_eq_true] at h
    obtain ⟨h1, h2, h3⟩ := h
    refine ⟨o, ho, fun e he hb => ?_, fun hi => ?_, fun p hp hne => ?_⟩
    · have := List.all_eq_true.1 h1 e (by simpa using he)
      simpa [hb] using this
    · have : (fltO o).isSome = true := by simpa [hi] using h2
      obtain ⟨⟨t, d⟩, e⟩ := Option.isSome_iff_exists.1 this
      exact ⟨t, d, e⟩
    · have := List.all_eq_true.1 h3 p hp
      simp only [Bool.or_eq_true, beq_iff_eq, hne, false_or] at this
      split at this
      · rename_i op hop
        exact ⟨op, hop, by simpa using this⟩
      · cases this
  · cases h

/-- variables that were made, and that nobody knows yet -/
structure Res (P : Program) (κ : Kap) (ops : Array Oper) (s : AState) (a : Act) (w : World) (own : Own) (M : Mem) (R : List Nat) (β : Nat → Nat) : Prop where
  at' : ∀ p ∈ R, ∃ o t d z w0, ops[p]? = some o ∧ fltO o = some (t, d) ∧ (zeroValue t).run P w0 = .ok z w0 ∧ (d < a.tmps.size → a.tmps.getD d undef = .pointer (some ⟨β p, 0, none⟩)) ∧
    w.heap[β p]? = some (.cells z.cells t (0, 0)) ∧ ¬ OB own s.η (β p) ∧ M (β p) = none ∧ κ.w.heap.size ≤ β p
  inj : ∀ p ∈ R, ∀ q ∈ R, β p = β q → p = q
def Und (ops : Array Oper) (F l : List Nat) (s : AState) : Prop := ∀ p ∈ l, p ∈ F → ∀ o t d, ops[p]? = some o → fltO o = some (t, d) → s.fr d = .undef

theorem Res.reg {κ : Kap} {s : AState} {a : Act} {w : World} {own : Own} {M : Mem} {R : List Nat} {β : Nat → Nat} (hr : Rel κ s a w own M) (hs : Res P κ ops s a w own M R β) {p : Nat} (hp : p ∈ R) {o : Oper} {t : TypeId} {d : Nat} (ho : ops[p]? = some o) (hf : fltO o = some (t, d))
    {cs : List AVal} (hz : tzero P t = some cs) (hcs : cs ≠ []) : ∃ own', Rel κ (({ s with η := upd s.η s.n (some (.cells cs.length [cs])), n := s.n + 1 } : AState).put (some d) (.ptr s.n 0 0)) a w own' M ∧
      Res P κ ops (({ s with η := upd s.η s.n (some (.cells cs.length [cs])), n := s.n + 1 } : AState).put (some d) (.ptr s.n 0 0)) a w own' M (R.filter (· != p)) β := by
  obtain ⟨o', t', d', z, w0, g1, g2, g3, g4, g5, g6, g7, g8⟩ := hs.at' p hp
  rw [ho] at g1; cases g1
  rw [hf] at g2; cases g2
  obtain ⟨z', z1, z2, z3, z4, z5⟩ := zero_run (own := own) (M := M) hz w0
  rw [g3] at z1; cases z1
  have hfn := hr.st.fresh s.n (Nat.le_refl _)
  have hle := Own.le_put hfn ⟨β p, 0, z.cells.size, cs.length⟩
  have hlen : 0 < cs.length := List.length_pos_iff.2 hcs
  have hst : St (own.put s.n ⟨β p, 0, z.cells.size, cs.length⟩) M (upd s.η s.n (some (.cells cs.length [cs]))) (s.n + 1) w := by
    refine hr.st.add (p := ⟨β p, 0, z.cells.size, cs.length⟩) ⟨rfl, hlen, by simp, by simp; omega, fun _ => ⟨g7, z.cells, t, g5, Nat.le_refl _⟩, fun i j row c hi hj => ?_⟩ (fun hlt r q o hr' hq hs' e => g6 ⟨r, q, o, hr', hq, hs', e⟩) (fun _ _ => rfl) (fun _ _ _ => rfl)
    cases i with
    | succ i => simp at hi
    | zero =>
      simp at hi; subst hi
      have hjl := (List.getElem?_eq_some_iff.1 hj).1
      refine ⟨z.cells.getD j undef, ?_, (z4 j c hj).mono hle (Mem.le_refl _)⟩
      have : j < z.cells.size := by omega
      simp [World.cell?, g5, this, Array.getD_eq_getD_getElem?]
  have pη := AState.put_η (s := ({ s with η := upd s.η s.n (some (.cells cs.length [cs])), n := s.n + 1 } : AState)) (d := some d) (v := .ptr s.n 0 0)
  refine ⟨own.put s.n ⟨β p, 0, z.cells.size, cs.length⟩, ⟨by rw [pη.1, pη.2]; exact hst, fun x => ?_, ?_, hr.df, Own.le_trans hr.le hle, hr.mle, hr.frm, ⟨fun b hb => ?_, hr.ob.2⟩, by rw [pη.2]; exact Nat.le_succ_of_le hr.n⟩, fun q hq => ?_, fun q1 h1 q2 h2 => hs.inj q1 (List.mem_filter.1 h1).1 q2 (List.mem_filter.1 h2).1⟩
  · by_cases hx : x = d ∧ d < s.nt
    · obtain ⟨rfl, hd⟩ := hx
      have e1 : (({ s with η := upd s.η s.n (some (.cells cs.length [cs])), n := s.n + 1 } : AState).put (some x) (.ptr s.n 0 0)).fr x = .ptr s.n 0 0 := by
        unfold AState.put; simp only [hd, if_true, setf_eq]
      rw [e1, g4 (by rw [hr.nt]; exact hd)]
      have := VR.ptr (own := own.put s.n ⟨β p, 0, z.cells.size, cs.length⟩) (M := M) s.n 0 0 ⟨β p, 0, z.cells.size, cs.length⟩ (by simp [Own.put])
      simpa using this
    · have e1 : (({ s with η := upd s.η s.n (some (.cells cs.length [cs])), n := s.n + 1 } : AState).put (some d) (.ptr s.n 0 0)).fr x = s.fr x := by
        unfold AState.put
        simp only
        split
        · rename_i hd; simp only; rw [setf_ne fun e => hx ⟨e, hd⟩]
        · rfl
      rw [e1]
      exact (hr.fr x).mono hle (Mem.le_refl _)
  · rw [hr.nt]; unfold AState.put; simp only; split <;> rfl
  · rw [pη.1] at hb
    rcases OB.add hfn hb with h | h
    · exact hr.ob.1 b h
    · exact Or.inr (by rw [h]; exact g8)
  · obtain ⟨q1, q2⟩ := List.mem_filter.1 hq
    obtain ⟨o1, t1, d1, y, y0, k1, k2, k3, k4, k5, k6, k7, k8⟩ := hs.at' q q1
    refine ⟨o1, t1, d1, y, y0, k1, k2, k3, k4, k5, fun hb => ?_, k7, k8⟩
    rw [pη.1] at hb
    rcases OB.add hfn hb with h | h
    · exact k6 h
    · have := hs.inj q q1 p hp h
      simp [this] at q2

/-- what was made is named, where it stands ahead -/
theorem flush {κ : Kap} {a : Act} {w : World} {M : Mem} {β : Nat → Nat} (hcl : closedT ops T = true) {l2 : List Nat} : ∀ (l1 pre R : List Nat) (lds : List (Nat × (AHeap → Prop))) (s : AState) (own : Own), Rel κ s a w own M → Res P κ ops s a w own M R β → Und ops F (pre ++ (l1 ++ l2)) s →
    (∀ x ∈ l1, x ∈ F → x ∈ R) → (∀ k ∈ pre, k ∉ F ∧ ∃ ok, ops[k]? = some ok ∧ isChg ok.op = false) → (∀ k ∈ l1, k ∉ F → ∃ ok, ops[k]? = some ok ∧ isChg ok.op = false) → (∀ i ∈ pre ++ (l1 ++ l2), oneF ops F i = true) → ((pre ++ (l1 ++ l2)).Pairwise fun k i => okF ops T F k i = true) → adr P ops T (pre ++ (l1 ++ l2)) lds K s →
    ∃ lds' s' own', Rel κ s' a w own' M ∧ Res P κ ops s' a w own' M (R.filter fun q => !l1.contains q) β ∧ Und ops F (pre ++ (l1.filter (fun x => !F.contains x) ++ l2)) s' ∧ adr P ops T (pre ++ (l1.filter (fun x => !F.contains x) ++ l2)) lds' K s'
  | [], pre, R, lds, s, own, hr, hs, hu, _, _, _, _, _, ha => by
    refine ⟨lds, s, own, hr, ?_, by simpa using hu, by simpa using ha⟩
    have : (R.filter fun q => !([] : List Nat).contains q) = R := List.filter_eq_self.2 fun x _ => by simp
    rw [this]; exact hs
  | x :: l1, pre, R, lds, s, own, hr, hs, hu, hR, hpre, hl1, h1, hpw, ha => by
    by_cases hx : x ∈ F
    · obtain ⟨o, ho, e1, e2, e3⟩ := oneF_spec (h1 x (by simp))
      obtain ⟨t, d, hf⟩ := e2 hx
      obtain ⟨f1, f2, f3, f4⟩ := fltO_spec hf
      have hTx : ∀ k, (T.getD x []).contains k = false := fun k => by
        cases hc : (T.getD x []).contains k with
        | false => rfl
        | true =>
          have hcl' := List.all_eq_true.1 hcl x (List.mem_range.2 (Array.getElem?_eq_some_iff.1 ho).1)
          simp only [ho] at hcl'
          have hc' := List.all_eq_true.1 hcl' k (by simpa using hc)
          obtain ⟨ed, hed, hb⟩ := List.any_eq_true.1 hc'
          rw [f4 ed (by simpa using hed)] at hb
          simp at hb
      have hfr : adr P ops T (x :: (pre ++ (l1 ++ l2))) lds K s := by
        refine adr_front ho pre lds s (fun k hk => ⟨hTx k, ?_⟩) ha
        obtain ⟨k1, ok, k2, k3⟩ := hpre k hk
        have hkx := (List.pairwise_append.1 hpw).2.2 k hk x (by simp)
        obtain ⟨_, ok', oi, m1, m2, _, m3, _⟩ := okF_spec hkx
        rw [k2] at m1; cases m1
        rw [ho] at m2; cases m2
        refine ⟨ok, k2, ?_, k3⟩
        rcases m3 hx with g | g | g
        · exact absurd g k1
        · rw [k3] at g; cases g
        · exact g
      rw [adr] at hfr
      simp only [ho] at hfr
      rw [aguard_iff] at hfr
      have hw : wantd ops o s = some true := by unfold wantd; rw [f3]
      rcases hfr with ⟨_, hfr⟩ | ⟨hw', _⟩
      · rw [if_pos (by rw [f1]; rfl)] at hfr
        unfold achg at hfr
        rw [f1] at hfr
        simp only at hfr
        split at hfr
        · rename_i cs hz
          obtain ⟨hcs, _, hfr⟩ := hfr
          rw [f2] at hfr
          obtain ⟨own', hr', hs'⟩ := hs.reg hr (hR x (by simp) hx) ho hf hz hcs
          have hne : ∀ p ∈ pre ++ (l1 ++ l2), p ≠ x := fun p hp e => by
            subst e
            rw [List.pairwise_append] at hpw
            obtain ⟨w1, w2, w3⟩ := hpw
            rcases List.mem_append.1 hp with hp | hp
            · exact (okF_spec (w3 p hp p (by simp))).1 rfl
            · exact (okF_spec ((List.pairwise_cons.1 w2).1 p hp)).1 rfl
          have hsubl : (pre ++ (l1 ++ l2)).Sublist (pre ++ (x :: l1 ++ l2)) := List.Sublist.append (List.Sublist.refl _) (by simp)
          have hu' : Und ops F (pre ++ (l1 ++ l2)) (({ s with η := upd s.η s.n (some (.cells cs.length [cs])), n := s.n + 1 } : AState).put (some d) (.ptr s.n 0 0)) := fun p hp hpF o1 t1 d1 ho1 hf1 => by
            rw [AState.fr_put]
            · exact hu p (hsubl.mem hp) hpF o1 t1 d1 ho1 hf1
            · intro y hy e
              obtain ⟨op, k1, k2⟩ := e3 p hpF (hne p hp)
              rw [ho1] at k1; cases k1
              rw [(fltO_spec hf1).2.1, f2] at k2
              simp only [Option.some.injEq] at hy
              exact k2 (by rw [← e, ← hy])
          obtain ⟨lds', s', own'', r1, r2, r3, r4⟩ := flush hcl (l2 := l2) l1 pre _ _ _ own' hr' hs' hu' (fun y hy hyF => List.mem_filter.2 ⟨hR y (by simp [hy]) hyF, by simpa using hne y (by simp [hy])⟩) hpre (fun k hk => hl1 k (by simp [hk])) (fun i hi => h1 i (hsubl.mem hi)) (hpw.sublist hsubl) hfr
          refine ⟨lds', s', own'', r1, ?_, ?_, ?_⟩
          · have : (R.filter fun q => !(x :: l1).contains q) = (R.filter (· != x)).filter fun q => !l1.contains q := by
              rw [List.filter_filter]
              congr 1
              funext q
              simp only [List.contains_cons, Bool.not_or, bne]
              rw [Bool.and_comm]
            rw [this]; exact r2
          · simpa [hx] using r3
          · simpa [hx] using r4
        · exact hfr.elim
      · rw [hw] at hw'; cases hw'
    · have e0 : pre ++ (x :: l1 ++ l2) = (pre ++ [x]) ++ (l1 ++ l2) := by simp
      rw [e0] at hu h1 hpw ha
      obtain ⟨lds', s', own', r1, r2, r3, r4⟩ := flush hcl (l2 := l2) l1 (pre ++ [x]) R lds s own hr hs hu (fun y hy => hR y (by simp [hy])) (fun k hk => by
        rcases List.mem_append.1 hk with hk | hk
        · exact hpre k hk
        · simp only [List.mem_singleton] at hk
          subst hk
          exact ⟨hx, hl1 k (by simp) hx⟩) (fun k hk => hl1 k (by simp [hk])) h1 hpw ha
      have e1 : (x :: l1).filter (fun x => !F.contains x) = x :: l1.filter (fun x => !F.contains x) := by simp [hx]
      refine ⟨lds', s', own', r1, ⟨fun p hp => ?_, fun p hp q hq => ?_⟩, by rw [e1]; simpa using r3, by rw [e1]; simpa using r4⟩
      · exact r2.at' p (by
          obtain ⟨h1, h2⟩ := List.mem_filter.1 hp
          simp only [List.contains_cons, Bool.not_or, Bool.and_eq_true] at h2
          exact List.mem_filter.2 ⟨h1, h2.2⟩)
      · have key : ∀ p, p ∈ (R.filter fun q => !(x :: l1).contains q) → p ∈ R.filter fun q => !l1.contains q := fun p hp => by
          obtain ⟨h1, h2⟩ := List.mem_filter.1 hp
          simp only [List.contains_cons, Bool.not_or, Bool.and_eq_true] at h2
          exact List.mem_filter.2 ⟨h1, h2.2⟩
        exact r2.inj p (key p hp) q (key q hq)

/-- what is left of an order: R: what was made already, and stands there still -/
structure LeftF (ops : Array Oper) (T : Array (List Nat)) (F : List Nat) (listed : Array Bool) (l R : List Nat) : Prop where
  mem : ∀ i, i < ops.size → (listed.getD i true = false ↔ i ∈ l ∧ i ∉ R)
  one : ∀ i ∈ l, oneF ops F i = true
  sz : listed.size = ops.size
  dn : ∀ j, j < ops.size → listed.getD j true = true → ∀ k, (T.getD j []).contains k = true → listed.getD k true = true
  pw : l.Pairwise fun k i => okF ops T F k i = true
  sub : ∀ p ∈ R, p ∈ l ∧ p ∈ F

theorem LeftF.lt {listed : Array Bool} {l R : List Nat} (h : LeftF ops T F listed l R) {i : Nat} (hi : i ∈ l) : i < ops.size := by
  obtain ⟨o, ho, _⟩ := oneF_spec (h.one i hi)
  exact (Array.getElem?_eq_some_iff.1 ho).1
theorem getD_ft {listed : Array Bool} {j : Nat} (h : listed.getD j false = true) : listed.getD j true = true := by
  rw [Array.getD_eq_getD_getElem?] at h ⊢
  cases hx : listed[j]? with
  | none => rfl
  | some x => rw [hx] at h; exact h
theorem getD_tf {listed : Array Bool} {j : Nat} (hj : j < listed.size) (h : listed.getD j true = true) : listed.getD j false = true := by
  rw [Array.getD_eq_getD_getElem?] at h ⊢
  rw [Array.getElem?_eq_getElem hj] at h ⊢
  exact h
theorem LeftF.ready {listed : Array Bool} {l R : List Nat} (h : LeftF ops T F listed l R) {i : Nat} (hi : i ∈ Region.ready .any ops listed) : i ∈ l ∧ i ∉ R ∧ ∃ o, ops[i]? = some o ∧ ∀ e ∈ o.after, Region.binds .any e = true → listed.getD e.on true = true ∧ e.on < ops.size := by
  obtain ⟨h1, o, ho, h2⟩ := mem_ready.1 hi
  obtain ⟨k1, k2⟩ := (h.mem i (Array.getElem?_eq_some_iff.1 ho).1).1 h1
  obtain ⟨o', ho', h3, _⟩ := oneF_spec (h.one i k1)
  rw [ho] at ho'; cases ho'
  exact ⟨k1, k2, o, ho, fun e he hb => ⟨getD_ft (h2 e he hb), (h3 e he hb).1⟩⟩
theorem LeftF.preT {listed : Array Bool} {l R : List Nat} (h : LeftF ops T F listed l R) (hcl : closedT ops T = true) {i : Nat} (hi : i ∈ Region.ready .any ops listed) : ∀ k, (T.getD i []).contains k = true → listed.getD k true = true := fun k hk => by
  obtain ⟨hil, _, o, ho, hpre⟩ := h.ready hi
  have hcl' := List.all_eq_true.1 hcl i (List.mem_range.2 (h.lt hil))
  simp only [ho] at hcl'
  have hc := List.all_eq_true.1 hcl' k (by simpa using hk)
  obtain ⟨ed, hed, hb⟩ := List.any_eq_true.1 hc
  simp only [Bool.and_eq_true, Bool.or_eq_true, beq_iff_eq] at hb
  obtain ⟨hb1, hb2⟩ := hb
  obtain ⟨k1, k2⟩ := hpre ed (by simpa using hed) hb1
  rcases hb2 with rfl | hb2
  · exact k1
  · exact h.dn ed.on k2 k1 k hb2
theorem LeftF.set {listed : Array Bool} {l R : List Nat} (h : LeftF ops T F listed l R) {i j : Nat} (hi : i < ops.size) : (listed.setIfInBounds i true).getD j true = true ↔ listed.getD j true = true ∨ j = i := by
  by_cases e : i = j
  · subst e
    simp only [or_true, iff_true]
    rw [Array.getD_eq_getD_getElem?, Array.getElem?_setIfInBounds]
    simp [h.sz, hi]
  · rw [getD_set_ne true e]
    exact ⟨Or.inl, fun g => g.elim id fun g => absurd g.symm e⟩
/-- with one more done, and what was named struck -/
theorem LeftF.next {listed : Array Bool} {l R l' R' : List Nat} (h : LeftF ops T F listed l R) (hcl : closedT ops T = true) {i : Nat} (hi : i ∈ Region.ready .any ops listed) (hs : l'.Sublist l) (hm : ∀ j, j < ops.size → ((j ∈ l' ∧ j ∉ R') ↔ ((j ∈ l ∧ j ∉ R) ∧ j ≠ i))) (hR : ∀ p ∈ R', p ∈ l' ∧ p ∈ F) :
    LeftF ops T F (listed.setIfInBounds i true) l' R' := by
  have hio := h.lt (h.ready hi).1
  refine ⟨fun j hj => ?_, fun j hj => h.one j (hs.mem hj), by simpa using h.sz, fun j hj hl k hk => ?_, h.pw.sublist hs, hR⟩
  · rw [hm j hj, ← h.mem j hj, ← Bool.not_eq_true, h.set hio, not_or, Bool.not_eq_true]
  · rw [h.set hio] at hl ⊢
    rcases hl with hl | rfl
    · exact Or.inl (h.dn j hj hl k hk)
    · exact Or.inl (h.preT hcl hi k hk)

/-- how many are still to come -/
def toCome (ops : Array Oper) (listed : Array Bool) : Nat := ((List.range ops.size).filter fun j => !listed.getD j true).length
theorem toCome_set {listed : Array Bool} {i : Nat} (hi : i < ops.size) (hsz : listed.size = ops.size) (hl : listed.getD i true = false) : toCome ops (listed.setIfInBounds i true) < toCome ops listed := by
  unfold toCome
  have e : ((List.range ops.size).filter fun j => !(listed.setIfInBounds i true).getD j true) = ((List.range ops.size).filter fun j => !listed.getD j true).filter fun j => j != i := by
    rw [List.filter_filter]
    refine List.filter_congr fun j _ => ?_
    by_cases hji : j = i
    · subst hji
      rw [Array.getD_eq_getD_getElem?, Array.getElem?_setIfInBounds]
      simp [hsz, hi]
    · rw [getD_set_ne true (Ne.symm hji)]
      simp [hji]
  rw [e]
  have hm : i ∈ (List.range ops.size).filter fun j => !listed.getD j true := List.mem_filter.2 ⟨List.mem_range.2 hi, by simp [hl]⟩
  exact List.length_filter_lt_length_iff_exists.2 ⟨i, hm, by simp⟩

theorem LeftF.done {listed : Array Bool} {l R : List Nat} (h : LeftF ops T F listed l R) (h0 : Region.ready .any ops listed = []) : ∀ x ∈ l, x ∈ R := by
  have key : ∀ (l1 l2 : List Nat), l = l1 ++ l2 → (∀ x ∈ l1, x ∈ R) → ∀ x ∈ l2, x ∈ R := fun l1 l2 => by
    induction l2 generalizing l1 with
    | nil => intro _ _ x hx; simp at hx
    | cons y l2 ih =>
      intro e h1
      have hy : y ∈ R := by
        by_cases hy : y ∈ R
        · exact hy
        · have hyl : y ∈ l := by rw [e]; simp
          obtain ⟨o, ho, h3, _⟩ := oneF_spec (h.one y hyl)
          have : y ∈ Region.ready .any ops listed := by
            refine mem_ready.2 ⟨(h.mem y (h.lt hyl)).2 ⟨hyl, hy⟩, o, ho, fun ed hed hb => ?_⟩
            obtain ⟨k1, k2⟩ := h3 ed hed hb
            refine getD_tf (by rw [h.sz]; exact k1) ?_
            cases hx : listed.getD ed.on true with
            | true => rfl
            | false =>
              obtain ⟨q1, q2⟩ := (h.mem ed.on k1).1 hx
              exfalso
              rw [e] at q1
              rcases List.mem_append.1 q1 with q1 | q1
              · exact q2 (h1 _ q1)
              · rcases List.mem_cons.1 q1 with q1 | q1
                · exact k2 q1
                · have hpw := h.pw
                  rw [e] at hpw
                  have := (List.pairwise_cons.1 (List.pairwise_append.1 hpw).2.1).1 _ q1
                  obtain ⟨_, oy, _, m1, _, m2, _⟩ := okF_spec this
                  rw [ho] at m1; cases m1
                  exact m2 ed hed hb rfl
          rw [h0] at this; simp at this
      intro x hx
      rcases List.mem_cons.1 hx with rfl | hx
      · exact hy
      · refine ih (l1 ++ [y]) (by rw [e]; simp) (fun z hz => ?_) x hx
        rcases List.mem_append.1 hz with hz | hz
        · exact h1 z hz
        · simp at hz; rw [hz]; exact hy
  exact key [] l rfl (by simp)

/-- what was made stays, whatever is done next -/
theorem Res.out {κ : Kap} {s : AState} {a : Act} {w : World} {own : Own} {M : Mem} {R : List Nat} {β : Nat → Nat} (hr : Rel κ s a w own M) (hs : Res P κ ops s a w own M R β) {K' : AVal → AHeap → Nat → Prop} {u : Value} {w' : World} (ho : Out own M s.η s.n w K' u w') {dst : Option Tmp}
    (hd : ∀ p ∈ R, ∀ o t d, ops[p]? = some o → fltO o = some (t, d) → dst ≠ some d) : ∃ v η' n' own' M', K' v η' n' ∧ Rel κ (({ s with η := η', n := n' } : AState).put dst v) (a.put dst u) w' own' M' ∧ Res P κ ops (({ s with η := η', n := n' } : AState).put dst v) (a.put dst u) w' own' M' R β := by
  obtain ⟨v, η', n', own', M', h1, h2, h3, h4, h5, h6, h7, h8⟩ := ho
  refine ⟨v, η', n', own', M', h1, Rel.put (s := { s with η := η', n := n' }) ⟨h3, fun t => (hr.fr t).mono h5 h6, hr.nt, hr.df.frame hr.st h7, Own.le_trans hr.le h5, Mem.le_trans hr.mle h6, hr.frm.trans h7 fun x hx hb => ?_, ⟨fun b hb => ?_, fun b hb => ?_⟩, Nat.le_trans hr.n h2⟩ dst h4, fun p hp => ?_, hs.inj⟩
  · rcases hr.ob.1 x hb with g | g
    · exact g
    · omega
  · rcases h8.1 b hb with g | g
    · exact hr.ob.1 b g
    · exact Or.inr (Nat.le_trans hr.frm.size g)
  · rcases h8.2 b hb with g | g | g
    · exact hr.ob.2 b g
    · exact Or.inr (hr.ob.1 b g)
    · exact Or.inr (Or.inr (Nat.le_trans hr.frm.size g))
  · obtain ⟨o, t, d, z, w0, g1, g2, g3, g4, g5, g6, g7, g8⟩ := hs.at' p hp
    have hlt := blk_lt' g5
    have hdd := hd p hp o t d g1 g2
    refine ⟨o, t, d, z, w0, g1, g2, g3, fun hsz => ?_, by rw [h7.block _ hlt g6]; exact g5, fun hb => ?_, ?_, g8⟩
    · cases dst with
      | none => exact g4 hsz
      | some x =>
        have hxd : x ≠ d := fun e => hdd (by rw [e])
        have e1 : (a.put (some x) u).tmps = a.tmps.setIfInBounds x u := rfl
        rw [e1] at hsz ⊢
        rw [Array.getD_eq_getD_getElem?, Array.getElem?_setIfInBounds, if_neg hxd, ← Array.getD_eq_getD_getElem?]
        exact g4 (by simpa using hsz)
    · rw [AState.put_η.1] at hb
      rcases h8.1 _ hb with g | g
      · exact g6 g
      · omega
    · cases hM : M' (β p) with
      | none => rfl
      | some x =>
        rcases h8.2 (β p) (by rw [hM]; simp) with g | g | g
        · exact absurd g7 g
        · exact absurd g g6
        · omega

theorem Und.put {l : List Nat} {s : AState} (hu : Und ops F l s) {dst : Option Tmp} {v : AVal} {η : AHeap} {n : Nat} (hd : ∀ p ∈ l, p ∈ F → ∀ o t d, ops[p]? = some o → fltO o = some (t, d) → dst ≠ some d) : Und ops F l (({ s with η := η, n := n } : AState).put dst v) := fun p hp hpF o t d ho hf => by
  rw [AState.fr_put fun x hx e => hd p hp hpF o t d ho hf (by rw [hx, e])]
  exact hu p hp hpF o t d ho hf

theorem adr_flt {κ : Kap} {Q : Exit → Act → World → Prop} (hQ : ∀ s a w, K s → RelE κ s a w → Q .normal a w) (hcl : closedT ops T = true) (hz : ∀ p ∈ F, ∀ o t d, ops[p]? = some o → fltO o = some (t, d) → ∃ cs, tzero P t = some cs) :
    ∀ (m : Nat) (l R : List Nat) (β : Nat → Nat) (listed : Array Bool) (lds : List (Nat × (AHeap → Prop))) (s : AState) (a : Act) (w : World) (own : Own) (M : Mem), toCome ops listed ≤ m → LeftF ops T F listed l R → Rel κ s a w own M → Res P κ ops s a w own M R β → Und ops F l s →
      adr P ops T l lds K s → wpAny P .any ops Q m listed a w
  | m, l, R, β, listed, lds, s, a, w, own, M, hm, hL, hr, hs, hu, ha => by
    have hend : Region.ready .any ops listed = [] → Q .normal a w := fun h0 => by
      have hlR := hL.done h0
      obtain ⟨lds', s', own', r1, _, _, r4⟩ := flush hcl (l2 := []) l [] R lds s own hr hs (by simpa using hu) (fun x hx _ => hlR x hx) (by simp) (fun k hk hkF => absurd (hL.sub k (hlR k hk)).2 hkF) (by simpa using hL.one) (by simpa using hL.pw) (by simpa using ha)
      have e : l.filter (fun x => !F.contains x) = [] := List.filter_eq_nil_iff.2 fun x hx => by simpa using (hL.sub x (hlR x hx)).2
      rw [e] at r4
      exact hQ s' a w (by simpa [adr] using r4) ⟨own', M, r1⟩
    cases m with
    | zero =>
      have h0 : Region.ready .any ops listed = [] := by
        cases hrd : Region.ready .any ops listed with
        | nil => rfl
        | cons i r =>
          have hi : i ∈ Region.ready .any ops listed := by rw [hrd]; simp
          obtain ⟨k1, k2, _⟩ := hL.ready hi
          have := toCome_set (hL.lt k1) hL.sz ((hL.mem i (hL.lt k1)).2 ⟨k1, k2⟩)
          omega
      exact ⟨h0, hend h0⟩
    | succ m =>
      refine ⟨hend, fun i hi => ?_⟩
      obtain ⟨hil, hiR, o, ho, _⟩ := hL.ready hi
      obtain ⟨o', ho', e1, e2, e3⟩ := oneF_spec (hL.one i hil)
      rw [ho] at ho'; cases ho'
      have hio := hL.lt hil
      have hm' : toCome ops (listed.setIfInBounds i true) ≤ m := by
        have := toCome_set hio hL.sz ((hL.mem i hio).2 ⟨hil, hiR⟩)
        omega
      have hdst : ∀ p ∈ l, p ∈ F → p ≠ i → ∀ op t d, ops[p]? = some op → fltO op = some (t, d) → o.dst ≠ some d := fun p _ hpF hne op t d hop hf e => by
        obtain ⟨op', k1, k2⟩ := e3 p hpF hne
        rw [hop] at k1; cases k1
        exact k2 (by rw [(fltO_spec hf).2.1, e])
      by_cases hiF : i ∈ F
      · -- made, and not yet named
        obtain ⟨t, d, hf⟩ := e2 hiF
        obtain ⟨f1, f2, f3, f4⟩ := fltO_spec hf
        obtain ⟨cs, hcs⟩ := hz i hiF o t d ho hf
        obtain ⟨z, z1, _⟩ := zero_run (own := own) (M := M) hcs w
        have hund : s.fr d = .undef := hu i hil hiF o t d ho hf
        unfold wpOp
        rw [ho]
        simp only
        rw [if_pos (by unfold Region.wanted; rw [f3])]
        refine Or.inl ?_
        have hrun : (execOp a.eval o).run P w = .ok (.value (.pointer (some ⟨w.heap.size, 0, none⟩))) (w.alloc (.cells z.cells t)) := by
          unfold execOp
          rw [f1]
          unfold Instr.alloc newVar newRow
          simp only [Sem.run_bind, z1, Result.andThen_ok, Sem.run_pure, run_newObj]
          rfl
        unfold Oper.wp
        rw [hrun]
        show wpAny P .any ops Q m (listed.setIfInBounds i true) (a.put o.dst (.pointer (some ⟨w.heap.size, 0, none⟩))) (w.alloc (.cells z.cells t))
        have hold : ∀ b, b < w.heap.size → (w.alloc (.cells z.cells t)).heap[b]? = w.heap[b]? := fun b hb => Go.RowKit.Below.heap_alloc _ _ _ hb
        have hnew : (w.alloc (.cells z.cells t)).heap[w.heap.size]? = some (.cells z.cells t (0, 0)) := by
          show (w.heap.push _)[w.heap.size]? = _
          simp
        have eput : (a.put o.dst (.pointer (some ⟨w.heap.size, 0, none⟩))).tmps = a.tmps.setIfInBounds d (.pointer (some ⟨w.heap.size, 0, none⟩)) := by rw [f2]; rfl
        have hob : ¬ OB own s.η w.heap.size := fun h => by have := OB.lt hr.st h; omega
        refine adr_flt hQ hcl hz m l (i :: R) (fun p => if p = i then w.heap.size else β p) _ lds s _ _ own M hm' ?_ ?_ ?_ hu ha
        · refine hL.next hcl hi (List.Sublist.refl _) (fun j _ => ?_) fun p hp => ?_
          · simp only [List.mem_cons, not_or]
            exact ⟨fun h => ⟨⟨h.1, h.2.2⟩, h.2.1⟩, fun h => ⟨h.1.1, h.2, h.1.2⟩⟩
          · rcases List.mem_cons.1 hp with rfl | hp
            · exact ⟨hil, hiF⟩
            · exact hL.sub p hp
        · refine ⟨hr.st.world (fun b hb => hold b (OB.lt hr.st hb)) (fun b arr hb => hold b (hr.st.mem_lt hb)), fun x => ?_, ?_, ?_, hr.le, hr.mle, hr.frm.trans (Fr.alloc κ.D w _) fun _ _ h => h, hr.ob, hr.n⟩
          · rw [eput]
            by_cases hx : d = x
            · subst hx; rw [hund]; exact .undef _
            · rw [Array.getD_eq_getD_getElem?, Array.getElem?_setIfInBounds, if_neg hx, ← Array.getD_eq_getD_getElem?]
              exact hr.fr x
          · rw [eput]; simpa using hr.nt
          · rw [f2]; exact DF.keep (w := w) (fun D hD => (hold D (blk_lt' hD)).trans hD) hr.df
        · refine ⟨fun p hp => ?_, fun p hp q hq hpq => ?_⟩
          · by_cases hpi : p = i
            · subst hpi
              refine ⟨o, t, d, z, w, ho, hf, z1, fun hsz => ?_, by simpa using hnew, by simpa using hob, ?_, ?_⟩
              · rw [eput] at hsz ⊢
                rw [Array.getD_eq_getD_getElem?, Array.getElem?_setIfInBounds]
                simp at hsz
                simp [hsz]
              · simp only [if_true]
                cases hM : M w.heap.size with
                | none => rfl
                | some x => have := hr.st.mem_lt hM; omega
              · simpa using hr.frm.size
            · have hpR : p ∈ R := by
                rcases List.mem_cons.1 hp with h | h
                · exact absurd h hpi
                · exact h
              obtain ⟨op, t', d', y, y0, g1, g2, g3, g4, g5, g6, g7, g8⟩ := hs.at' p hpR
              simp only [if_neg hpi]
              refine ⟨op, t', d', y, y0, g1, g2, g3, fun hsz => ?_, by rw [hold _ (blk_lt' g5)]; exact g5, g6, g7, g8⟩
              have hdd := hdst p (hL.sub p hpR).1 (hL.sub p hpR).2 hpi op t' d' g1 g2
              rw [eput] at hsz ⊢
              rw [Array.getD_eq_getD_getElem?, Array.getElem?_setIfInBounds, if_neg (fun e => hdd (by rw [f2, e])), ← Array.getD_eq_getD_getElem?]
              exact g4 (by simpa using hsz)
          · have hR' : ∀ p, p ∈ i :: R → p ≠ i → p ∈ R ∧ β p < w.heap.size := fun p hp hne => by
              have hpR : p ∈ R := by
                rcases List.mem_cons.1 hp with h | h
                · exact absurd h hne
                · exact h
              obtain ⟨_, _, _, _, _, _, _, _, _, g5, _⟩ := hs.at' p hpR
              exact ⟨hpR, blk_lt' g5⟩
            by_cases hpi : p = i
            · by_cases hqi : q = i
              · rw [hpi, hqi]
              · have := (hR' q hq hqi).2
                simp only [if_pos hpi, if_neg hqi] at hpq
                omega
            · by_cases hqi : q = i
              · have := (hR' p hp hpi).2
                simp only [if_pos hqi, if_neg hpi] at hpq
                omega
              · simp only [if_neg hqi, if_neg hpi] at hpq
                exact hs.inj p (hR' p hp hpi).1 q (hR' q hq hqi).1 hpq
      · -- done, behind the names of all that was made ahead of it
        obtain ⟨l1, l2, e⟩ := List.append_of_mem hil
        have hpT := hL.preT hcl hi
        have hpw := hL.pw
        rw [e] at hpw
        have hki : ∀ k ∈ l1, okF ops T F k i = true := fun k hk => (List.pairwise_append.1 hpw).2.2 k hk i (by simp)
        have hkl : ∀ k ∈ l1, (T.getD i []).contains k = true → k ∈ R := fun k hk hT => by
          have h1 := hpT k hT
          have hkl : k ∈ l := by rw [e]; simp [hk]
          by_cases hkR : k ∈ R
          · exact hkR
          · have := (hL.mem k (hL.lt hkl)).2 ⟨hkl, hkR⟩
            rw [h1] at this; cases this
        have hl1F : ∀ x ∈ l1, x ∈ F → x ∈ R := fun x hx hxF => by
          obtain ⟨_, _, _, _, _, _, _, g⟩ := okF_spec (hki x hx)
          rcases g hiF with g | g
          · exact hkl x hx g
          · exact absurd hxF g.1
        have hl1N : ∀ k ∈ l1, k ∉ F → (T.getD i []).contains k = false ∧ ∃ ok, ops[k]? = some ok ∧ ok.apart ops o = true ∧ isChg ok.op = false := fun k hk hkF => by
          obtain ⟨_, ok, oi, m1, m2, _, _, g⟩ := okF_spec (hki k hk)
          rw [ho] at m2; cases m2
          have hT : (T.getD i []).contains k = false := by
            cases hc : (T.getD i []).contains k with
            | false => rfl
            | true => exact absurd (hL.sub k (hkl k hk hc)).2 hkF
          refine ⟨hT, ok, m1, ?_⟩
          rcases g hiF with g | g
          · rw [hT] at g; cases g
          · exact g.2
        obtain ⟨lds', s', own', r1, r2, r3, r4⟩ := flush hcl (l2 := i :: l2) l1 [] R lds s own hr hs (by simpa [e] using hu) hl1F (by simp) (fun k hk hkF => by
          obtain ⟨_, ok, m1, _, m3⟩ := hl1N k hk hkF
          exact ⟨ok, m1, m3⟩) (by simpa [e] using hL.one) (by simpa using hpw) (by simpa [e] using ha)
        simp only [List.nil_append] at r3 r4
        have hf := adr_front ho (l1.filter fun x => !F.contains x) lds' s' (fun k hk => by
          obtain ⟨k1, k2⟩ := List.mem_filter.1 hk
          exact hl1N k k1 (by simpa using k2)) r4
        -- what is behind it
        have hsub : (l1.filter (fun x => !F.contains x) ++ l2).Sublist l := by
          rw [e]
          exact List.Sublist.append List.filter_sublist (by simp)
        have hni : i ∉ l1 ∧ i ∉ l2 := by
          obtain ⟨w1, w2, w3⟩ := List.pairwise_append.1 hpw
          exact ⟨fun h => (okF_spec (w3 i h i (by simp))).1 rfl, fun h => (okF_spec ((List.pairwise_cons.1 w2).1 i h)).1 rfl⟩
        have hl12 : ∀ x ∈ l1, x ∉ l2 := fun x h1 h2 => (okF_spec ((List.pairwise_append.1 hpw).2.2 x h1 x (by simp [h2]))).1 rfl
        have hL' : LeftF ops T F (listed.setIfInBounds i true) (l1.filter (fun x => !F.contains x) ++ l2) (R.filter fun q => !l1.contains q) := by
          refine hL.next hcl hi hsub (fun j _ => ?_) fun p hp => ?_
          · rw [e]
            simp only [List.mem_append, List.mem_cons, List.mem_filter, Bool.not_eq_true', List.contains_eq_mem, decide_eq_false_iff_not]
            constructor
            · rintro ⟨h1 | h1, h2⟩
              · have hjR : j ∉ R := fun hjR => h1.2 (hL.sub j hjR).2
                exact ⟨⟨Or.inl h1.1, hjR⟩, fun ej => hni.1 (ej ▸ h1.1)⟩
              · have hjl1 : j ∉ l1 := fun h => hl12 j h h1
                exact ⟨⟨Or.inr (Or.inr h1), fun hjR => h2 ⟨hjR, hjl1⟩⟩, fun ej => hni.2 (ej ▸ h1)⟩
            · rintro ⟨⟨h1 | h1 | h1, h2⟩, h3⟩
              · refine ⟨Or.inl ⟨h1, fun hjF => h2 (hl1F j h1 hjF)⟩, fun h => h2 h.1⟩
              · exact absurd h1 h3
              · exact ⟨Or.inr h1, fun h => h2 h.1⟩
          · obtain ⟨p1, p2⟩ := List.mem_filter.1 hp
            obtain ⟨k1, k2⟩ := hL.sub p p1
            refine ⟨?_, k2⟩
            rw [e] at k1
            rcases List.mem_append.1 k1 with h | h
            · simp [h] at p2
            · rcases List.mem_cons.1 h with h | h
              · exact absurd (h ▸ k2) hiF
              · exact List.mem_append_right _ h
        have hdR : ∀ p ∈ R.filter (fun q => !l1.contains q), ∀ op t d, ops[p]? = some op → fltO op = some (t, d) → o.dst ≠ some d := fun p hp => by
          obtain ⟨k1, k2⟩ := hL.sub p (List.mem_filter.1 hp).1
          exact hdst p k1 k2 fun ep => hiF (ep ▸ k2)
        have hdl : ∀ p ∈ l1.filter (fun x => !F.contains x) ++ l2, p ∈ F → ∀ op t d, ops[p]? = some op → fltO op = some (t, d) → o.dst ≠ some d := fun p hp hpF => hdst p (hsub.mem hp) hpF fun ep => hiF (ep ▸ hpF)
        have hu' : Und ops F (l1.filter (fun x => !F.contains x) ++ l2) s' := fun p hp => r3 p (by
          rcases List.mem_append.1 hp with h | h
          · exact List.mem_append_left _ h
          · exact List.mem_append_right _ (List.mem_cons_of_mem _ h))
        have go : ∀ (lds2 : List (Nat × (AHeap → Prop))) (s2 : AState) (a2 : Act) (w2 : World) (own2 : Own) (M2 : Mem), Rel κ s2 a2 w2 own2 M2 → Res P κ ops s2 a2 w2 own2 M2 (R.filter fun q => !l1.contains q) β → Und ops F (l1.filter (fun x => !F.contains x) ++ l2) s2 →
            adr P ops T (l1.filter (fun x => !F.contains x) ++ l2) lds2 K s2 → wpAny P .any ops Q m (listed.setIfInBounds i true) a2 w2 := fun lds2 s2 a2 w2 own2 M2 q1 q2 q3 q4 =>
          adr_flt hQ hcl hz m _ _ β _ lds2 s2 a2 w2 own2 M2 hm' hL' q1 q2 q3 q4
        rw [adr] at hf
        simp only [ho] at hf
        unfold wpOp
        rw [ho]
        simp only
        have pure' : ∀ (v : AVal) (u : Value), VR own' M v u → Rel κ (s'.put o.dst v) (a.put o.dst u) w own' M ∧ Res P κ ops (s'.put o.dst v) (a.put o.dst u) w own' M (R.filter fun q => !l1.contains q) β ∧ Und ops F (l1.filter (fun x => !F.contains x) ++ l2) (s'.put o.dst v) := fun v u hv => by
          obtain ⟨v2, η2, n2, own2, M2, t1, t2, t3⟩ := r2.out r1 (K' := fun v2 η2 n2 => v2 = v ∧ η2 = s'.η ∧ n2 = s'.n) (u := u) (w' := w) ⟨v, s'.η, s'.n, own', M, ⟨rfl, rfl, rfl⟩, Nat.le_refl _, r1.st, hv, Own.le_refl _, Mem.le_refl _, Fr.refl _ _, fun b hb => Or.inl hb, fun b hb => Or.inl hb⟩ hdR
          refine ⟨r1.put o.dst hv, ⟨fun p hp => ?_, r2.inj⟩, ?_⟩
          · obtain ⟨op, t, d, z, w0, g1, g2, g3, g4, g5, g6, g7, g8⟩ := r2.at' p hp
            refine ⟨op, t, d, z, w0, g1, g2, g3, fun hsz => ?_, g5, by rw [AState.put_η.1]; exact g6, g7, g8⟩
            have hdd := hdR p hp op t d g1 g2
            cases hdst' : o.dst with
            | none => rw [hdst'] at hsz; exact g4 hsz
            | some x =>
              rw [hdst'] at hsz hdd
              have hxd : x ≠ d := fun e => hdd (by rw [e])
              have e1 : (a.put (some x) u).tmps = a.tmps.setIfInBounds x u := rfl
              rw [e1] at hsz ⊢
              rw [Array.getD_eq_getD_getElem?, Array.getElem?_setIfInBounds, if_neg hxd, ← Array.getD_eq_getD_getElem?]
              exact g4 (by simpa using hsz)
          · exact Und.put (η := s'.η) (n := s'.n) hu' hdl
        rcases aguard_sound ⟨own', M, r1⟩ hf with ⟨g1, g2⟩ | ⟨g1, g2⟩
        · rw [if_pos g1]
          refine Or.inl ?_
          split at g2
          · refine achg_sound r1.st (aev_sound r1.fr) g2 fun u w' ho' => ?_
            obtain ⟨v, η', n', own2, M2, t1, t2, t3⟩ := r2.out r1 ho' hdR
            exact go _ _ _ w' own2 M2 t2 t3 (Und.put hu' hdl) t1.2
          · split at g2
            · rename_i v hv
              obtain ⟨u, k1, k2⟩ := aval_sound r1.st (aev_sound r1.fr) hv
              unfold Oper.wp
              rw [k1]
              obtain ⟨t1, t2, t3⟩ := pure' v u k2
              exact go _ _ _ w own' M t1 t2 t3 g2
            · exact g2.elim
        · rw [if_neg (by rw [g1]; simp)]
          obtain ⟨t1, t2, t3⟩ := pure' _ _ vr_skip
          exact go _ _ _ w own' M t1 t2 t3 g2

/-- the slots of variables that may be made early are not known yet -/
def fltK (P : Program) (ops : Array Oper) (F : List Nat) (s : AState) : Prop := ∀ p ∈ F, ∀ o t d, ops[p]? = some o → fltO o = some (t, d) → (∃ cs, tzero P t = some cs) ∧ s.fr d = .undef
theorem DrawP.introF {id : Nat} {Q : Exit → AState → Prop} {s : AState} (hm : P.follows .mixedOrders = true) (F l : List Nat) (hl : canonOKF ops F l = true) (hF : fltK P ops F s) (h : adr P ops (preT ops) l [] (Q .normal) s) : DrawP P id ops Q s := by
  intro κ a w hr
  unfold canonOKF at hl
  simp only [Bool.and_eq_true, beq_iff_eq] at hl
  obtain ⟨hcl, hlen, hone, hpw⟩ := hl
  have hpw := pwB_spec hpw
  have hnd : l.Nodup := hpw.imp fun h => (okF_spec h).1
  have hone' : ∀ i ∈ l, oneF ops F i = true := fun i hi => List.all_eq_true.1 hone i hi
  have hlt : ∀ i ∈ l, i < ops.size := fun i hi => by
    obtain ⟨o, ho, _⟩ := oneF_spec (hone' i hi)
    exact (Array.getElem?_eq_some_iff.1 ho).1
  have hall : ∀ i, i < ops.size → i ∈ l := fun i hi => nodup_all ops.size l hnd hlt hlen i hi
  have hrep : ∀ i, i < ops.size → (Array.replicate ops.size false).getD i true = false := fun i hi => by simp [Array.getD_eq_getD_getElem?, hi]
  refine wp_region_any hm ?_
  obtain ⟨own, M, hR⟩ := hr
  have hr' : Rel κ s a { w with drawn := w.drawn + 1 } own M := ⟨hR.st.drawn _, hR.fr, hR.nt, DF.keep (w := w) (w' := { w with drawn := w.drawn + 1 }) (fun _ h => h) hR.df, hR.le, hR.mle, hR.frm.trans (Fr.drewN κ.D w _) fun _ _ h => h, hR.ob, hR.n⟩
  refine adr_flt (K := Q .normal) (Q := Lift κ Q) (fun s a w hK hR => ⟨s, hK, hR⟩) hcl (fun p hp o t d ho hf => (hF p hp o t d ho hf).1) ops.size l [] (fun _ => 0) (Array.replicate ops.size false) [] s a _ own M ?_ ?_ hr' ⟨by simp, by simp⟩ (fun p _ hpF o t d ho hf => (hF p hpF o t d ho hf).2) h
  · unfold toCome
    exact Nat.le_trans (List.length_filter_le _ _) (by simp)
  · refine ⟨fun i hi => ⟨fun _ => ⟨hall i hi, by simp⟩, fun _ => hrep i hi⟩, hone', by simp, fun j hj hl => ?_, hpw, by simp⟩
    rw [hrep j hj] at hl; cases hl
def fltD (P : Program) (o : Oper) (s : AState) (_ : Tag o) : Prop := match o.op, o.dst with
  | .alloc t, some d => (∃ cs, tzero P t = some cs) ∧ s.fr d = .undef
  | _, _ => True
@[simp] theorem fltD_alloc (s : AState) (d : Tmp) (t ty : TypeId) (ps : String) (af : Array Edge) (gd : Option (Nat × Bool)) (g : Tag (⟨some d, .alloc t, ty, ps, af, gd⟩ : Oper)) : fltD P ⟨some d, .alloc t, ty, ps, af, gd⟩ s g = ((∃ cs, tzero P t = some cs) ∧ s.fr d = .undef) := _root_.id rfl
def fltC (P : Program) (ops : Array Oper) (s : AState) : List Nat → Prop
  | [] => True
  | p :: F => atK ops p (fun o => fltD P o s .mk) .mk .mk ∧ fltC P ops s F
theorem fltC_K {s : AState} : ∀ {F : List Nat}, fltC P ops s F → fltK P ops F s
  | [], _ => fun p hp => by simp at hp
  | q :: F, h => fun p hp o t d ho hf => by
    rcases List.mem_cons.1 hp with rfl | hp
    · have h := h.1
      obtain ⟨f1, f2, _⟩ := fltO_spec hf
      unfold atK at h
      rw [ho] at h
      simp only [fltD, f1, f2] at h
      exact h
    · exact fltC_K h.2 p hp o t d ho hf
def canonAF (ops : Array Oper) (F : List Nat) (l : List (Nat × List Nat)) : Bool := canonOKF ops F (l.map (·.1)) && canonU ops (preT ops) [] l
/-- the rule: F: the variables that may be made early -/
theorem drawK.introF {id : Nat} {s : AState} {Q : Exit → AState → Prop} {g : Tag ops} {g' : Tag Q} (hm : P.follows .mixedOrders = true) (F : List Nat) (l : List (Nat × List Nat)) (hl : canonAF ops F l = true) (hF : fltC P ops s F) (h : drK P ops l [] s (Q .normal) .mk .mk .mk) : drawK P id ops s Q g g' := by
  unfold canonAF at hl
  simp only [Bool.and_eq_true] at hl
  exact DrawP.introF hm F (l.map (·.1)) hl.1 (fltC_K hF) (adr_of_U l [] [] s hl.2 (by simp) h)
end
end Go.Proofs.YtbomkomipaipmaaGreat
namespace Go.Proofs.YtbomkomipaipmaaGreat
set_option maxRecDepth 100000

/-- a step's answer, all lists read only -/
def stepV (r : Sta × Eff × Int) : AVal := .tup [.agg (stC r.1 (.rs 1 (ints r.1.stack)) (.rs 1 (ints r.1.regs))), .agg (effC r.2.1 (.rs 1 (ints r.2.1.args))), .int .i64 r.2.2]
theorem stepV_nq (r : Sta × Eff × Int) (η : AHeap) : NQ η (stepV r) := by
  refine .tup _ ?_
  intro c hc
  simp at hc
  rcases hc with rfl | rfl | rfl
  · refine .agg _ ?_
    intro c hc
    simp [stC] at hc
    rcases hc with rfl | rfl | rfl | rfl | rfl | rfl
    · exact .int _ _
    · exact .int _ _
    · exact ints_nq _ _
    · exact ints_nq _ _
    · exact .bool _
    · exact .int _ _
  · refine .agg _ ?_
    intro c hc
    simp [effC] at hc
    rcases hc with rfl | rfl | rfl | rfl | rfl | rfl | rfl | rfl | rfl | rfl
    all_goals first | exact ints_nq _ _ | exact .int _ _
  · exact .int _ _
theorem fin15 {n n' : Nat} {η η' : AHeap} {s : Sta} {e : Eff} {err : Int} {sv rv av : AVal} (h1 : FL n η' sv s.stack) (h2 : FL n η' rv s.regs) (h3 : FL n η' av e.args) (l1 : s.stack.length ≤ lenMax) (l2 : s.regs.length ≤ lenMax) (l3 : e.args.length ≤ lenMax) (hk : ∀ r, r < n → η' r = η r) :
    (fun v η' (_ : Nat) => (∀ r, r < n → η' r = η r) ∧ Ent (gnd n η' 3 v) (stepV (s, e, err))) (.tup [.agg (stC s sv rv), .agg (effC e av), .int .i64 err]) η' n' := by
  refine ⟨hk, ?_⟩
  rw [gnd_tup]
  refine Ent.tup ⟨?_, ?_, ?_, trivial⟩
  · rw [gnd_agg]
    refine Ent.agg ⟨?_, ?_, h1.gnd l1 0, h2.gnd l2 0, ?_, ?_, trivial⟩ rfl
    all_goals (first | rw [gnd_int]; exact Ent.refl _ | rw [gnd_bool]; exact Ent.refl _)
  · rw [gnd_agg]
    refine Ent.agg ⟨?_, ?_, ?_, ?_, ?_, h3.gnd l3 0, ?_, ?_, ?_, ?_, trivial⟩ rfl
    all_goals (rw [gnd_int]; exact Ent.refl _)
  · rw [gnd_int]; exact Ent.refl _
end Go.Proofs.YtbomkomipaipmaaGreat
namespace Go.Proofs.YtbomkomipaipmaaGreat
set_option maxRecDepth 100000

theorem FL.mono {n : Nat} {η η' : AHeap} {v : AVal} {l : List Int} (h : FL n η v l) (hk : ∀ r rows, η r = some (.cells 1 rows) → η' r = some (.cells 1 rows)) : FL n η' v l := by
  rcases h with h | h | ⟨r, o, I, J, h0, h1, h2, h3⟩
  · exact Or.inl h
  · exact Or.inr (Or.inl h)
  · exact Or.inr (Or.inr ⟨r, o, I, J, h0, h1, h2, hk _ _ h3⟩)
end Go.Proofs.YtbomkomipaipmaaGreat
namespace Go.Proofs.YtbomkomipaipmaaGreat

def Lens (x : Wx) : Prop := x.s.stack.length ≤ 17592186044416 ∧ x.s.regs.length ≤ 17592186044416 ∧ x.eff.args.length ≤ 17592186044416
theorem Lens.fail {x : Wx} (h : Lens x) (e : Int) : Lens (x.fail e) := by unfold Wx.fail; split <;> exact h
theorem Lens.pop {x : Wx} (h : Lens x) : Lens x.pop := by
  unfold Wx.pop; split
  · exact h.fail _
  · exact ⟨by simp; have := h.1; omega, h.2⟩
theorem Lens.push {x : Wx} (h : Lens x) (n : Int) : Lens (x.push n) := by
  unfold Wx.push; split
  · exact h.fail _
  · exact ⟨by simp; omega, h.2⟩
theorem Lens.stays {x : Wx} (h : Lens x) : Lens x.stays := h
theorem Lens.goes {x : Wx} (h : Lens x) (q : Int) : Lens (x.goes q) := h
theorem Lens.setpc {x : Wx} (h : Lens x) (q : Int) : Lens (x.setpc q) := h
theorem Lens.till {x : Wx} (h : Lens x) (q : Int) : Lens (x.till q) := h
theorem Lens.exits {x : Wx} (h : Lens x) (k n : Int) : Lens (x.exits k n) := ⟨h.1, h.2.1, by simp [Wx.exits]⟩
theorem Lens.unl {x : Wx} (h : Lens x) (a m : Int) : Lens (x.unl a m) := by unfold Wx.unl; split <;> exact h
theorem Lens.link {x : Wx} (h : Lens x) (m : Int) : Lens (x.link m) := h
theorem Lens.out {x : Wx} (h : Lens x) (m : Int) : Lens (x.out m) := h
theorem Lens.load {x : Wx} (h : Lens x) (a : Int) : Lens (x.load a) := by
  unfold Wx.load; split
  · exact h.push _
  · exact h.fail _
theorem Lens.stow {x : Wx} (h : Lens x) (a : Int) : Lens (x.stow a) := by
  unfold Wx.stow; split
  · exact ⟨h.pop.1, by simpa using h.2.1, h.pop.2.2⟩
  · exact h.fail _
theorem Lens.send {x : Wx} (h : Lens x) (a m : Int) : Lens (x.send a m) := ⟨h.pop.1, h.pop.2.1, h.pop.2.2⟩
theorem Lens.two {x : Wx} (h : Lens x) (op : Int) : Lens (x.two op) := by
  unfold Wx.two; split
  · unfold Wx.div0
    refine Lens.exits (Lens.stays ?_) _ _
    exact ⟨h.1, h.2.1, h.pop.pop.2.2⟩
  · exact h.pop.pop.push _
theorem Lens.spawn {x : Wx} (h : Lens x) (l : List Actr) (a : Int) : Lens (x.spawn l a) := by
  unfold Wx.spawn; split
  · split
    · have := h.1
      exact ⟨by simp [Wx.spawned]; omega, h.2.1, by simp [Wx.spawned]; omega⟩
    · exact h.fail _
  · exact h.fail _
theorem Lens.clock {x : Wx} (h : Lens x) (t n : Int) : Lens (x.clock t n) := by
  unfold Wx.clock; split
  · exact h
  · split
    · exact ((h.till _).pop).till _
    · exact h.till _
theorem Lens.gets {x : Wx} (h : Lens x) (t : Tbl) (n : Int) (box : List (Int × Int)) : Lens (x.gets t n box) := by
  unfold Wx.gets; split
  · exact (h.push _).goes _
  · split
    · exact h.goes _
    · exact h
theorem Lens.recv {x : Wx} (h : Lens x) (l : List Tbl) (a n : Int) (box : List (Int × Int)) : Lens (x.recv l a n box) := by
  unfold Wx.recv; split
  · exact (h.stays.clock _ _).gets _ _ _
  · exact h.fail _
theorem Lens.ite {p : Prop} [Decidable p] {x y : Wx} (h : Lens x) (k : Lens y) : Lens (if p then x else y) := by split <;> assumption
theorem Lens.workF {x : Wx} (h : Lens x) (c : Wc) : Lens (workF c x) := by
  unfold Go.Proofs.YtbomkomipaipmaaGreat.workF
  exact (h.exits _ _).stays.ite <| (h.push _).ite <| (h.push _).ite <| (h.push _).ite <| (h.push _).ite <| (h.load _).ite <| (h.stow _).ite <| (h.pop.push _).ite <| (h.setpc _).ite <| (h.pop.unl _ _).ite <| (h.spawn _ _).ite <| (h.pop.send _ _).ite <| (h.recv _ _ _ _).ite <|
    (h.pop.link _).ite <| (h.pop.exits _ _).stays.ite <| (h.pop.out _).ite <| h.pop.ite ((h.pop.push _).push _)
theorem stepF_lens (m : List Actr) (self : Int) (s : Sta) (now : Int) (box : List (Int × Int)) (h1 : s.stack.length ≤ 17592186044416) (h2 : s.regs.length ≤ 17592186044416) :
    (stepF m self s now box).1.stack.length ≤ 17592186044416 ∧ (stepF m self s now box).1.regs.length ≤ 17592186044416 ∧ (stepF m self s now box).2.1.args.length ≤ 17592186044416 := by
  have he : ∀ x : Wx, Lens x → (stepEnd x).1.stack.length ≤ 17592186044416 ∧ (stepEnd x).1.regs.length ≤ 17592186044416 ∧ (stepEnd x).2.1.args.length ≤ 17592186044416 := fun x hx => by
    unfold stepEnd; split
    · exact hx
    · simp [sta0, eff0]
  have h0 : Lens ((wx0 s).setpc (IntKind.i64.wrap (s.pc + 1))) := ⟨h1, h2, by simp [Wx.setpc, wx0, eff0]⟩
  unfold stepF; split
  · unfold stepG; split
    · exact he _ (h0.two _)
    · split
      · simp [sta0, eff0]
      · exact he _ (h0.workF _)
  · simp [sta0, eff0]
end Go.Proofs.YtbomkomipaipmaaGreat
namespace Go.Proofs.YtbomkomipaipmaaGreat
set_option maxRecDepth 100000

def nilH : AHeap := fun _ => none
/-- a call that needs nothing of the heap -/
theorem AC.rtNil {P : Program} {f : FuncId} {args : List AVal} {v : AVal} {n : Nat} (h : AC P f args nilH n (Rt v nilH n)) (η : AHeap) : AC P f args η n (Rt v η n) := by
  refine (h.frame (fun r o hr => by cases hr)).mono ?_
  rintro v' η'' n' ⟨η', ⟨rfl, rfl, rfl⟩, rfl, _, _, _⟩
  refine ⟨rfl, ?_, rfl⟩
  funext q
  rfl
theorem IsL.fl0 {n : Nat} {η : AHeap} {u : AVal} {l : List Int} (h : IsL η u l) (h0 : ∀ r, r < n → η r = none) : FL n η u l := by
  rcases h with h | h | ⟨r, o, I, J, h1, h2, h3⟩
  · exact Or.inl h
  · exact Or.inr (Or.inl h)
  · refine Or.inr (Or.inr ⟨r, o, I, J, ?_, h1, h2, h3⟩)
    rcases Nat.lt_or_ge r n with k | k
    · rw [h0 r k] at h3; cases h3
    · exact k
/-- a state whose lists are only read -/
def stV (s : Sta) : AVal := .agg (stC s (.rs 1 (ints s.stack)) (.rs 1 (ints s.regs)))
theorem stV_nq (s : Sta) (η : AHeap) : NQ η (stV s) := by
  refine .agg _ ?_
  intro c hc
  simp [stC] at hc
  rcases hc with rfl | rfl | rfl | rfl | rfl | rfl
  · exact .int _ _
  · exact .int _ _
  · exact ints_nq _ _
  · exact ints_nq _ _
  · exact .bool _
  · exact .int _ _
def newV (r : Sta × Int) : AVal := .tup [stV r.1, .int .i64 r.2]
theorem newV_nq (r : Sta × Int) (η : AHeap) : NQ η (newV r) := by
  refine .tup _ ?_
  intro c hc
  simp at hc
  rcases hc with rfl | rfl
  · exact stV_nq _ _
  · exact .int _ _
theorem fin16 {n n' : Nat} {η η' : AHeap} {s : Sta} {err : Int} {sv rv : AVal} (h1 : FL n η' sv s.stack) (h2 : FL n η' rv s.regs) (l1 : s.stack.length ≤ lenMax) (l2 : s.regs.length ≤ lenMax) (hk : ∀ r, r < n → η' r = η r) :
    (fun v η' (_ : Nat) => (∀ r, r < n → η' r = η r) ∧ Ent (gnd n η' 3 v) (newV (s, err))) (.tup [.agg (stC s sv rv), .int .i64 err]) η' n' := by
  refine ⟨hk, ?_⟩
  rw [gnd_tup]
  refine Ent.tup ⟨?_, ?_, trivial⟩
  · rw [gnd_agg]
    refine Ent.agg ⟨?_, ?_, h1.gnd l1 0, h2.gnd l2 0, ?_, ?_, trivial⟩ rfl
    all_goals (first | rw [gnd_int]; exact Ent.refl _ | rw [gnd_bool]; exact Ent.refl _)
  · rw [gnd_int]; exact Ent.refl _
theorem NewR.rt {f : FuncId} {args : List AVal} {n : Nat} {r : Sta × Int} (h : AC Tryz.prog f args nilH n (NewR nilH n r.1 r.2)) (l1 : r.1.stack.length ≤ lenMax) (l2 : r.1.regs.length ≤ lenMax) (η : AHeap) : AC Tryz.prog f args η n (Rt (newV r) η n) := by
  refine AC.rtNil (AC.gnd1 (newV_nq r _) 3 (h.mono ?_)) η
  rintro v η' n' ⟨sv, rv, rfl, k1, k2, k3, k4⟩
  exact fin16 (n' := n') (k1.fl0 k3) (k2.fl0 k3) l1 l2 k3
theorem StepR.rt {f : FuncId} {args : List AVal} {n : Nat} {r : Sta × Eff × Int} (h : AC Tryz.prog f args nilH n (StepR nilH n r.1 r.2.1 r.2.2)) (l1 : r.1.stack.length ≤ lenMax) (l2 : r.1.regs.length ≤ lenMax) (l3 : r.2.1.args.length ≤ lenMax) (η : AHeap) : AC Tryz.prog f args η n (Rt (stepV r) η n) := by
  refine AC.rtNil (AC.gnd1 (stepV_nq r _) 3 (h.mono ?_)) η
  rintro v η' n' ⟨sv, rv, av, rfl, k1, k2, k5, k3, k4⟩
  exact fin15 (n' := n') (k1.fl0 k3) (k2.fl0 k3) (k5.fl0 k3) l1 l2 l3 k3
theorem pnewR_ac (m : List Actr) (k : Int) (args : List Int) (η : AHeap) (n : Nat) {v : AVal} (hv : v = .rs 1 (ints args) ∨ v = .nils ∧ args = []) (hl : args.length ≤ lenMax) (hr : ∀ a ∈ m, a.regs.length ≤ lenMax) :
    AC Tryz.prog 91 [modV m, .int .i64 k, v] η n (Rt (newV (newF m k args)) η n) := by
  refine NewR.rt (new_ac m k args nilH n (hv.elim Or.inl fun h => Or.inr (Or.inl h)) hr) ?_ ?_ η
  · unfold newF; split
    · simp [sta0]
    · split <;> simp [sta0]
  · unfold newF; split
    · simp [sta0]
    · rename_i h1
      split
      · simp [sta0]
      · have h2 : (actr m k).regs.length ≤ lenMax := by
          have h3 : k.toNat < m.length := by omega
          have : actr m k = m[k.toNat] := by simp [actr, h3]
          rw [this]; exact hr _ (List.getElem_mem h3)
        simp; omega
theorem gotR_ac (s : Sta) (pid : Int) (η : AHeap) (n : Nat) (h1 : s.stack.length ≤ lenMax) (h2 : s.regs.length ≤ lenMax) :
    AC Tryz.prog 161 [stV s, .int .i64 pid] η n (Rt (newV (gotF s pid)) η n) := by
  refine NewR.rt (got_ac s pid nilH n (Or.inl rfl) (Or.inl rfl) h1 h2) ?_ ?_ η
  · unfold gotF; split
    · simp [sta0]
    · simp; unfold lenMax; omega
  · unfold gotF; split
    · simp [sta0]
    · exact h2
theorem stepR_ac (m : List Actr) (self : Int) (s : Sta) (now : Int) (box : List (Int × Int)) (η : AHeap) (n : Nat) (hm : ModOK m) (hb : box.length ≤ 17592186044416) (h1 : s.stack.length ≤ lenMax) (h2 : s.regs.length ≤ lenMax) :
    AC Tryz.prog 49 [modV m, .int .i64 self, stV s, .int .i64 now, .rs 2 (pairs box)] η n (Rt (stepV (stepF m self s now box)) η n) := by
  have hl := stepF_lens m self s now box h1 h2
  exact StepR.rt (step_ac m self s now box nilH n hm hb h2 (Or.inl rfl) (Or.inl rfl)) hl.1 hl.2.1 hl.2.2 η
end Go.Proofs.YtbomkomipaipmaaGreat
namespace Go.Proofs.YtbomkomipaipmaaGreat
set_option maxRecDepth 100000

def NewRow (k : Nat) (rows : List (List AVal)) (η : AHeap) (n : Nat) : AVal → AHeap → Nat → Prop := fun u η' n' => ∃ q, u = .sl q 0 rows.length ∧ η' q = some (.cells k rows) ∧ n ≤ q ∧ q < n' ∧ ∀ r, r < n → η' r = η r
theorem cloneA_ac {η : AHeap} {n : Nat} {rows : List (List AVal)} (hl : rows.length ≤ 1000000) (hw : ∀ r ∈ rows, r.length = 5) (hs : ∀ r ∈ rows, ∀ c ∈ r, c.sc = true) : AC Tryz.prog 85 [.rs 5 rows] η n (NewRow 5 rows η n) := by
  refine AC.nilOwn 5 (by decide) ?_
  have fin : rows = [] → NewRow 5 rows η n (.sl n 0 0) (upd η n (some (.cells 5 []))) (n + 1) := fun h3 => by
    subst h3
    exact ⟨n, rfl, by rw [upd_eq], Nat.le_refl _, by omega, fun r hr => by rw [upd_ne (by omega)]⟩
  have fin2 : ∀ o1 o2, NewRow 5 rows η n (.sl (n + 1) 0 rows.length) (upd (upd (upd η n o1) n o2) (n + 1) (some (.cells 5 rows))) (n + 1 + 1) := fun _ _ => ⟨n + 1, rfl, upd_eq .., by omega, by omega, fun r hr => by rw [upd_ne (by omega), upd_ne (by omega), upd_ne (by omega)]⟩
  have b1 : rows.length * 120 ≤ 140737488355328 := by omega
  have b2 : rows.length ≤ 17592186044416 := by omega
  refine AC.enter Tryz.func85 rfl Tryz.ntmps85 (by simp) ?_
  simp [nilcmp, anil, abuildS, afillP, chunk, appK, aappend, arows, tek, upd_eq, lenMax, b1, b2]
  exact ⟨⟨hs, resK.rt (Or.inl (fin2 _ _))⟩, fun e => resK.rt (Or.inr ⟨rfl, fin e⟩)⟩
theorem cloneTy_ac {η : AHeap} {n : Nat} {rows : List (List AVal)} (hl : rows.length ≤ 1000000) (hw : ∀ r ∈ rows, r.length = 1) (hs : ∀ r ∈ rows, ∀ c ∈ r, c.sc = true) : AC Tryz.prog 86 [.rs 1 rows] η n (NewRow 1 rows η n) := by
  refine AC.nilOwn 1 (by decide) ?_
  have fin : rows = [] → NewRow 1 rows η n (.sl n 0 0) (upd η n (some (.cells 1 []))) (n + 1) := fun h3 => by
    subst h3
    exact ⟨n, rfl, by rw [upd_eq], Nat.le_refl _, by omega, fun r hr => by rw [upd_ne (by omega)]⟩
  have fin2 : ∀ o1 o2, NewRow 1 rows η n (.sl (n + 1) 0 rows.length) (upd (upd (upd η n o1) n o2) (n + 1) (some (.cells 1 rows))) (n + 1 + 1) := fun _ _ => ⟨n + 1, rfl, upd_eq .., by omega, by omega, fun r hr => by rw [upd_ne (by omega), upd_ne (by omega), upd_ne (by omega)]⟩
  have b1 : rows.length * 8 ≤ 140737488355328 := by omega
  have b2 : rows.length ≤ 17592186044416 := by omega
  refine AC.enter Tryz.func86 rfl Tryz.ntmps86 (by simp) ?_
  simp [nilcmp, anil, abuildS, afillP, chunk, appK, aappend, arows, tek, upd_eq, lenMax, b1, b2]
  exact ⟨⟨hs, resK.rt (Or.inl (fin2 _ _))⟩, fun e => resK.rt (Or.inr ⟨rfl, fin e⟩)⟩
theorem cloneI_ac {η : AHeap} {n : Nat} {rows : List (List AVal)} (hl : rows.length ≤ 1000000) (hw : ∀ r ∈ rows, r.length = 2) (hs : ∀ r ∈ rows, ∀ c ∈ r, c.sc = true) : AC Tryz.prog 87 [.rs 2 rows] η n (NewRow 2 rows η n) := by
  refine AC.nilOwn 2 (by decide) ?_
  have fin : rows = [] → NewRow 2 rows η n (.sl n 0 0) (upd η n (some (.cells 2 []))) (n + 1) := fun h3 => by
    subst h3
    exact ⟨n, rfl, by rw [upd_eq], Nat.le_refl _, by omega, fun r hr => by rw [upd_ne (by omega)]⟩
  have fin2 : ∀ o1 o2, NewRow 2 rows η n (.sl (n + 1) 0 rows.length) (upd (upd (upd η n o1) n o2) (n + 1) (some (.cells 2 rows))) (n + 1 + 1) := fun _ _ => ⟨n + 1, rfl, upd_eq .., by omega, by omega, fun r hr => by rw [upd_ne (by omega), upd_ne (by omega), upd_ne (by omega)]⟩
  have b1 : rows.length * 16 ≤ 140737488355328 := by omega
  have b2 : rows.length ≤ 17592186044416 := by omega
  refine AC.enter Tryz.func87 rfl Tryz.ntmps87 (by simp) ?_
  simp [nilcmp, anil, abuildS, afillP, chunk, appK, aappend, arows, tek, upd_eq, lenMax, b1, b2]
  exact ⟨⟨hs, resK.rt (Or.inl (fin2 _ _))⟩, fun e => resK.rt (Or.inr ⟨rfl, fin e⟩)⟩
theorem cloneTb_ac {η : AHeap} {n : Nat} {rows : List (List AVal)} (hl : rows.length ≤ 1000000) (hw : ∀ r ∈ rows, r.length = 2) (hs : ∀ r ∈ rows, ∀ c ∈ r, c.sc = true) : AC Tryz.prog 88 [.rs 2 rows] η n (NewRow 2 rows η n) := by
  refine AC.nilOwn 2 (by decide) ?_
  have fin : rows = [] → NewRow 2 rows η n (.sl n 0 0) (upd η n (some (.cells 2 []))) (n + 1) := fun h3 => by
    subst h3
    exact ⟨n, rfl, by rw [upd_eq], Nat.le_refl _, by omega, fun r hr => by rw [upd_ne (by omega)]⟩
  have fin2 : ∀ o1 o2, NewRow 2 rows η n (.sl (n + 1) 0 rows.length) (upd (upd (upd η n o1) n o2) (n + 1) (some (.cells 2 rows))) (n + 1 + 1) := fun _ _ => ⟨n + 1, rfl, upd_eq .., by omega, by omega, fun r hr => by rw [upd_ne (by omega), upd_ne (by omega), upd_ne (by omega)]⟩
  have b1 : rows.length * 32 ≤ 140737488355328 := by omega
  have b2 : rows.length ≤ 17592186044416 := by omega
  refine AC.enter Tryz.func88 rfl Tryz.ntmps88 (by simp) ?_
  simp [nilcmp, anil, abuildS, afillP, chunk, appK, aappend, arows, tek, upd_eq, lenMax, b1, b2]
  exact ⟨⟨hs, resK.rt (Or.inl (fin2 _ _))⟩, fun e => resK.rt (Or.inr ⟨rfl, fin e⟩)⟩
theorem cloneC_ac {η : AHeap} {n : Nat} {rows : List (List AVal)} (hl : rows.length ≤ 1000000) (hw : ∀ r ∈ rows, r.length = 2) (hs : ∀ r ∈ rows, ∀ c ∈ r, c.sc = true) : AC Tryz.prog 89 [.rs 2 rows] η n (NewRow 2 rows η n) := by
  refine AC.nilOwn 2 (by decide) ?_
  have fin : rows = [] → NewRow 2 rows η n (.sl n 0 0) (upd η n (some (.cells 2 []))) (n + 1) := fun h3 => by
    subst h3
    exact ⟨n, rfl, by rw [upd_eq], Nat.le_refl _, by omega, fun r hr => by rw [upd_ne (by omega)]⟩
  have fin2 : ∀ o1 o2, NewRow 2 rows η n (.sl (n + 1) 0 rows.length) (upd (upd (upd η n o1) n o2) (n + 1) (some (.cells 2 rows))) (n + 1 + 1) := fun _ _ => ⟨n + 1, rfl, upd_eq .., by omega, by omega, fun r hr => by rw [upd_ne (by omega), upd_ne (by omega), upd_ne (by omega)]⟩
  have b1 : rows.length * 16 ≤ 140737488355328 := by omega
  have b2 : rows.length ≤ 17592186044416 := by omega
  refine AC.enter Tryz.func89 rfl Tryz.ntmps89 (by simp) ?_
  simp [nilcmp, anil, abuildS, afillP, chunk, appK, aappend, arows, tek, upd_eq, lenMax, b1, b2]
  exact ⟨⟨hs, resK.rt (Or.inl (fin2 _ _))⟩, fun e => resK.rt (Or.inr ⟨rfl, fin e⟩)⟩
end Go.Proofs.YtbomkomipaipmaaGreat
namespace Go.Proofs.YtbomkomipaipmaaGreat
set_option maxRecDepth 100000

theorem NewRow.rt {f : FuncId} {args : List AVal} {η : AHeap} {n k : Nat} {rows : List (List AVal)} (h : AC Tryz.prog f args η n (NewRow k rows η n)) (hl : rows.length ≤ lenMax) (hi : ∀ r ∈ rows, ∀ c ∈ r, ∃ x, c = .int .i64 x) : AC Tryz.prog f args η n (Rt (.rs k rows) η n) := by
  refine AC.gnd1 (.rs _ _ fun row hr c hc => by obtain ⟨x, rfl⟩ := hi row hr c hc; exact .int _ _) 1 (h.mono ?_)
  rintro v η' n' ⟨q, rfl, h1, h2, h3, h4⟩
  refine ⟨h4, ?_⟩
  rw [gnd_new h2 h1 (by omega) hl]
  have e : ((rows.drop 0).take rows.length).map (fun row => row.map (gnd n η' 0)) = rows := by
    rw [List.drop_zero, List.take_length]
    conv => rhs; rw [← List.map_id rows]
    refine List.map_congr_left fun row hr => ?_
    conv => rhs; rw [id, ← List.map_id row]
    refine List.map_congr_left fun c hc => ?_
    obtain ⟨x, rfl⟩ := hi row hr c hc
    rw [gnd_int]; rfl
  rw [e]; exact Ent.refl _
theorem ints_int {l : List Int} : ∀ r ∈ ints l, ∀ c ∈ r, ∃ x, c = .int .i64 x := by
  intro r hr c hc
  obtain ⟨x, _, rfl⟩ := List.mem_map.1 hr
  simp at hc; exact ⟨x, hc⟩
theorem pairs_int {l : List (Int × Int)} : ∀ r ∈ pairs l, ∀ c ∈ r, ∃ x, c = .int .i64 x := by
  intro r hr c hc
  obtain ⟨x, _, rfl⟩ := List.mem_map.1 hr
  simp at hc
  rcases hc with h | h
  · exact ⟨_, h⟩
  · exact ⟨_, h⟩
theorem int_sc {rows : List (List AVal)} (h : ∀ r ∈ rows, ∀ c ∈ r, ∃ x, c = .int .i64 x) : ∀ r ∈ rows, ∀ c ∈ r, c.sc = true := fun r hr c hc => by
  obtain ⟨x, rfl⟩ := h r hr c hc; rfl
theorem cloneTyR {η : AHeap} {n : Nat} (l : List Int) (hl : l.length ≤ 1000000) : AC Tryz.prog 86 [.rs 1 (ints l)] η n (Rt (.rs 1 (ints l)) η n) :=
  NewRow.rt (cloneTy_ac (by simpa using hl) (fun r hr => by obtain ⟨x, _, rfl⟩ := List.mem_map.1 hr; rfl) (int_sc ints_int)) (by simp; unfold lenMax; omega) ints_int
theorem cloneIR {η : AHeap} {n : Nat} (l : List (Int × Int)) (hl : l.length ≤ 1000000) : AC Tryz.prog 87 [.rs 2 (pairs l)] η n (Rt (.rs 2 (pairs l)) η n) :=
  NewRow.rt (cloneI_ac (by simpa using hl) (fun r hr => by obtain ⟨x, _, rfl⟩ := List.mem_map.1 hr; rfl) (int_sc pairs_int)) (by simp; unfold lenMax; omega) pairs_int
theorem cloneCR {η : AHeap} {n : Nat} (l : List (Int × Int)) (hl : l.length ≤ 1000000) : AC Tryz.prog 89 [.rs 2 (pairs l)] η n (Rt (.rs 2 (pairs l)) η n) :=
  NewRow.rt (cloneC_ac (by simpa using hl) (fun r hr => by obtain ⟨x, _, rfl⟩ := List.mem_map.1 hr; rfl) (int_sc pairs_int)) (by simp; unfold lenMax; omega) pairs_int

/-- a module whose lists are short -/
structure ModS (m : List Actr) : Prop where
  len : m.length ≤ 8
  par : ∀ a ∈ m, a.params.length ≤ 1000 ∧ a.regs.length ≤ 1000 ∧ a.msgs.length ≤ 1000 ∧ a.code.length ≤ 1000 ∧ a.tabs.length ≤ 1000
  cls : ∀ a ∈ m, ∀ t ∈ a.tabs, t.cls.length ≤ 1000
/-- an actor's cells, its tables in a row of their own -/
def rowD (a : Actr) (t : Nat) : List AVal := [.rs 1 (ints a.params), .rs 1 (ints a.regs), .rs 1 (ints a.msgs), .rs 2 (pairs a.code), .sl t 0 a.tabs.length]
def crow (m : List Actr) (ts : Nat → Nat) (i : Nat) : List (List AVal) := m.mapIdx fun j a => if j < i then rowD a (ts j) else actC a
@[simp] theorem crow_len (m : List Actr) (ts : Nat → Nat) (i : Nat) : (crow m ts i).length = m.length := by simp [crow]
theorem crow_get (m : List Actr) (ts : Nat → Nat) (i j : Nat) (h : j < m.length) : (crow m ts i)[j]? = some (if j < i then rowD m[j] (ts j) else actC m[j]) := by simp [crow, h]
theorem crow_set (m : List Actr) (ts : Nat → Nat) (i t : Nat) (h : i < m.length) : (crow m ts i).set i (rowD m[i] t) = crow m (fun j => if j = i then t else ts j) (i + 1) := by
  refine List.ext_getElem? fun j => ?_
  by_cases hj : j < m.length
  · rw [crow_get _ _ _ _ hj, List.getElem?_set, crow_get _ _ _ _ hj]
    by_cases e : i = j
    · subst e; simp [h]
    · have e' : ¬ j = i := fun k => e k.symm
      simp only [e, e', if_false]
      by_cases k : j < i
      · simp [k, show j < i + 1 by omega]
      · simp [k, show ¬ j < i + 1 by omega]
  · rw [List.getElem?_eq_none (by simp; omega), List.getElem?_eq_none (by simp; omega)]
/-- what stands while it copies -/
structure CopyS (m : List Actr) (η : AHeap) (n b o q : Nat) (ts : Nat → Nat) (i : Nat) (η1 : AHeap) (n1 : Nat) : Prop where
  out : η1 o = some (.cells 1 [[.sl q 0 m.length]])
  row : η1 q = some (.cells 5 (crow m ts i))
  tab : ∀ j (h : j < m.length), j < i → η1 (ts j) = some (.cells 2 (tblsC m[j].tabs)) ∧ n ≤ ts j ∧ ts j < n1
  kp : ∀ r, r < n → η1 r = η r
  res : ∃ v, η1 b = some (.cells 1 [[v]])
set_option maxHeartbeats 4000000 in
theorem copied_ac {m : List Actr} {η : AHeap} {n : Nat} (hm : ModS m) : AC Tryz.prog 40 [modV m] η n (Rt (modV m) η n) := by
  have hl := hm.len
  have ha5 : ∀ r ∈ actsC m, r.length = 5 := fun r hr => by obtain ⟨a, _, rfl⟩ := List.mem_map.1 hr; rfl
  have has : ∀ r ∈ actsC m, ∀ c ∈ r, c.sc = true := fun r hr c hc => by
    obtain ⟨a, _, rfl⟩ := List.mem_map.1 hr
    simp [actC] at hc
    rcases hc with rfl | rfl | rfl | rfl | rfl <;> rfl
  refine AC.gnd1 (fu := 5) (v' := modV m) (.agg _ fun c hc => ?_) ?_
  · simp at hc; subst hc
    refine .rs _ _ fun row hr c hc => ?_
    obtain ⟨a, _, rfl⟩ := List.mem_map.1 hr
    simp [actC] at hc
    have hp : ∀ l : List (Int × Int), NQ η (.rs 2 (pairs l)) := fun l => .rs _ _ fun row hr c hc => by
      obtain ⟨x, rfl⟩ := pairs_int row hr c hc; exact .int _ _
    rcases hc with rfl | rfl | rfl | rfl | rfl
    · exact ints_nq _ _
    · exact ints_nq _ _
    · exact ints_nq _ _
    · exact hp _
    · refine .rs _ _ fun row hr c hc => ?_
      obtain ⟨a, _, rfl⟩ := List.mem_map.1 hr
      simp [tblC] at hc
      rcases hc with rfl | rfl
      · exact hp _
      · exact .int _ _
  refine AC.fresh fun hf => ?_; refine AC.enter Tryz.func40 rfl Tryz.ntmps40 (by simp) ?_
  simp [modV, aload, afield, apart, upd_apply]
  refine ACK.use (cloneA_ac (by simp; omega) ha5 has).freshP ?_
  intro v η1 n1 ⟨⟨q, e1, d1, d2, d3, d4⟩, hf1⟩
  subst e1
  have hb : η1 (n + 1) = some (.cells 1 [[.nils]]) := by rw [d4 _ (by omega), upd_eq]
  have hkp : ∀ r, r < n → η1 r = η r := fun r hr => by rw [d4 r (by omega), upd_ne (by omega), upd_ne (by omega)]
  simp [abuild, aplace, afillP, astore, aload, afield, apart, upd_upd, upd_eq]
  refine loopK.inv [4, 5, 6, 14, 15, 16, 17, 18, 19, 20, 21, 22, 23, 24, 25, 26, 27, 28, 29, 30, 31, 32, 33, 34, 35, 36, 37, 38, 39, 40, 41, 42, 43, 44, 45, 46, 47, 48, 49, 50, 51, 52, 53, 54, 55, 56, 57, 58, 59, 60, 61, 62, 63, 64, 65, 66, 67, 68, 69, 70, 71, 72, 73, 74, 75, 76, 77, 78, 79, 80, 81, 82, 83, 84, 85, 86] (fun x : (Nat → Nat) × Nat × AHeap × Nat => x.2.1 ≤ m.length ∧ CopyS m η n (n + 1) n1 q x.1 x.2.1 x.2.2.1 x.2.2.2 ∧ n1 < x.2.2.2) (fun x => [(14, .int .i64 x.2.1)]) (fun x => x.2.2.1) (fun x => x.2.2.2) (fun x => m.length - x.2.1) (fun _ => 0, 0, upd η1 n1 (some (.cells 1 [[.sl q 0 m.length]])), n1 + 1) ⟨by simp, ⟨upd_eq _ _ _, ?_, fun j h hj => by simp at hj, fun r hr => ?_, ?_⟩, by simp⟩ (by simp) (AHeap.le_rfl _) (Nat.le_refl _) ?_
  · show upd _ _ _ q = _
    rw [upd_ne (by omega), d1]
    congr 2
    refine List.ext_getElem? fun j => ?_
    by_cases hj : j < m.length
    · rw [crow_get _ _ _ _ hj]; simp [hj]
    · rw [List.getElem?_eq_none (by simp; omega), List.getElem?_eq_none (by simp; omega)]
  · show upd _ _ _ r = _
    rw [upd_ne (by omega), hkp r hr]
  · exact ⟨.nils, by show upd _ _ _ _ = _; rw [upd_ne (by omega), hb]⟩
  intro ⟨ts, i, η2, n2⟩ ⟨g1, g2, g3⟩
  simp only at g1 g2 g3
  have hout := g2.out
  have hrow := g2.row
  simp
  refine CondP.dec (fun hi => ?_) (fun hi => ?_)
  · have hi' : i < m.length := by omega
    have er : (crow m ts i)[i]? = some (actC m[i]) := by rw [crow_get _ _ _ _ hi']; simp
    have ew : IntKind.i64.wrap ((i : Int) + 1) = (i : Int) + 1 := wrap_id (by omega) (by omega)
    have p1 := hm.par m[i] (List.getElem_mem hi')
    have p2 := hm.cls m[i] (List.getElem_mem hi')
    generalize hA : m[i] = A at er p1 p2
    generalize hR : crow m ts i = R at hrow er
    simp only [actC] at er
    have es : R.set i [.rs 1 (ints A.params), .rs 1 (ints A.regs), .rs 1 (ints A.msgs), .rs 2 (pairs A.code), .rs 2 (tblsC A.tabs)] = R := by
      have hiR := (List.getElem?_eq_some_iff.1 er).1
      refine List.ext_getElem? fun j => ?_
      rw [List.getElem?_set]
      by_cases e : i = j
      · subst e; rw [if_pos rfl, if_pos hiR, er]
      · simp [e]
    have eu : upd η2 q (some (.cells 5 R)) = η2 := upd_same hrow
    simp [hi, aload, apart, afield, aindex, hout, hrow]
    refine drawK.intro mixed [(0, []), (1, []), (2, []), (3, []), (4, []), (5, []), (6, []), (8, []), (9, []), (10, []), (11, []), (13, []), (14, []), (15, []), (16, []), (7, [11, 16]), (12, [16]), (17, []), (18, []), (19, []), (20, []), (21, []), (22, []), (23, []), (24, []), (25, []), (26, [])] (by kernel_rfl) ?_
    simp [aload, apart, afield, hrow, er]
    refine ACK.rt (cloneTyR _ (by omega)) ?_
    simp [hrow, er, lk_some, chkK]
    refine ACK.rt (cloneTyR _ (by omega)) ?_
    simp [hrow, er]
    refine ACK.rt (cloneTyR _ (by omega)) ?_
    simp [afield, hrow, er, astore, es, eu]
    have ht2 : ∀ r ∈ tblsC A.tabs, r.length = 2 := fun r hr => by obtain ⟨a, _, rfl⟩ := List.mem_map.1 hr; rfl
    have hts : ∀ r ∈ tblsC A.tabs, ∀ c ∈ r, c.sc = true := fun r hr c hc => by
      obtain ⟨a, _, rfl⟩ := List.mem_map.1 hr
      simp [tblC] at hc
      rcases hc with rfl | rfl <;> rfl
    refine drawK.intro mixed [(0, []), (1, []), (2, []), (3, []), (4, []), (5, []), (7, []), (8, []), (9, []), (10, []), (6, [10]), (11, []), (12, []), (13, []), (14, []), (15, []), (16, []), (17, [])] (by kernel_rfl) ?_
    simp [aload, apart, afield, hrow, er]
    refine ACK.rt (cloneIR _ (by omega)) ?_
    simp [hrow, er, lk_some, chkK]
    refine ACK.use (cloneTb_ac (by simp; omega) ht2 hts).freshP ?_
    intro v η3 n3 ⟨⟨t, e1, c1, c2, c3, c4⟩, hf3⟩
    subst e1
    have hrow3 : η3 q = some (.cells 5 R) := by rw [c4 q (by omega)]; exact hrow
    have hout3 : η3 n1 = some (.cells 1 [[.sl q 0 m.length]]) := by rw [c4 n1 (by omega)]; exact hout
    have eu3 : upd η3 q (some (.cells 5 R)) = η3 := upd_same hrow3
    simp [aload, apart, afield, hrow3, er, astore, es, eu3]
    have hiR : i < R.length := (List.getElem?_eq_some_iff.1 er).1
    obtain ⟨R2, hR2⟩ : ∃ R2, R2 = R.set i [.rs 1 (ints A.params), .rs 1 (ints A.regs), .rs 1 (ints A.msgs), .rs 2 (pairs A.code), .sl t 0 A.tabs.length] := ⟨_, rfl⟩
    have er2 : R2[i]? = some [.rs 1 (ints A.params), .rs 1 (ints A.regs), .rs 1 (ints A.msgs), .rs 2 (pairs A.code), .sl t 0 A.tabs.length] := by
      rw [hR2, List.getElem?_set, if_pos rfl, if_pos hiR]
    obtain ⟨G, hG⟩ : ∃ G, G = upd η3 q (some (.cells 5 R2)) := ⟨_, rfl⟩
    have hGq : G q = some (.cells 5 R2) := by rw [hG]; exact upd_eq _ _ _
    have hGt : G t = some (.cells 2 (tblsC A.tabs)) := by rw [hG, upd_ne (by omega)]; exact c1
    have hGo : G n1 = some (.cells 1 [[.sl q 0 m.length]]) := by rw [hG, upd_ne (by omega)]; exact hout3
    rw [← hR2, ← hG]
    simp [hGq, er2]
    refine loopK.inv [6, 66, 67, 68, 69, 70, 71, 72, 73, 74, 75, 76, 77, 78, 79, 80, 81, 82, 83, 84, 85] (fun k : Nat => k ≤ A.tabs.length) (fun k => [(66, .int .i64 k)]) (fun _ => G) (fun _ => n3) (fun k => A.tabs.length - k) 0 (by simp) (by simp) (AHeap.le_rfl _) (Nat.le_refl _) ?_
    intro k hk
    simp
    refine CondP.dec (fun hk1 => ?_) (fun hk1 => ?_)
    · have hk' : k < A.tabs.length := by omega
      have ewk : IntKind.i64.wrap ((k : Int) + 1) = (k : Int) + 1 := wrap_id (by omega) (by omega)
      have et : (tblsC A.tabs)[k]? = some (tblC A.tabs[k]) := by simp [hk']
      have p3 := p2 A.tabs[k] (List.getElem_mem hk')
      simp [hk1]
      refine drawK.intro mixed [(0, []), (1, []), (2, []), (3, []), (4, []), (5, []), (6, []), (7, []), (8, []), (9, []), (10, []), (11, []), (12, []), (13, [3]), (14, []), (15, []), (16, [])] (by kernel_rfl) ?_
      simp only [tblC] at et
      have etset : (tblsC A.tabs).set k [.rs 2 (pairs A.tabs[k].cls), .int .i64 A.tabs[k].tmo] = tblsC A.tabs := by
        refine List.ext_getElem? fun j => ?_
        rw [List.getElem?_set]
        by_cases e : k = j
        · subst e; rw [if_pos rfl, if_pos (by simpa using hk'), et]
        · rw [if_neg e]
      have eut : upd G t (some (.cells 2 (tblsC A.tabs))) = G := upd_same hGt
      simp [hk', aload, apart, afield, aindex, hGq, hGt, er2, tblC]
      refine ACK.rt (cloneCR A.tabs[k].cls (by omega)) ?_
      simp [hk', afield, aindex, hGq, hGt, er2, tblC, lk_some, chkK, astore, etset, eut, ewk]
      exact endK.intro (k + 1) (by omega) (by simp) (by repeat (first | exact Agree.mask _ _ | refine Agree.setf rfl ?_ | refine Agree.inner rfl ?_)) (AHeap.le_rfl _) (Nat.le_refl _) (show A.tabs.length - (k + 1) < A.tabs.length - k by omega)
    · simp [hk1, ew]
      refine endK.intro (fun j => if j = i then t else ts j, i + 1, G, n3) ⟨by simp only; omega, ⟨hGo, ?_, fun j h hj => ?_, fun r hr => ?_, ?_⟩, by simp only; omega⟩ (by simp) (by repeat (first | exact Agree.mask _ _ | refine Agree.setf rfl ?_ | refine Agree.inner rfl ?_)) (AHeap.le_rfl _) (Nat.le_refl _) (show m.length - (i + 1) < m.length - i by omega)
      · simp only
        rw [hGq, hR2, ← hR, ← crow_set m ts i t hi', hA]; rfl
      · simp only
        by_cases e : j = i
        · subst e
          rw [if_pos rfl, hA]
          exact ⟨hGt, by omega, c3⟩
        · rw [if_neg e]
          have hj2 : j < i + 1 := hj
          obtain ⟨k1, k2, k3⟩ := g2.tab j h (by omega)
          refine ⟨?_, k2, by omega⟩
          have hne : ts j ≠ q := fun e => by rw [e, g2.row] at k1; cases k1
          rw [hG, upd_ne hne, c4 _ k3]; exact k1
      · show G r = η r
        rw [hG, upd_ne (by omega), c4 r (by omega)]; exact g2.kp r hr
      · obtain ⟨v, hv⟩ := g2.res
        refine ⟨v, ?_⟩
        show G (n + 1) = _
        rw [hG, upd_ne (by omega), c4 _ (by omega)]; exact hv
  · have ei : i = m.length := by omega
    obtain ⟨v, hv⟩ := g2.res
    simp [hi, aload, apart, hout, hv, astore, upd_eq]
    have hnq : ¬ n + 1 = q := by omega
    refine resK.rt ⟨fun r hr => by rw [upd_ne (by omega)]; exact g2.kp r hr, ?_⟩
    rw [gnd_agg]
    refine Ent.agg ⟨?_, trivial⟩ rfl
    rw [gnd_new (k := 5) (rows := crow m ts m.length) (by omega) (by rw [upd_ne (fun e => hnq e.symm), hrow, ei]) (by simp) (by unfold lenMax; omega)]
    have e : (((crow m ts m.length).drop 0).take m.length).map (fun row => row.map (gnd n (upd η2 (n + 1) (some (.cells 1 [[.sl q 0 m.length]]))) 3)) = actsC m := by
      rw [List.drop_zero, List.take_of_length_le (by simp)]
      refine List.ext_getElem? fun j => ?_
      by_cases hj : j < m.length
      · rw [List.getElem?_map, crow_get _ _ _ _ hj, if_pos hj, actsC_get, List.getElem?_eq_getElem hj]
        simp only [Option.map_some, rowD, List.map_cons, List.map_nil, gnd_rs]
        obtain ⟨k1, k2, k3⟩ := g2.tab j hj (by omega)
        have hne : ts j ≠ n + 1 := fun e => by rw [e, hv] at k1; cases k1
        rw [gnd_new k2 (by rw [upd_ne hne]; exact k1) (by simp) (by have := (hm.par m[j] (List.getElem_mem hj)).2.2.2.2; unfold lenMax; omega)]
        have et : (((tblsC m[j].tabs).drop 0).take m[j].tabs.length).map (fun row => row.map (gnd n (upd η2 (n + 1) (some (.cells 1 [[.sl q 0 m.length]]))) 2)) = tblsC m[j].tabs := by
          rw [List.drop_zero, List.take_of_length_le (by simp)]
          unfold tblsC
          rw [List.map_map]
          refine List.map_congr_left fun t _ => ?_
          simp [tblC, gnd_int]
        rw [et]; rfl
      · rw [List.getElem?_eq_none (by simp; omega), List.getElem?_eq_none (by simp; omega)]
    rw [e]; exact Ent.refl _
end Go.Proofs.YtbomkomipaipmaaGreat
namespace Go.Proofs.YtbomkomipaipmaaGreat
set_option maxRecDepth 100000

inductive Role where
  | mach | pids | web | wmap | all | live
  | proc (i : Nat) | box (i : Nat) | brow (i : Nat) | orow (i : Nat)
  deriving DecidableEq
/-- a process, plain -/
structure PD where
  pid : Int
  parent : Int
  actor : Int
  dead : Bool
  rs : Int × Int
  out : List Int
  st : Sta
  box : List (Int × Int)
/-- a machine, plain -/
structure MD where
  m : List Actr
  now : Int
  ps : List PD
  tab : Tab
  W : List LE
/-- those that live: pid, place -/
def liveL : List PD → Nat → List (Int × Nat)
  | [], _ => []
  | p :: ps, k => if p.dead = true then liveL ps (k + 1) else (p.pid, k) :: liveL ps (k + 1)
def outV (nm : Role → Nat) (i : Nat) (p : PD) : AVal := if p.out = [] then .nils else .sl (nm (.orow i)) 0 p.out.length
def procC (nm : Role → Nat) (i : Nat) (p : PD) : List AVal := [.int .i64 p.pid, .int .i64 p.parent, .int .i64 p.actor, .bool p.dead, .int .i64 p.rs.1, .int .i64 p.rs.2, outV nm i p, .int .i64 p.st.actor, .int .i64 p.st.pc, .rs 1 (ints p.st.stack), .rs 1 (ints p.st.regs), .bool p.st.waiting, .int .i64 p.st.till, .ptr (nm (.box i)) 0 0]
def allV (nm : Role → Nat) (D : MD) : AVal := if D.ps = [] then .nils else .sl (nm .all) 0 D.ps.length
def machC (nm : Role → Nat) (D : MD) : List AVal := [.rs 5 (actsC D.m), .int .i64 D.now, .ptr (nm .pids) 0 0, .ptr (nm .web) 0 0, allV nm D, .mp (nm .live)]
def allR (nm : Role → Nat) (k : Nat) : List (List AVal) := (List.range k).map fun i => [.ptr (nm (.proc i)) 0 0]
def liveE (nm : Role → Nat) (ps : List PD) : List (Int × AVal) := (liveL ps 0).map fun x => (x.1, .ptr (nm (.proc x.2)) 0 0)
def objOf (nm : Role → Nat) (D : MD) : Role → Option AObj
  | .mach => some (.cells 6 [machC nm D])
  | .pids => some (tabO D.tab)
  | .all => if D.ps = [] then none else some (.cells 1 (allR nm D.ps.length))
  | .live => some (.map (ent (liveE nm D.ps)))
  | .proc i => (D.ps[i]?).map fun p => .cells 14 [procC nm i p]
  | .orow i => match D.ps[i]? with
    | some p => if p.out = [] then none else some (.cells 1 (ints p.out))
    | none => none
  | _ => none
def dom (k : Nat) : Role → Prop
  | .proc i | .box i | .brow i | .orow i => i < k
  | _ => True
structure MachAt (η : AHeap) (n : Nat) (nm : Role → Nat) (D : MD) : Prop where
  obj : ∀ ρ o, objOf nm D ρ = some o → η (nm ρ) = some o
  bx : ∀ i p, D.ps[i]? = some p → BoxAt η (nm (.box i)) p.box (nm (.brow i))
  web : WebAt η (nm .web) (nm .wmap) D.W
  inj : ∀ ρ ρ', dom D.ps.length ρ → dom D.ps.length ρ' → nm ρ = nm ρ' → ρ = ρ'
  wnm : ∀ ρ, dom D.ps.length ρ → ¬ nm ρ ∈ D.W.map (·.nm)
  lt : ∀ ρ, dom D.ps.length ρ → nm ρ < n
/-- the numbers that a machine owns -/
def InM (nm : Role → Nat) (D : MD) (q : Nat) : Prop := (∃ ρ, dom D.ps.length ρ ∧ nm ρ = q) ∨ q ∈ D.W.map (·.nm)
/-- what holds of all tables of pids that stand -/
structure TabI (t : Tab) : Prop where
  len : t.sl.length = 32
  gen : ∀ x ∈ t.sl, 0 ≤ x.1 ∧ x.1 ≤ 1048576 ∧ (x.2 = true → x.1 < 1048576)
  cnt : t.live = (t.sl.countP (·.2) : Nat)
theorem TabI.ok {t : Tab} (h : TabI t) : TabOK t := ⟨h.len, fun x hx => ⟨(h.gen x hx).1, (h.gen x hx).2.1⟩, by
  have h1 := h.cnt
  have h2 : t.sl.countP (·.2) ≤ t.sl.length := List.countP_le_length
  have h3 := h.len
  omega⟩
theorem TabI.take {t : Tab} (h : TabI t) {s : Nat} (hs : s < t.sl.length) (hf : freeS t.sl[s] = true) : TabI (takeT t s hs) := by
  simp [freeS] at hf
  refine ⟨by simp [takeT, h.len], fun x hx => ?_, ?_⟩
  · rcases List.mem_or_eq_of_mem_set hx with k | k
    · exact h.gen x k
    · subst k
      have := h.gen _ (List.getElem_mem hs)
      exact ⟨this.1, this.2.1, fun _ => hf.2⟩
  · simp only [takeT, List.countP_set hs, hf.1, h.cnt]
    simp
theorem slotR_taken {t : Tab} {pid : Int} (h : (slotR t pid).2 = true) : ∃ x, t.sl[(slotR t pid).1.toNat]? = some x ∧ x.2 = true := by
  unfold slotR at h ⊢
  by_cases h1 : pid < 1
  · rw [if_pos h1] at h; cases h
  · rw [if_neg h1] at h ⊢
    simp only at h ⊢
    generalize hk : ((pid - 1) % 32).toNat = k at h ⊢
    cases hx : t.sl[k]? with
    | none => rw [hx] at h; cases h
    | some x =>
      simp only [hx] at h ⊢
      by_cases h2 : x.2 = true ∧ pidOf x.1 k = pid
      · rw [if_pos h2]; exact ⟨x, by simpa using hx, h2.1⟩
      · rw [if_neg h2] at h; cases h
theorem TabI.free {t : Tab} (h : TabI t) (pid : Int) : TabI (freeR t pid).2 := by
  unfold freeR
  cases hs : (slotR t pid).2 with
  | false => exact h
  | true =>
    have hl := slotR_lt h.len pid
    have hk : (slotR t pid).1.toNat < t.sl.length := by rw [h.len]; omega
    have ht : t.sl[(slotR t pid).1.toNat].2 = true := by
      obtain ⟨x, h1, h2⟩ := slotR_taken hs
      obtain ⟨h3, h4⟩ := List.getElem?_eq_some_iff.1 h1
      rw [h4]; exact h2
    have hg : t.sl.getD (slotR t pid).1.toNat (0, false) = t.sl[(slotR t pid).1.toNat] := by simp [List.getD_eq_getElem?_getD, hk]
    simp only [hg]
    have hge := h.gen _ (List.getElem_mem hk)
    refine ⟨by simp [h.len], fun x hx => ?_, ?_⟩
    · rcases List.mem_or_eq_of_mem_set hx with k | k
      · exact h.gen x k
      · subst k
        have := hge.2.2 ht
        exact ⟨by simp only; omega, by simp only; omega, fun e => by cases e⟩
    · have hpos : 0 < t.sl.countP (·.2) := List.countP_pos_iff.2 ⟨_, List.getElem_mem hk, ht⟩
      simp only [List.countP_set hk, ht, h.cnt]
      simp; omega
/-- bounds -/
structure MachOK (D : MD) : Prop where
  mod : ModS D.m
  stk : ∀ p ∈ D.ps, p.st.stack.length ≤ lenMax ∧ p.st.regs.length ≤ lenMax
  box : ∀ p ∈ D.ps, p.box.length ≤ 16
  tab : TabI D.tab
  wk : (D.W.map (·.key)).Nodup
  wl : D.W.length ≤ 100
  pidU : (D.ps.map (·.pid)).Nodup
  pid64 : ∀ p ∈ D.ps, I64 p.pid
theorem ModS.ok {m : List Actr} (h : ModS m) : ModOK m := ⟨fun a ha => by have := (h.par a ha).1; omega, fun a ha t ht => by have := h.cls a ha t ht; omega⟩
theorem MachAt.mach {η : AHeap} {n : Nat} {nm : Role → Nat} {D : MD} (h : MachAt η n nm D) : η (nm .mach) = some (.cells 6 [machC nm D]) := h.obj .mach _ rfl
theorem MachAt.proc {η : AHeap} {n : Nat} {nm : Role → Nat} {D : MD} (h : MachAt η n nm D) {i : Nat} {p : PD} (hp : D.ps[i]? = some p) : η (nm (.proc i)) = some (.cells 14 [procC nm i p]) := h.obj (.proc i) _ (by simp [objOf, hp])

def readyP (D : MD) (p : PD) : Bool := !p.st.waiting || readyF D.m p.st D.now p.box
set_option maxHeartbeats 4000000 in
theorem ready_nil_ac {η : AHeap} {n x : Nat} : AC Tryz.prog 46 [.ptr x 0 0, .nilp] η n (Rt (.bool false) η n) := by
  refine AC.enter Tryz.func46 rfl Tryz.ntmps46 (by simp) ?_
  simp
  refine drawK.intro mixed [(0, []), (1, []), (2, []), (3, []), (4, []), (5, []), (6, []), (7, []), (8, []), (9, []), (10, []), (11, []), (12, []), (13, []), (14, []), (15, []), (16, []), (17, []), (18, []), (19, []), (20, []), (21, []), (22, []), (23, []), (24, []), (25, []), (26, [13, 17, 21]), (27, []), (28, []), (29, []), (30, [])] (by kernel_rfl) ?_
  simp
  exact resK.rt ⟨rfl, rfl, rfl⟩
set_option maxHeartbeats 4000000 in
theorem mready_ac {η : AHeap} {n : Nat} {nm : Role → Nat} {D : MD} (h : MachAt η n nm D) (ok : MachOK D) {i : Nat} {p : PD} (hp : D.ps[i]? = some p) : AC Tryz.prog 46 [.ptr (nm .mach) 0 0, .ptr (nm (.proc i)) 0 0] η n (Rt (.bool (readyP D p)) η n) := by
  have hm := h.mach
  have hq := h.proc hp
  have hpm : p ∈ D.ps := List.mem_of_getElem? hp
  unfold readyP
  cases hw : p.st.waiting with
  | false =>
    refine AC.enter Tryz.func46 rfl Tryz.ntmps46 (by simp) ?_
    simp
    refine drawK.intro mixed [(0, []), (1, []), (2, []), (3, []), (4, []), (5, []), (6, []), (7, []), (8, []), (9, []), (10, []), (11, []), (12, []), (13, []), (14, []), (15, []), (16, []), (17, []), (18, []), (19, []), (20, []), (21, []), (22, []), (23, []), (24, []), (25, []), (26, [13, 17, 21]), (27, []), (28, []), (29, []), (30, [])] (by kernel_rfl) ?_
    simp [aload, apart, afield, hq, procC, hw]
    exact resK.rt ⟨rfl, rfl, rfl⟩
  | true =>
    have hbx := h.bx i p hp
    have h16 := ok.box p hpm
    have hrd := ready_ac D.m p.st D.now p.box η n (η0 := η) (Or.inl rfl) (Or.inl rfl) ok.mod.ok (by omega)
    simp only [stC, modV, hw] at hrd
    refine AC.enter Tryz.func46 rfl Tryz.ntmps46 (by simp) ?_
    simp
    refine drawK.intro mixed [(0, []), (1, []), (2, []), (3, []), (4, []), (5, []), (6, []), (7, []), (8, []), (9, []), (10, []), (11, []), (12, []), (13, []), (14, []), (15, []), (16, []), (17, []), (18, []), (19, []), (20, []), (21, []), (22, []), (23, []), (24, []), (25, []), (26, [13, 17, 21]), (27, []), (28, []), (29, []), (30, [])] (by kernel_rfl) ?_
    simp [lk_some, chkK, aload, apart, afield, hm, machC, hq, procC, hw]
    refine ACK.rt (messages_ac hbx h16) ?_
    simp [hm, machC, hq, procC, hw]
    refine ACK.rt hrd ?_
    simp
    exact resK.rt ⟨by simp, rfl, rfl⟩
end Go.Proofs.YtbomkomipaipmaaGreat
namespace Go.Proofs.YtbomkomipaipmaaGreat
set_option maxRecDepth 100000

def livesP (pid : Int) (p : PD) : Bool := !p.dead && p.pid == pid
/-- where one that lives stands -/
def atP (ps : List PD) (pid : Int) : Option Nat := ps.findIdx? (livesP pid)
theorem atP_some {ps : List PD} {pid : Int} {i : Nat} (h : atP ps pid = some i) : ∃ p, ps[i]? = some p ∧ p.dead = false ∧ p.pid = pid := by
  obtain ⟨h1, h2, _⟩ := List.findIdx?_eq_some_iff_getElem.1 h
  refine ⟨ps[i], List.getElem?_eq_getElem h1, ?_⟩
  simpa [livesP] using h2
theorem atP_eq {ps : List PD} {i : Nat} {p : PD} (hn : (ps.map (·.pid)).Nodup) (hp : ps[i]? = some p) (hd : p.dead = false) : atP ps p.pid = some i := by
  obtain ⟨h1, rfl⟩ := List.getElem?_eq_some_iff.1 hp
  refine List.findIdx?_eq_some_iff_getElem.2 ⟨h1, by simp [livesP, hd], fun j hj => ?_⟩
  simp only [livesP, Bool.and_eq_true, beq_iff_eq, not_and, Bool.not_eq_true']
  intro _ k
  have := (List.getElem_inj (h₀ := by simp; omega) (h₁ := by simpa using h1) hn (i := j) (j := i)).1 (by simpa using k)
  omega
theorem live_find (nm : Role → Nat) (pid : Int) : ∀ (ps : List PD) (k : Nat), lookE ((liveL ps k).map fun x => (x.1, AVal.ptr (nm (.proc x.2)) 0 0)) pid = (ps.findIdx? (livesP pid)).map fun i => .ptr (nm (.proc (i + k))) 0 0
  | [], k => rfl
  | p :: ps, k => by
    unfold liveL
    rw [List.findIdx?_cons]
    by_cases hd : p.dead = true
    · rw [if_pos hd, live_find nm pid ps (k + 1), show livesP pid p = false by simp [livesP, hd]]
      simp only [Bool.false_eq_true, if_false]
      cases ps.findIdx? (livesP pid) with
      | none => rfl
      | some i => simp [Nat.add_assoc, Nat.add_comm 1 k]
    · have hd' : p.dead = false := by simpa using hd
      rw [if_neg hd]
      by_cases hk : p.pid = pid
      · rw [show livesP pid p = true by simp [livesP, hd', hk]]
        simp [lookE, hasK, hk]
      · rw [show livesP pid p = false by simp [livesP, hk]]
        have h1 : hasK pid (p.pid, AVal.ptr (nm (.proc k)) 0 0) = false := by simp [hasK, hk]
        have := live_find nm pid ps (k + 1)
        unfold lookE at this ⊢
        rw [List.map_cons, List.find?_cons, h1, this]
        simp only [Bool.false_eq_true, if_false]
        cases ps.findIdx? (livesP pid) with
        | none => rfl
        | some i => simp [Nat.add_assoc, Nat.add_comm 1 k]
theorem lookE_live (nm : Role → Nat) (ps : List PD) (pid : Int) : lookE (liveE nm ps) pid = (atP ps pid).map fun i => .ptr (nm (.proc i)) 0 0 := live_find nm pid ps 0
theorem live_del : ∀ (ps : List PD) (k i : Nat) (p p' : PD), (ps.map (·.pid)).Nodup → ps[i]? = some p → p.dead = false → p'.dead = true → (liveL ps k).eraseP (fun x => x.1 == p.pid) = liveL (ps.set i p') k
  | [], k, i, p, p', hn, hp, hd, hd' => by simp at hp
  | q :: ps, k, 0, p, p', hn, hp, hd, hd' => by
    simp at hp; subst hp
    simp [liveL, hd, hd']
  | q :: ps, k, i + 1, p, p', hn, hp, hd, hd' => by
    simp at hp
    have hn' := List.nodup_cons.1 hn
    have ih := live_del ps (k + 1) i p p' hn'.2 hp hd hd'
    rw [List.set_cons_succ]
    unfold liveL
    by_cases h : q.dead = true
    · rw [if_pos h, if_pos h, ih]
    · rw [if_neg h, if_neg h]
      have hne : q.pid ≠ p.pid := fun e => hn'.1 (by show q.pid ∈ _; rw [e]; exact List.mem_map.2 ⟨p, List.mem_of_getElem? hp, rfl⟩)
      rw [List.eraseP_cons_of_neg (by simpa using hne), ih]
theorem delE_live (nm : Role → Nat) {ps : List PD} {i : Nat} {p p' : PD} (hn : (ps.map (·.pid)).Nodup) (hp : ps[i]? = some p) (hd : p.dead = false) (hd' : p'.dead = true) : delE (liveE nm ps) p.pid = liveE nm (ps.set i p') := by
  unfold delE liveE
  rw [List.eraseP_map, ← live_del ps 0 i p p' hn hp hd hd']
  rfl
theorem live_app : ∀ (ps : List PD) (k : Nat) (p : PD), p.dead = false → liveL (ps ++ [p]) k = liveL ps k ++ [(p.pid, k + ps.length)]
  | [], k, p, hd => by simp [liveL, hd]
  | q :: ps, k, p, hd => by
    have ih := live_app ps (k + 1) p hd
    rw [List.cons_append]
    unfold liveL
    rw [ih]
    by_cases h : q.dead = true
    · rw [if_pos h, if_pos h]; simp; omega
    · rw [if_neg h, if_neg h]; simp; omega
theorem insE_live (nm : Role → Nat) {ps : List PD} {p : PD} (hn : ¬ p.pid ∈ ps.map (·.pid)) (hd : p.dead = false) : insE (liveE nm ps) p.pid (.ptr (nm (.proc ps.length)) 0 0) = liveE nm (ps ++ [p]) := by
  have h0 : ∀ (ps : List PD) (k : Nat), ¬ p.pid ∈ ps.map (·.pid) → ∀ x ∈ liveL ps k, ¬ x.1 = p.pid := fun ps => by
    induction ps with
    | nil => intro k _ x hx; simp [liveL] at hx
    | cons q ps ih =>
      intro k hn x hx
      simp only [List.map_cons, List.mem_cons, not_or] at hn
      unfold liveL at hx
      split at hx
      · exact ih _ hn.2 x hx
      · rcases List.mem_cons.1 hx with rfl | hx
        · exact fun e => hn.1 e.symm
        · exact ih _ hn.2 x hx
  unfold insE
  have : (liveE nm ps).findIdx? (hasK p.pid) = none := by
    rw [List.findIdx?_eq_none_iff]
    intro x hx
    obtain ⟨y, hy, rfl⟩ := List.mem_map.1 hx
    simpa [hasK] using h0 ps 0 hn y hy
  rw [this]
  unfold liveE
  rw [live_app ps 0 p hd]; simp
/-- two roles, two numbers -/
theorem MachAt.ne {η : AHeap} {n : Nat} {nm : Role → Nat} {D : MD} (h : MachAt η n nm D) {ρ ρ' : Role} (h1 : dom D.ps.length ρ) (h2 : dom D.ps.length ρ') (hne : ρ ≠ ρ') : nm ρ ≠ nm ρ' := fun e => hne (h.inj ρ ρ' h1 h2 e)
theorem azvP : azv Tryz.prog 98 = some .nilp := by kernel_rfl
theorem lookLv {η : AHeap} {n : Nat} {nm : Role → Nat} {D : MD} (h : MachAt η n nm D) (pid : Int) : alookup Tryz.prog 87 (.mp (nm .live)) (.int .i64 pid) false η = some (match atP D.ps pid with
    | some i => .ptr (nm (.proc i)) 0 0
    | none => .nilp) := by
  rw [alookup_ent Tryz.underlying87 Tryz.underlying2 azvP (h.obj .live _ rfl), lookE_live]
  cases atP D.ps pid <;> rfl
end Go.Proofs.YtbomkomipaipmaaGreat
namespace Go.Proofs.YtbomkomipaipmaaGreat
set_option maxRecDepth 100000

def endP (p : PD) (r : Int × Int) : PD := { p with dead := true, rs := r }
def endD (D : MD) (i : Nat) (p : PD) (r : Int × Int) : MD := { D with ps := D.ps.set i (endP p r), tab := (freeR D.tab p.pid).2, W := cutW D.W p.pid }
theorem WebAt.cong {η η' : AHeap} {x r : Nat} {W : List LE} (h : WebAt η x r W) (h1 : η' x = η x) (h2 : η' r = η r) (h3 : ∀ e ∈ W, η' e.nm = η e.nm) : WebAt η' x r W :=
  ⟨h1.trans h.top, h2.trans h.map, fun e he => (h3 e he).trans (h.inn e he), h.dis, h.len⟩
theorem BoxAt.cong {η η' : AHeap} {b q : Nat} {l : List (Int × Int)} (h : BoxAt η b l q) (h1 : η' b = η b) (h2 : η' q = η q) : BoxAt η' b l q := by
  obtain ⟨v, k1, k2⟩ := h
  refine ⟨v, h1.trans k1, ?_⟩
  rcases k2 with k2 | ⟨J, k2, k3⟩
  · exact Or.inl k2
  · exact Or.inr ⟨J, k2, h2.trans k3⟩
def KeepM (n : Nat) (nm : Role → Nat) (D : MD) (η η' : AHeap) : Prop := ∀ q, q < n → ¬ InM nm D q → η' q = η q
theorem cutW_nms {W : List LE} {a : Int} {q : Nat} (h : q ∈ (cutW W a).map (·.nm)) : q ∈ W.map (·.nm) := by
  unfold cutW at h
  have := ((List.eraseP_sublist (p := fun e : LE => e.key == a) (l := cutG W a (sorted (toW W a)))).map (·.nm)).subset h
  rwa [cutG_nms] at this
set_option maxHeartbeats 4000000 in
theorem end_ac {η : AHeap} {n : Nat} {nm : Role → Nat} {D : MD} (h : MachAt η n nm D) (ok : MachOK D) {i : Nat} {p : PD} (hp : D.ps[i]? = some p) (hd : p.dead = false) (r : Int × Int) :
    AC Tryz.prog 228 [.ptr (nm .mach) 0 0, .ptr (nm (.proc i)) 0 0, .agg [.int .i64 r.1, .int .i64 r.2]] η n (fun _ η' n' => MachAt η' n' nm (endD D i p r) ∧ KeepM n nm D η η' ∧ n ≤ n') := by
  have hm := h.mach
  have hq := h.proc hp
  have hi : i < D.ps.length := (List.getElem?_eq_some_iff.1 hp).1
  have hpm : p ∈ D.ps := List.mem_of_getElem? hp
  have hL := h.obj .live _ rfl
  have hT := h.obj .pids _ rfl
  have dM : dom D.ps.length .mach := trivial
  have dL : dom D.ps.length .live := trivial
  have dT : dom D.ps.length .pids := trivial
  have dP : dom D.ps.length (.proc i) := hi
  have n1 := h.ne dM dP (by simp)
  have n2 := h.ne dL dP (by simp)
  have n3 := h.ne dT dP (by simp)
  have n4 := h.ne dL dM (by simp)
  have n5 := h.ne dT dM (by simp)
  have n6 := h.ne dT dL (by simp)
  have l1 := h.lt _ dM
  have l2 := h.lt _ dP
  have l3 := h.lt _ dL
  have l4 := h.lt _ dT
  refine AC.fresh fun hf => ?_; refine AC.enter Tryz.func228 rfl Tryz.ntmps228 (by simp) ?_
  simp
  refine drawK.intro mixed [(0, []), (1, []), (2, []), (3, []), (4, []), (5, []), (6, [2]), (7, []), (8, []), (9, []), (10, [])] (by kernel_rfl) ?_
  have z1 : ¬ nm .mach = n := by omega
  have z2 : ¬ nm (.proc i) = n := by omega
  have z3 : ¬ nm .live = n := by omega
  have z4 : ¬ nm .pids = n := by omega
  have z5 : ¬ n = nm (.proc i) := by omega
  have hdel : ∀ G : AHeap, G (nm .live) = some (.map (ent (liveE nm D.ps))) → adelete Tryz.prog 87 (.mp (nm .live)) (.int .i64 p.pid) G = some (upd G (nm .live) (some (.map (ent (liveE nm (D.ps.set i (endP p r))))))) := fun G hG => by
    rw [adelete_ent Tryz.underlying87 Tryz.underlying2 hG, delE_live nm (p' := endP p r) ok.pidU hp hd rfl]
  simp [lk_some, chkK, aload, apart, afield, astore, upd_apply, upd_upd, hq, procC, z2, z5]
  refine drawK.intro mixed [(0, []), (1, []), (2, []), (3, []), (4, []), (5, []), (6, []), (7, []), (8, []), (9, [])] (by kernel_rfl) ?_
  simp [aload, apart, afield, upd_apply, hm, machC, hL, hdel, z1, z3, n1, n2]
  refine drawK.intro mixed [(0, []), (1, []), (2, []), (3, []), (4, []), (5, []), (6, []), (7, []), (8, []), (9, [])] (by kernel_rfl) ?_
  simp [aload, apart, afield, upd_apply, hm, machC, z1, n1, Ne.symm n4, Ne.symm n2]
  refine ACK.heap fun G hG => ?_
  have hGT : G (nm .pids) = some (tabO D.tab) := by rw [hG, upd_ne n6, upd_ne n3, upd_ne z4]; exact hT
  have hGM : G (nm .mach) = some (.cells 6 [machC nm D]) := by rw [hG, upd_ne (Ne.symm n4), upd_ne n1, upd_ne z1]; exact hm
  have hGP : G (nm (.proc i)) = some (.cells 14 [procC nm i (endP p r)]) := by rw [hG, upd_ne (Ne.symm n2), upd_eq]; rfl
  have hGL : G (nm .live) = some (.map (ent (liveE nm (D.ps.set i (endP p r))))) := by rw [hG]; exact upd_eq _ _ _
  have hGk : ∀ q, q < n → q ≠ nm (.proc i) → q ≠ nm .live → G q = η q := fun q h1 h2 h3 => by rw [hG, upd_ne h3, upd_ne h2, upd_ne (by omega)]
  clear hG
  refine ACK.use (free_ac hGT ok.tab.ok.g ok.tab.ok.live p.pid (ok.pid64 p hpm)) ?_
  intro v G2 n2' ⟨e1, e2, e3⟩
  subst e1 e2 e3
  simp
  refine drawK.intro mixed [(0, []), (1, []), (2, []), (3, []), (4, []), (5, []), (6, []), (7, []), (8, []), (9, [])] (by kernel_rfl) ?_
  simp [aload, apart, afield, upd_apply, hGM, hGP, machC, procC, Ne.symm n5, Ne.symm n3]
  have hW : WebAt (upd G (nm .pids) (some (tabO (freeR D.tab p.pid).2))) (nm .web) (nm .wmap) D.W := by
    have hk : ∀ q, q < n → q ≠ nm (.proc i) → q ≠ nm .live → q ≠ nm .pids → upd G (nm .pids) (some (tabO (freeR D.tab p.pid).2)) q = η q := fun q h1 h2 h3 h4 => by rw [upd_ne h4, hGk q h1 h2 h3]
    have dW : dom D.ps.length .web := trivial
    have dR : dom D.ps.length .wmap := trivial
    refine h.web.cong (hk _ (h.lt _ dW) (h.ne dW dP (by simp)) (h.ne dW dL (by simp)) (h.ne dW dT (by simp))) (hk _ (h.lt _ dR) (h.ne dR dP (by simp)) (h.ne dR dL (by simp)) (h.ne dR dT (by simp))) fun e he => ?_
    have hin : e.nm ∈ D.W.map (·.nm) := List.mem_map.2 ⟨e, he, rfl⟩
    refine hk _ ?_ (fun k => h.wnm _ dP (k ▸ hin)) (fun k => h.wnm _ dL (k ▸ hin)) (fun k => h.wnm _ dT (k ▸ hin))
    rcases Nat.lt_or_ge e.nm n with k | k
    · exact k
    · have := h.web.inn e he; rw [hf _ k] at this; cases this
  refine ACK.use (cut_ac hW ok.wk p.pid) ?_
  intro v G3 n3' ⟨e1, c1, c2, e2⟩
  subst e1 e2
  simp
  have hG3 : ∀ ρ, dom D.ps.length ρ → ρ ≠ .wmap → ρ ≠ .pids → G3 (nm ρ) = G (nm ρ) := fun ρ hρ h1 h2 => by
    rw [c2 (nm ρ) (by have := h.lt _ hρ; omega) fun k => ?_, upd_ne (h.ne hρ dT h2)]
    rcases List.mem_cons.1 k with k | k
    · exact h.ne hρ (ρ' := .wmap) trivial h1 k
    · exact h.wnm _ hρ k
  have hG4 : ∀ ρ, dom D.ps.length ρ → ρ ≠ .wmap → ρ ≠ .pids → ρ ≠ .live → ρ ≠ .proc i → G3 (nm ρ) = η (nm ρ) := fun ρ hρ h1 h2 h3 h4 => by
    rw [hG3 ρ hρ h1 h2, hGk _ (h.lt _ hρ) (h.ne hρ dP h4) (h.ne hρ dL h3)]
  have hpT : G3 (nm .pids) = some (tabO (freeR D.tab p.pid).2) := by
    rw [c2 _ (by omega) fun k => ?_, upd_eq]
    rcases List.mem_cons.1 k with k | k
    · exact h.ne dT (ρ' := .wmap) trivial (by simp) k
    · exact h.wnm _ dT k
  have hlen : (D.ps.set i (endP p r)).length = D.ps.length := by simp
  have hget : ∀ j, j ≠ i → (D.ps.set i (endP p r))[j]? = D.ps[j]? := fun j hj => by rw [List.getElem?_set]; rw [if_neg fun e => hj e.symm]
  have hgi : (D.ps.set i (endP p r))[i]? = some (endP p r) := by rw [List.getElem?_set]; simp [hi]
  have hne0 : D.ps ≠ [] := fun e => by rw [e] at hi; simp at hi
  have hne1 : D.ps.set i (endP p r) ≠ [] := fun e => by have := congrArg List.length e; simp at this; exact hne0 this
  refine resK.rt ⟨⟨fun ρ o ho => ?_, fun j p' hj => ?_, c1, ?_, ?_, ?_⟩, fun q hq hn => ?_, by omega⟩
  · cases ρ with
    | mach =>
      rw [hG4 .mach trivial (by simp) (by simp) (by simp) (by simp), hm]
      rw [← ho]
      simp [objOf, machC, allV, endD, hne0, hne1]
    | pids => rw [hpT, ← ho]; rfl
    | web => cases ho
    | wmap => cases ho
    | all =>
      rw [hG4 .all trivial (by simp) (by simp) (by simp) (by simp)]
      refine h.obj .all o ?_
      rw [← ho]
      simp [objOf, endD, hne0, hne1]
    | live => rw [hG3 .live trivial (by simp) (by simp), hGL, ← ho]; rfl
    | proc j =>
      by_cases e : j = i
      · subst e
        rw [hG3 _ dP (by simp) (by simp), hGP, ← ho]
        simp [objOf, endD, hgi]
      · have hj : j < D.ps.length := by
          simp only [objOf, endD, hget j e] at ho
          cases hx : D.ps[j]? with
          | none => rw [hx] at ho; cases ho
          | some x => exact (List.getElem?_eq_some_iff.1 hx).1
        rw [hG4 (.proc j) hj (by simp) (by simp) (by simp) (by simpa using e)]
        refine h.obj (.proc j) o ?_
        rw [← ho]
        simp [objOf, endD, hget j e]
    | box j => cases ho
    | brow j => cases ho
    | orow j =>
      have hj : j < D.ps.length := by
        simp only [objOf, endD] at ho
        rcases Nat.lt_or_ge j D.ps.length with k | k
        · exact k
        · rw [List.getElem?_eq_none (by rw [hlen]; exact k)] at ho; cases ho
      rw [hG4 (.orow j) hj (by simp) (by simp) (by simp) (by simp)]
      refine h.obj (.orow j) o ?_
      rw [← ho]
      by_cases e : j = i
      · subst e; simp only [objOf, endD, hgi, hp]; rfl
      · simp [objOf, endD, hget j e]
  · have hj' : j < D.ps.length := by rw [← hlen]; exact (List.getElem?_eq_some_iff.1 hj).1
    have hb : ∃ p0, D.ps[j]? = some p0 ∧ p0.box = p'.box := by
      by_cases e : j = i
      · subst e
        have : p' = endP p r := by simpa [endD, hgi] using hj.symm
        exact ⟨p, hp, by rw [this]; rfl⟩
      · exact ⟨p', by rw [← hget j e]; exact hj, rfl⟩
    obtain ⟨p0, k1, k2⟩ := hb
    rw [← k2]
    exact (h.bx j p0 k1).cong (hG4 (.box j) hj' (by simp) (by simp) (by simp) (by simp)) (hG4 (.brow j) hj' (by simp) (by simp) (by simp) (by simp))
  · intro ρ ρ' h1 h2
    exact h.inj ρ ρ' (hlen ▸ h1) (hlen ▸ h2)
  · intro ρ h1 k
    exact h.wnm ρ (hlen ▸ h1) (cutW_nms k)
  · intro ρ h1
    have := h.lt ρ (hlen ▸ h1)
    omega
  · have hd0 : ∀ ρ, dom D.ps.length ρ → q ≠ nm ρ := fun ρ hρ e => hn (Or.inl ⟨ρ, hρ, e.symm⟩)
    rw [c2 q (by omega) fun k => ?_, upd_ne (hd0 _ dT), hGk q hq (hd0 _ dP) (hd0 _ dL)]
    rcases List.mem_cons.1 k with k | k
    · exact hd0 .wmap trivial k
    · exact hn (Or.inr k)
theorem set_pids {ps : List PD} {i : Nat} {p p' : PD} (hp : ps[i]? = some p) (h : p'.pid = p.pid) : (ps.set i p').map (·.pid) = ps.map (·.pid) := by
  refine List.ext_getElem? fun j => ?_
  rw [List.getElem?_map, List.getElem?_map, List.getElem?_set]
  by_cases e : i = j
  · subst e
    have := (List.getElem?_eq_some_iff.1 hp).1
    rw [if_pos rfl, if_pos this, hp]; simp [h]
  · rw [if_neg e]
theorem cutW_keyN {W : List LE} (h : (W.map (·.key)).Nodup) (a : Int) : ((cutW W a).map (·.key)).Nodup := by
  unfold cutW
  refine List.Nodup.sublist ((List.eraseP_sublist).map _) ?_
  rw [cutG_keys]; exact h
theorem cutW_len (W : List LE) (a : Int) : (cutW W a).length ≤ W.length := by
  unfold cutW
  refine Nat.le_trans (List.eraseP_sublist.length_le) ?_
  have := congrArg List.length (cutG_keys a (sorted (toW W a)) W)
  simp at this; omega
theorem MachOK.ended {D : MD} (ok : MachOK D) {i : Nat} {p : PD} (hp : D.ps[i]? = some p) (r : Int × Int) : MachOK (endD D i p r) := by
  have hpm : p ∈ D.ps := List.mem_of_getElem? hp
  refine ⟨ok.mod, fun q hq => ?_, fun q hq => ?_, ok.tab.free _, cutW_keyN ok.wk _, Nat.le_trans (cutW_len _ _) ok.wl, ?_, fun q hq => ?_⟩
  · rcases List.mem_or_eq_of_mem_set hq with k | k
    · exact ok.stk q k
    · subst k; exact ok.stk p hpm
  · rcases List.mem_or_eq_of_mem_set hq with k | k
    · exact ok.box q k
    · subst k; exact ok.box p hpm
  · show ((D.ps.set i (endP p r)).map (·.pid)).Nodup
    rw [set_pids (p' := endP p r) hp rfl]; exact ok.pidU
  · rcases List.mem_or_eq_of_mem_set hq with k | k
    · exact ok.pid64 q k
    · subst k; exact ok.pid64 p hpm
theorem KeepM.trans {n n1 : Nat} {nm : Role → Nat} {D D1 : MD} {η η1 η2 : AHeap} (h1 : KeepM n nm D η η1) (h2 : KeepM n1 nm D1 η1 η2) (hn : n ≤ n1) (hi : ∀ q, InM nm D1 q → InM nm D q) : KeepM n nm D η η2 := fun q hq hk => by
  rw [h2 q (by omega) fun k => hk (hi q k), h1 q hq hk]
theorem InM.ended {nm : Role → Nat} {D : MD} {i : Nat} {p : PD} {r : Int × Int} {q : Nat} (h : InM nm (endD D i p r) q) : InM nm D q := by
  rcases h with ⟨ρ, h1, h2⟩ | h
  · refine Or.inl ⟨ρ, ?_, h2⟩
    simpa [endD] using h1
  · exact Or.inr (cutW_nms h)
end Go.Proofs.YtbomkomipaipmaaGreat
namespace Go.Proofs.YtbomkomipaipmaaGreat
set_option maxRecDepth 100000

def Alive (ps : List PD) (b : Int) : Prop := ∃ (j : Nat) (q : PD), ps[j]? = some q ∧ q.dead = false ∧ q.pid = b
def endPid (D : MD) (b : Int) (r : Int × Int) : MD := match atP D.ps b with
  | some j => match D.ps[j]? with
    | some q => endD D j q r
    | none => D
  | none => D
noncomputable def fallD (D : MD) (i : Nat) (p : PD) (r : Int × Int) : MD := if r.1 = 0 then endD D i p r else (fallL D.W p.pid).foldl (fun D b => endPid D b (6, 0)) (endD D i p r)
theorem fallL_mem {W : List LE} {a b : Int} (h : b ∈ fallL W a) : b ≠ a ∧ Reach W a b := by
  unfold fallL at h
  split at h
  · rename_i hx; exact (hx.choose_spec.2 b).1 h
  · simp at h
theorem fallL_lt (W : List LE) (a : Int) : (fallL W a).Pairwise (· < ·) := by
  unfold fallL
  split
  · rename_i hx; exact hx.choose_spec.1
  · exact List.Pairwise.nil
theorem Alive.ended {D : MD} {i : Nat} {p : PD} {r : Int × Int} (hp : D.ps[i]? = some p) {b : Int} (h : Alive D.ps b) (hb : b ≠ p.pid) : Alive (endD D i p r).ps b := by
  obtain ⟨j, q, h1, h2, h3⟩ := h
  refine ⟨j, q, ?_, h2, h3⟩
  show (D.ps.set i _)[j]? = _
  rw [List.getElem?_set, if_neg fun e => ?_, h1]
  subst e
  rw [hp] at h1; cases h1
  exact hb h3.symm
theorem endPid_alive {D : MD} (ok : MachOK D) {b : Int} (h : Alive D.ps b) (r : Int × Int) : ∃ j q, atP D.ps b = some j ∧ D.ps[j]? = some q ∧ q.dead = false ∧ q.pid = b ∧ endPid D b r = endD D j q r := by
  obtain ⟨j, q, h1, h2, h3⟩ := h
  have := atP_eq ok.pidU h1 h2
  rw [h3] at this
  exact ⟨j, q, this, h1, h2, h3, by simp only [endPid, this, h1]⟩
/-- the machine stands as it did, whatever is made -/
theorem MachAt.grow {η η' : AHeap} {n n' : Nat} {nm : Role → Nat} {D : MD} (h : MachAt η n nm D) (hk : ∀ q, InM nm D q → η' q = η q) (hn : n ≤ n') : MachAt η' n' nm D := by
  have hr : ∀ ρ, dom D.ps.length ρ → η' (nm ρ) = η (nm ρ) := fun ρ hρ => hk _ (Or.inl ⟨ρ, hρ, rfl⟩)
  have hdom : ∀ ρ o, objOf nm D ρ = some o → dom D.ps.length ρ := fun ρ o ho => by
    cases ρ with
    | proc j =>
      simp only [objOf] at ho
      cases hx : D.ps[j]? with
      | none => rw [hx] at ho; cases ho
      | some x => exact (List.getElem?_eq_some_iff.1 hx).1
    | orow j =>
      simp only [objOf] at ho
      cases hx : D.ps[j]? with
      | none => rw [hx] at ho; cases ho
      | some x => exact (List.getElem?_eq_some_iff.1 hx).1
    | box j => cases ho
    | brow j => cases ho
    | _ => trivial
  refine ⟨fun ρ o ho => (hr ρ (hdom ρ o ho)).trans (h.obj ρ o ho), fun i p hp => ?_, h.web.cong (hr .web trivial) (hr .wmap trivial) fun e he => hk _ (Or.inr (List.mem_map.2 ⟨e, he, rfl⟩)), h.inj, h.wnm, fun ρ hρ => Nat.lt_of_lt_of_le (h.lt ρ hρ) hn⟩
  have hi : i < D.ps.length := (List.getElem?_eq_some_iff.1 hp).1
  exact (h.bx i p hp).cong (hr (.box i) hi) (hr (.brow i) hi)
theorem MachAt.inlt {η : AHeap} {n : Nat} {nm : Role → Nat} {D : MD} (h : MachAt η n nm D) (hf : ∀ k, n ≤ k → η k = none) {q : Nat} (hq : InM nm D q) : q < n := by
  rcases hq with ⟨ρ, h1, rfl⟩ | hq
  · exact h.lt ρ h1
  · obtain ⟨e, he, rfl⟩ := List.mem_map.1 hq
    rcases Nat.lt_or_ge e.nm n with k | k
    · exact k
    · have := h.web.inn e he; rw [hf _ k] at this; cases this
set_option maxHeartbeats 4000000 in
theorem mfall_ac {η : AHeap} {n : Nat} {nm : Role → Nat} {D : MD} (h : MachAt η n nm D) (ok : MachOK D) {i : Nat} {p : PD} (hp : D.ps[i]? = some p) (hd : p.dead = false) (r : Int × Int) (hl : ∀ b, Reach D.W p.pid b → Alive D.ps b) :
    AC Tryz.prog 160 [.ptr (nm .mach) 0 0, .ptr (nm (.proc i)) 0 0, .agg [.int .i64 r.1, .int .i64 r.2]] η n (fun _ η' n' => MachAt η' n' nm (fallD D i p r) ∧ MachOK (fallD D i p r) ∧ KeepM n nm D η η' ∧ n ≤ n' ∧ ∀ q, InM nm (fallD D i p r) q → InM nm D q) := by
  have hm := h.mach
  have hq := h.proc hp
  have hi : i < D.ps.length := (List.getElem?_eq_some_iff.1 hp).1
  have l1 := h.lt .mach trivial
  have l2 := h.lt (.proc i) hi
  refine AC.fresh fun hf => ?_; refine AC.enter Tryz.func160 rfl Tryz.ntmps160 (by simp) ?_
  have z1 : ¬ nm .mach = n := by omega
  have z2 : ¬ nm (.proc i) = n := by omega
  simp
  refine drawK.intro mixed [(0, []), (1, []), (2, []), (3, []), (4, []), (5, []), (6, []), (7, []), (8, []), (9, []), (10, [])] (by kernel_rfl) ?_
  simp [aload, apart, afield, upd_apply, hm, hq, machC, procC, z1, z2]
  obtain ⟨H, hH⟩ : ∃ H, H = upd η n (some (.cells 2 [[.int .i64 r.1, .int .i64 r.2]])) := ⟨_, rfl⟩
  have hHk : ∀ q, q < n → H q = η q := fun q hq => by rw [hH, upd_ne (by omega)]
  have hHn : H n = some (.cells 2 [[.int .i64 r.1, .int .i64 r.2]]) := by rw [hH]; exact upd_eq _ _ _
  have h1 : MachAt H (n + 1) nm D := h.grow (fun q hq => hHk q (h.inlt hf hq)) (by omega)
  rw [← hH]
  clear hH
  have hFL : ∀ b ∈ fallL D.W p.pid, b ≠ p.pid ∧ Alive D.ps b := fun b hb => ⟨(fallL_mem hb).1, hl b (fallL_mem hb).2⟩
  refine ACK.rt (fall_ac h1.web ok.wl p.pid) ?_
  simp [aload, apart, hHn]
  refine ACK.use (end_ac h1 ok hp hd r).freshP ?_
  intro v η1 n1 ⟨⟨e1, e2, e3⟩, hf1⟩
  have hH1 : η1 n = some (.cells 2 [[.int .i64 r.1, .int .i64 r.2]]) := by rw [e2 n (by omega) fun k => by have := h.inlt hf k; omega]; exact hHn
  have ok1 := ok.ended hp r
  simp [aload, apart, afield, hH1]
  refine CondP.dec (fun hc => ?_) (fun hc => ?_)
  · simp
    refine resK.rt ?_
    have e : fallD D i p r = endD D i p r := by unfold fallD; rw [if_pos hc]
    rw [e]
    exact ⟨e1, ok1, fun q hq hk => by rw [e2 q (by omega) hk, hHk q hq], by omega, fun q hq => hq.ended⟩
  · have e : fallD D i p r = (fallL D.W p.pid).foldl (fun D b => endPid D b (6, 0)) (endD D i p r) := by unfold fallD; rw [if_neg hc]
    rw [e]
    have hlt := fallL_lt D.W p.pid
    have hlen8 : (fallL D.W p.pid).length ≤ 1000000 := by
      have h1 := univ_len h.web ok.wl p.pid
      have h2 : (fallL D.W p.pid).Nodup := (fallL_lt _ _).imp fun {a b} h => by omega
      have h3 := h2.length_le_of_subset (l₂ := univ D.W p.pid) (fun b hb => reach_univ (fallL_mem hb).2)
      omega
    generalize fallL D.W p.pid = L at hFL hlt hlen8
    have hnd : L.Nodup := hlt.imp fun {a b} h => by omega
    simp
    refine loopK.inv [8, 28, 29, 30, 31, 32, 33, 34, 35, 36, 37, 38, 39, 40, 41] (fun s : Nat × AHeap × Nat × MD => s.1 ≤ L.length ∧ s.2.2.2 = (L.take s.1).foldl (fun D b => endPid D b (6, 0)) (endD D i p r) ∧ MachAt s.2.1 s.2.2.1 nm s.2.2.2 ∧ MachOK s.2.2.2 ∧ KeepM n nm D η s.2.1 ∧ n ≤ s.2.2.1 ∧ (∀ q, InM nm s.2.2.2 q → InM nm D q) ∧ ∀ b ∈ L.drop s.1, Alive s.2.2.2.ps b) (fun s => [(28, .int .i64 s.1)]) (fun s => s.2.1) (fun s => s.2.2.1) (fun s => L.length - s.1) (0, η1, n1, endD D i p r) ⟨by simp, rfl, e1, ok1, fun q hq hk => by show η1 q = η q; rw [e2 q (by omega) hk, hHk q hq], by simp only; omega, fun q hq => hq.ended, fun b hb => (hFL b (by simpa using hb)).2.ended hp (hFL b (by simpa using hb)).1⟩ (by simp) (AHeap.le_rfl _) (Nat.le_refl _) ?_
    intro ⟨k, η2, n2, D2⟩ ⟨j1, j2, j3, j4, j5, j6, j7, j8⟩
    simp only at j1 j2 j3 j4 j5 j6 j7 j8
    simp
    refine CondP.dec (fun hk => ?_) (fun hk => ?_)
    · have hk' : k < L.length := by omega
      have ewk : IntKind.i64.wrap ((k : Int) + 1) = (k : Int) + 1 := wrap_id (by omega) (by omega)
      have hdrop : L.drop k = L[k] :: L.drop (k + 1) := List.drop_eq_getElem_cons hk'
      obtain ⟨j, q, a1, a2, a3, a4, a5⟩ := endPid_alive j4 (j8 L[k] (hdrop ▸ List.mem_cons_self)) (6, 0)
      have elook := lookLv j3 L[k]
      rw [a1] at elook
      simp only at elook
      have hm2 := j3.mach
      simp [hk, aload, apart, afield, aindex, hm2, machC, elook, abuild, aplace, afillP]
      refine ACK.use (end_ac j3 j4 a2 a3 (6, 0)) ?_
      intro v η3 n3 ⟨c1, c2, c3⟩
      simp [ewk]
      refine endK.intro (k + 1, η3, n3, endD D2 j q (6, 0)) ⟨by simp only; omega, ?_, c1, j4.ended a2 _, j5.trans c2 j6 j7, by simp only; omega, fun x hx => j7 x hx.ended, fun b hb => ?_⟩ (by simp) (by repeat (first | exact Agree.mask _ _ | refine Agree.setf rfl ?_ | refine Agree.inner rfl ?_)) (AHeap.le_rfl _) (Nat.le_refl _) (show L.length - (k + 1) < L.length - k by omega)
      · simp only
        rw [List.take_succ_eq_append_getElem hk', List.foldl_append, ← j2]
        simp only [List.foldl_cons, List.foldl_nil]
        exact a5.symm
      · refine (j8 b (by rw [hdrop]; exact List.mem_cons_of_mem _ hb)).ended a2 ?_
        rw [a4]
        have := (List.nodup_cons.1 (hdrop ▸ hnd.sublist (List.drop_sublist k L))).1
        exact fun e => this (e ▸ hb)
    · simp [hk]
      have e9 : L.take k = L := List.take_of_length_le (by omega)
      rw [e9] at j2
      refine resK.rt ?_
      rw [← j2]
      exact ⟨j3, j4, j5, j6, j7⟩
end Go.Proofs.YtbomkomipaipmaaGreat
namespace Go.Proofs.YtbomkomipaipmaaGreat
set_option maxRecDepth 100000

theorem nowNil_ac {η : AHeap} {n : Nat} : AC Tryz.prog 32 [.nilp] η n (Rt (.int .i64 0) η n) := by
  refine AC.enter Tryz.func32 rfl Tryz.ntmps32 (by simp) ?_
  simp
  exact resK.rt ⟨rfl, rfl, rfl⟩
theorem now_ac {η : AHeap} {n : Nat} {nm : Role → Nat} {D : MD} (h : MachAt η n nm D) : AC Tryz.prog 32 [.ptr (nm .mach) 0 0] η n (Rt (.int .i64 D.now) η n) := by
  have hm := h.mach
  refine AC.enter Tryz.func32 rfl Tryz.ntmps32 (by simp) ?_
  simp [aload, apart, afield, hm, machC]
  exact resK.rt ⟨rfl, rfl, rfl⟩
theorem tickNil_ac {η : AHeap} {n : Nat} : AC Tryz.prog 17 [.nilp] η n (Rt .nils η n) := by
  refine AC.enter Tryz.func17 rfl Tryz.ntmps17 (by simp) ?_
  simp
  exact resK.rt ⟨rfl, rfl, rfl⟩
theorem liveNil_ac {η : AHeap} {n : Nat} : AC Tryz.prog 15 [.nilp] η n (Rt .nils η n) := by
  refine AC.enter Tryz.func15 rfl Tryz.ntmps15 (by simp) ?_
  simp
  exact resK.rt ⟨rfl, rfl, rfl⟩
theorem allNil_ac {η : AHeap} {n : Nat} : AC Tryz.prog 22 [.nilp] η n (Rt .nils η n) := by
  refine AC.enter Tryz.func22 rfl Tryz.ntmps22 (by simp) ?_
  simp
  exact resK.rt ⟨rfl, rfl, rfl⟩
theorem endNil_ac {η : AHeap} {n : Nat} : AC Tryz.prog 37 [.nilp] η n (Rt (.int .i64 0) η n) := by
  refine AC.enter Tryz.func37 rfl Tryz.ntmps37 (by simp) ?_
  simp
  exact resK.rt ⟨rfl, rfl, rfl⟩
theorem doNil_ac {η : AHeap} {n : Nat} (pid : Int) : AC Tryz.prog 19 [.nilp, .int .i64 pid] η n (Rt (.tup [.nils, .int .i64 1]) η n) := by
  refine AC.enter Tryz.func19 rfl Tryz.ntmps19 (by simp) ?_
  simp
  exact resK.rt ⟨rfl, rfl, rfl⟩
set_option maxHeartbeats 1000000 in
theorem runnableNil_ac {η : AHeap} {n : Nat} (pid : Int) : AC Tryz.prog 16 [.nilp, .int .i64 pid] η n (Rt (.bool false) η n) := by
  refine AC.enter Tryz.func16 rfl Tryz.ntmps16 (by simp) ?_
  simp
  exact resK.rt ⟨rfl, rfl, rfl⟩
def runnableP (D : MD) (pid : Int) : Bool := match atP D.ps pid with
  | some i => match D.ps[i]? with
    | some p => readyP D p
    | none => false
  | none => false
set_option maxHeartbeats 1000000 in
theorem runnable_ac {η : AHeap} {n : Nat} {nm : Role → Nat} {D : MD} (h : MachAt η n nm D) (ok : MachOK D) (pid : Int) : AC Tryz.prog 16 [.ptr (nm .mach) 0 0, .int .i64 pid] η n (Rt (.bool (runnableP D pid)) η n) := by
  have hm := h.mach
  have hL := lookLv h pid
  unfold runnableP
  cases ha : atP D.ps pid with
  | none =>
    rw [ha] at hL
    simp only at hL
    refine AC.enter Tryz.func16 rfl Tryz.ntmps16 (by simp) ?_
    simp [aload, apart, afield, hm, machC, hL]
    refine ACK.rt ready_nil_ac ?_
    simp
    exact resK.rt ⟨rfl, rfl, rfl⟩
  | some i =>
    rw [ha] at hL
    simp only at hL
    obtain ⟨p, hp, _, _⟩ := atP_some ha
    have hr := mready_ac h ok hp
    simp only [hp]
    refine AC.enter Tryz.func16 rfl Tryz.ntmps16 (by simp) ?_
    simp [aload, apart, afield, hm, machC, hL]
    refine ACK.rt hr ?_
    simp
    exact resK.rt ⟨rfl, rfl, rfl⟩
end Go.Proofs.YtbomkomipaipmaaGreat
namespace Go.Proofs.YtbomkomipaipmaaGreat
set_option maxRecDepth 100000

def LvI (η : AHeap) (n t : Nat) (pre : List (List AVal)) (η' : AHeap) (n' : Nat) : Prop :=
  η.le η' ∧ n + 2 < n' ∧ η' (n + 1) = some (.cells 1 [[.ptr t 0 0]]) ∧ ∃ l : List Int, pre = rowI l ∧ ∃ lv, η' n = some (.cells 1 [[lv]]) ∧ ((lv = .nils ∧ l = []) ∨ ∃ g, lv = .sl g 0 l.length ∧ n + 2 < g ∧ g < n' ∧ η' g = some (.cells 1 (ints l)))
theorem rowI_inj {l l' : List Int} (h : rowI l = rowI l') : l = l' := (List.map_inj_right (fun x y h => by simpa using h)).1 h
set_option maxHeartbeats 4000000 in
theorem live_ac {η : AHeap} {n : Nat} {nm : Role → Nat} {D : MD} (h : MachAt η n nm D) (ok : MachOK D) (h32 : (allP D.tab.sl 0).length ≤ 1000) : AC Tryz.prog 15 [.ptr (nm .mach) 0 0] η n (Rt (.rs 1 (ints (sorted (allP D.tab.sl 0)))) η n) := by
  refine AC.gl (by simp; unfold lenMax; omega) ?_
  have hm := h.mach
  have hT := h.obj .pids _ rfl
  have l1 := h.lt .mach trivial
  have l2 := h.lt .pids trivial
  refine AC.fresh fun hf => ?_; refine AC.enter Tryz.func15 rfl Tryz.ntmps15 (by simp) ?_
  have z0 : ¬ nm .mach = n := by omega
  have hfr : ∀ r, n ≤ r → η r = none := hf
  have f0 : η n = none := hf n (Nat.le_refl _)
  have f1 : η (n + 1) = none := hf _ (by omega)
  have f2 : η (n + 2) = none := hf _ (by omega)
  simp [aload, apart, afield, upd_apply, hm, machC, z0]
  refine ACK.use pall_ac ?_
  intro v η1 n1 ⟨e1, e2, e3⟩
  subst e1 e2 e3
  simp [-rangeFK_func]
  have hold : ∀ r o, η r = some o → r < n := fun r o hr => by
    rcases Nat.lt_or_ge r n with h | h
    · exact h
    · rw [hf r h] at hr; cases hr
  refine rangeF.run (rowI (allP D.tab.sl 0)) (fun η' => η' (n + 1) = some (.cells 1 [[.ptr (nm .pids) 0 0]]) ∧ η' (nm .pids) = some (tabO D.tab)) (LvI η n (nm .pids)) (by simp) rfl rfl (fun x hx => by
      obtain ⟨y, _, rfl⟩ := List.mem_map.1 hx; rfl) (pall_iter ok.tab.ok.g) ?_ ?_ ?_ ?_ ?_ ?_
  · intro pre η1 n1 η2 n2 ⟨k1, k2, k3, l, k6, lv, k4, k5⟩ hle hn
    refine ⟨fun r o hr => hle _ _ (k1 r o hr), by omega, hle _ _ k3, l, k6, lv, hle _ _ k4, ?_⟩
    rcases k5 with k5 | ⟨g, k5, k6, k7, k8⟩
    · exact Or.inl k5
    · exact Or.inr ⟨g, k5, k6, by omega, hle _ _ k8⟩
  · intro pre η1 n1 ⟨k1, k2, k3, l, k6, lv, k4, k5⟩
    refine ⟨fun r o hr => ?_, k2, ?_, l, k6, lv, ?_, ?_⟩
    · have : r ≠ n + 2 := fun e => by rw [e, f2] at hr; cases hr
      rw [upd_ne this]; exact k1 r o hr
    · rw [upd_ne (by omega)]; exact k3
    · rw [upd_ne (by omega)]; exact k4
    · rcases k5 with k5 | ⟨g, k5, k6, k7, k8⟩
      · exact Or.inl k5
      · exact Or.inr ⟨g, k5, k6, k7, by rw [upd_ne (by omega)]; exact k8⟩
  · intro pre η1 n1 ⟨k1, k2, k3, _⟩
    exact ⟨k3, k1 _ _ hT⟩
  · refine ⟨?_, by omega, upd_eq _ _ _, [], rfl, .nils, by rw [upd_ne (by omega), upd_eq], Or.inl ⟨rfl, rfl⟩⟩
    exact le_upd (le_upd (AHeap.le_rfl _) f0) f1
  · intro pre x rest hx η1 n1 ⟨k1, k2, k3, l, k6, lv, k4, k5⟩
    subst k6
    have hlen : l.length < 1000 := by
      have := congrArg List.length hx
      simp [rowI] at this; omega
    obtain ⟨k, rfl⟩ : ∃ k : Int, x = [.int .i64 k] := by
      have : x ∈ rowI (allP D.tab.sl 0) := by rw [hx]; simp
      obtain ⟨k, _, rfl⟩ := List.mem_map.1 this
      exact ⟨k, rfl⟩
    have y0 : ¬ n = n1 := by omega
    have y1 : ¬ n1 = n := by omega
    have y2 : ∀ k, ¬ n = n1 + k := fun k => by omega
    have y4 : ∀ k, ¬ n1 + k = n := fun k => by omega
    have hb1 : (l.length + 1) * 8 ≤ 140737488355328 := by omega
    have hb2 : l.length + 1 ≤ 17592186044416 := by omega
    have erow : rowI l ++ [[.int .i64 k]] = rowI (l ++ [k]) := by simp [rowI]
    have eints : ints (l ++ [k]) = ints l ++ [[.int .i64 k]] := by simp [ints]
    have etk : List.take l.length (ints l) = ints l := List.take_of_length_le (by simp)
    rcases k5 with ⟨rfl, rfl⟩ | ⟨g, rfl, k6, k7, k8⟩
    · simp [setPs, astore, upd_apply, Nat.add_assoc, aload, apart, y0, y2, k4, abuildS, afillP, tek, chunk, appK, aappend, arows, lenMax]
      refine ⟨fun r o hr => ?_, by omega, ?_, [k], erow, .sl (n1 + 1) 0 1, by simp [upd_apply], Or.inr ⟨n1 + 1, rfl, by omega, by omega, ?_⟩⟩
      · have := hold r o hr
        simp only [upd_apply]
        repeat rw [if_neg (by omega)]
        exact k1 r o hr
      · simp only [upd_apply]
        repeat rw [if_neg (by omega)]
        exact k3
      · simp [upd_apply, y4, ints]
    · have y5 : ¬ g = n1 := by omega
      have y6 : ∀ k, ¬ g = n1 + k := fun k => by omega
      have y7 : ¬ n1 = g := by omega
      have y8 : ∀ k, ¬ n1 + k = g := fun k => by omega
      have y9 : ¬ n = g := by omega
      have y10 : ¬ g = n := by omega
      simp [setPs, astore, upd_apply, Nat.add_assoc, aload, apart, y0, y2, y5, y9, k4, k8, abuildS, afillP, tek, chunk, appK, aappend, arows, lenMax, hb1, hb2, etk]
      refine ⟨fun r o hr => ?_, by omega, ?_, l ++ [k], erow, .sl (n1 + 1) 0 (l.length + 1), by simp [upd_apply], Or.inr ⟨n1 + 1, by simp, by omega, by omega, ?_⟩⟩
      · have := hold r o hr
        simp only [upd_apply]
        repeat rw [if_neg (by omega)]
        exact k1 r o hr
      · simp only [upd_apply]
        repeat rw [if_neg (by omega)]
        exact k3
      · simp [upd_apply, y4]
        exact eints.symm
  · intro η1 n1 ⟨k1, k2, k3, l, k6, lv, k4, k5⟩
    have := rowI_inj k6
    rw [this] at h32 ⊢
    clear this k6
    have fin : ∀ (H : AHeap) (n1 : Nat) (v : AVal), η.le H → FL n H v (sorted l) → resK (some v) ⟨fun _ => .undef, 0, H, n1⟩ (fun v η' _ => FL n η' v (sorted l) ∧ ∀ r, r < n → η' r = η r) .mk := fun H n1 v h1 h2 => by
      refine resK.of (η' := restr n η H) (fun q o hq => ?_) _ (Nat.le_refl _) ⟨?_, fun q hq => by simp [restr, hq]⟩
      · unfold restr at hq
        split at hq
        · exact h1 q o hq
        · exact hq
      · rcases h2 with e1 | e1 | ⟨g, o, I, J, c1, c2, c3, c4⟩
        · exact Or.inl e1
        · exact Or.inr (Or.inl e1)
        · exact Or.inr (Or.inr ⟨g, o, I, J, c1, c2, c3, by
            have : ¬ g < n := by omega
            simp [restr, this, c4]⟩)
    rcases k5 with ⟨rfl, rfl⟩ | ⟨g, rfl, k6, k7, k8⟩
    · simp [aload, apart, k4]
      refine ACK.use (sort_nil_ac _ _) ?_
      intro v' η2 n2 ⟨e1, e2⟩
      subst e1 e2
      simp [aload, apart, k4]
      exact fin _ _ _ k1 (Or.inr (Or.inl ⟨rfl, by simp [sorted]⟩))
    · simp [aload, apart, k4]
      refine ACK.use (sort_ac k8 (by simp) (by unfold lenMax; omega)) ?_
      intro v' η2 n2 ⟨e1, e2⟩
      subst e1 e2
      have y9 : n ≠ g := by omega
      simp [aload, apart, upd_ne y9, k4]
      refine fin _ _ _ (fun r o hr => ?_) (FL.own (by omega) (by simp) (by simp [upd_eq]))
      have := hold r o hr
      rw [upd_ne (by omega)]; exact k1 r o hr
end Go.Proofs.YtbomkomipaipmaaGreat
namespace Go.Proofs.YtbomkomipaipmaaGreat
set_option maxRecDepth 100000

/-- a machine goes on: where it stands now, and what of it stays -/
structure Nx (η : AHeap) (n : Nat) (nm : Role → Nat) (D : MD) (η' : AHeap) (n' : Nat) (nm' : Role → Nat) (D' : MD) : Prop where
  at' : MachAt η' n' nm' D'
  keep : KeepM n nm D η η'
  le : n ≤ n'
  own : ∀ q, InM nm' D' q → InM nm D q ∨ n ≤ q
  mach : nm' .mach = nm .mach
  proc : ∀ i, i < D.ps.length → nm' (.proc i) = nm (.proc i)
  box : ∀ i, i < D.ps.length → nm' (.box i) = nm (.box i)
  len : D.ps.length ≤ D'.ps.length
theorem Nx.rfl' {η : AHeap} {n : Nat} {nm : Role → Nat} {D : MD} (h : MachAt η n nm D) : Nx η n nm D η n nm D := ⟨h, fun _ _ _ => rfl, Nat.le_refl _, fun _ h => Or.inl h, rfl, fun _ _ => rfl, fun _ _ => rfl, Nat.le_refl _⟩
theorem Nx.trans {η η1 η2 : AHeap} {n n1 n2 : Nat} {nm nm1 nm2 : Role → Nat} {D D1 D2 : MD} (a : Nx η n nm D η1 n1 nm1 D1) (b : Nx η1 n1 nm1 D1 η2 n2 nm2 D2) : Nx η n nm D η2 n2 nm2 D2 := by
  refine ⟨b.at', fun q hq hk => ?_, Nat.le_trans a.le b.le, fun q hq => ?_, b.mach.trans a.mach, fun i hi => ?_, fun i hi => ?_, Nat.le_trans a.len b.len⟩
  · have := a.le
    rw [b.keep q (by omega) fun k => ?_, a.keep q hq hk]
    rcases a.own q k with k | k
    · exact hk k
    · omega
  · rcases b.own q hq with k | k
    · exact a.own q k
    · have := a.le; exact Or.inr (by omega)
  · rw [b.proc i (Nat.lt_of_lt_of_le hi a.len), a.proc i hi]
  · rw [b.box i (Nat.lt_of_lt_of_le hi a.len), a.box i hi]
/-- what is made beside it -/
theorem Nx.beside {η η' : AHeap} {n n' : Nat} {nm : Role → Nat} {D : MD} (h : MachAt η n nm D) (hf : ∀ k, n ≤ k → η k = none) (hk : ∀ q, q < n → η' q = η q) (hn : n ≤ n') : Nx η n nm D η' n' nm D :=
  ⟨h.grow (fun q hq => hk q (h.inlt hf hq)) hn, fun q hq _ => hk q hq, hn, fun _ h => Or.inl h, rfl, fun _ _ => rfl, fun _ _ => rfl, Nat.le_refl _⟩
theorem Nx.beside2 {η η1 η' : AHeap} {n n1 n' : Nat} {nm nm1 : Role → Nat} {D D1 : MD} (a : Nx η n nm D η1 n1 nm1 D1) (hk : ∀ q, InM nm1 D1 q → η' q = η1 q) (hk2 : ∀ q, q < n → η' q = η1 q) (hn : n1 ≤ n') : Nx η n nm D η' n' nm1 D1 :=
  ⟨a.at'.grow hk hn, fun q hq h => by rw [hk2 q hq, a.keep q hq h], Nat.le_trans a.le hn, a.own, a.mach, a.proc, a.box, a.len⟩
def setNm (nm : Role → Nat) (i o b : Nat) : Role → Nat
  | .orow j => if j = i then o else nm (.orow j)
  | .brow j => if j = i then b else nm (.brow j)
  | ρ => nm ρ
def setD (D : MD) (i : Nat) (p : PD) : MD := { D with ps := D.ps.set i p }
theorem liveL_set : ∀ (ps : List PD) (k i : Nat) (p p' : PD), ps[i]? = some p → p'.pid = p.pid → p'.dead = p.dead → liveL (ps.set i p') k = liveL ps k
  | [], _, _, _, _, h, _, _ => by simp at h
  | q :: ps, k, 0, p, p', h, h1, h2 => by
    simp at h; subst h
    simp [liveL, h1, h2]
  | q :: ps, k, i + 1, p, p', h, h1, h2 => by
    simp at h
    rw [List.set_cons_succ]
    unfold liveL
    rw [liveL_set ps (k + 1) i p p' h h1 h2]
/-- one process changes: its cells, its mailbox, what it told -/
theorem MachAt.setP {η η' : AHeap} {n n' : Nat} {nm : Role → Nat} {D : MD} (h : MachAt η n nm D) (hf : ∀ k, n ≤ k → η k = none) {i : Nat} {p : PD} (hp : D.ps[i]? = some p) (p' : PD) (e1 : p'.pid = p.pid) (e2 : p'.dead = p.dead) {o b : Nat}
    (ho : o = nm (.orow i) ∨ n ≤ o ∧ o < n') (hb : b = nm (.brow i) ∨ n ≤ b ∧ b < n') (hob : o ≠ b)
    (k1 : η' (nm (.proc i)) = some (.cells 14 [procC (setNm nm i o b) i p'])) (k2 : p'.out ≠ [] → η' o = some (.cells 1 (ints p'.out))) (k3 : BoxAt η' (nm (.box i)) p'.box b)
    (k4 : ∀ q, q < n → q ≠ nm (.proc i) → q ≠ nm (.orow i) → q ≠ nm (.box i) → q ≠ nm (.brow i) → η' q = η q) (hn : n ≤ n') : Nx η n nm D η' n' (setNm nm i o b) (setD D i p') := by
  have hi : i < D.ps.length := (List.getElem?_eq_some_iff.1 hp).1
  have hlen : (setD D i p').ps.length = D.ps.length := by simp [setD]
  have hget : ∀ j, j ≠ i → (setD D i p').ps[j]? = D.ps[j]? := fun j hj => by simp only [setD]; rw [List.getElem?_set]; rw [if_neg fun e => hj e.symm]
  have hgi : (setD D i p').ps[i]? = some p' := by simp only [setD]; rw [List.getElem?_set]; simp [hi]
  have hne0 : D.ps ≠ [] := fun e => by rw [e] at hi; simp at hi
  have hne1 : (setD D i p').ps ≠ [] := fun e => by have := congrArg List.length e; rw [hlen] at this; exact hne0 (by simpa using this)
  have dP : dom D.ps.length (.proc i) := hi
  have dO : dom D.ps.length (.orow i) := hi
  have dX : dom D.ps.length (.box i) := hi
  have dR : dom D.ps.length (.brow i) := hi
  have hst : ∀ ρ, dom D.ps.length ρ → ρ ≠ .proc i → ρ ≠ .orow i → ρ ≠ .box i → ρ ≠ .brow i → η' (nm ρ) = η (nm ρ) := fun ρ hρ a1 a2 a3 a4 => k4 _ (h.lt _ hρ) (h.ne hρ dP a1) (h.ne hρ dO a2) (h.ne hρ dX a3) (h.ne hρ dR a4)
  have hnm : ∀ ρ, ρ ≠ .orow i → ρ ≠ .brow i → setNm nm i o b ρ = nm ρ := fun ρ a1 a2 => by
    cases ρ with
    | orow j => simp only [setNm]; rw [if_neg fun e => a1 (by rw [e])]
    | brow j => simp only [setNm]; rw [if_neg fun e => a2 (by rw [e])]
    | _ => rfl
  have hnO : setNm nm i o b (.orow i) = o := by simp [setNm]
  have hnB : setNm nm i o b (.brow i) = b := by simp [setNm]
  have hproc : ∀ j (q : PD), j ≠ i → procC (setNm nm i o b) j q = procC nm j q := fun j q hj => by simp [procC, outV, setNm, hj]
  have hdis : ∀ ρ, dom D.ps.length ρ → ρ ≠ .orow i → nm ρ ≠ o := fun ρ hρ hne e => by
    rcases ho with ho | ho
    · exact h.ne hρ dO hne (e.trans ho)
    · have := h.lt ρ hρ; omega
  have hdis2 : ∀ ρ, dom D.ps.length ρ → ρ ≠ .brow i → nm ρ ≠ b := fun ρ hρ hne e => by
    rcases hb with hb | hb
    · exact h.ne hρ dR hne (e.trans hb)
    · have := h.lt ρ hρ; omega
  have hWlt : ∀ e ∈ D.W, e.nm < n := fun e he => h.inlt hf (Or.inr (List.mem_map.2 ⟨e, he, rfl⟩))
  have hW : ∀ e ∈ D.W, η' e.nm = η e.nm := fun e he => by
    have hin : e.nm ∈ D.W.map (·.nm) := List.mem_map.2 ⟨e, he, rfl⟩
    exact k4 _ (hWlt e he) (fun k => h.wnm _ dP (k ▸ hin)) (fun k => h.wnm _ dO (k ▸ hin)) (fun k => h.wnm _ dX (k ▸ hin)) (fun k => h.wnm _ dR (k ▸ hin))
  have hlive : liveE (setNm nm i o b) (setD D i p').ps = liveE nm D.ps := by
    unfold liveE setD
    rw [liveL_set D.ps 0 i p p' hp e1 e2]
    rfl
  have hob' : ∀ ρ, dom D.ps.length ρ → setNm nm i o b ρ = nm ρ ∨ (ρ = .orow i ∧ setNm nm i o b ρ = o) ∨ (ρ = .brow i ∧ setNm nm i o b ρ = b) := fun ρ _ => by
    by_cases a1 : ρ = .orow i
    · exact Or.inr (Or.inl ⟨a1, by rw [a1, hnO]⟩)
    · by_cases a2 : ρ = .brow i
      · exact Or.inr (Or.inr ⟨a2, by rw [a2, hnB]⟩)
      · exact Or.inl (hnm ρ a1 a2)
  refine ⟨⟨fun ρ v hv => ?_, fun j q hj => ?_, ?_, ?_, ?_, ?_⟩, fun q hq hk => ?_, hn, fun q hq => ?_, rfl, fun _ _ => rfl, fun _ _ => rfl, by rw [hlen]; exact Nat.le_refl _⟩
  · cases ρ with
    | mach =>
      rw [hnm _ (by simp) (by simp), hst .mach trivial (by simp) (by simp) (by simp) (by simp), h.mach, ← hv]
      simp only [objOf, machC, allV, if_neg hne0, if_neg hne1, hlen]
      rfl
    | pids =>
      rw [hnm _ (by simp) (by simp), hst .pids trivial (by simp) (by simp) (by simp) (by simp), h.obj .pids _ rfl, ← hv]; rfl
    | web => cases hv
    | wmap => cases hv
    | all =>
      rw [hnm _ (by simp) (by simp), hst .all trivial (by simp) (by simp) (by simp) (by simp)]
      refine h.obj .all v ?_
      rw [← hv]
      simp only [objOf, if_neg hne0, if_neg hne1, hlen]
      rfl
    | live =>
      rw [hnm _ (by simp) (by simp), hst .live trivial (by simp) (by simp) (by simp) (by simp)]
      refine h.obj .live v ?_
      rw [← hv]
      simp only [objOf, hlive]
    | proc j =>
      rw [hnm _ (by simp) (by simp)]
      by_cases e : j = i
      · subst e
        rw [k1, ← hv]
        simp only [objOf, hgi, Option.map_some]
      · have hv' : objOf nm D (.proc j) = some v := by
          rw [← hv]
          simp only [objOf, hget j e]
          cases D.ps[j]? with
          | none => rfl
          | some q => simp only [Option.map_some, hproc j q e]
        have hj : j < D.ps.length := by
          simp only [objOf] at hv'
          cases hx : D.ps[j]? with
          | none => rw [hx] at hv'; cases hv'
          | some x => exact (List.getElem?_eq_some_iff.1 hx).1
        rw [hst (.proc j) hj (by simpa using e) (by simp) (by simp) (by simp)]
        exact h.obj _ _ hv'
    | box j => cases hv
    | brow j => cases hv
    | orow j =>
      by_cases e : j = i
      · subst e
        rw [hnO]
        simp only [objOf, hgi] at hv
        by_cases hc : p'.out = []
        · rw [if_pos hc] at hv; cases hv
        · rw [if_neg hc] at hv
          rw [k2 hc, hv]
      · have hv' : objOf nm D (.orow j) = some v := by
          rw [← hv]; simp only [objOf, hget j e]
        have hj : j < D.ps.length := by
          rcases Nat.lt_or_ge j D.ps.length with k | k
          · exact k
          · simp only [objOf, List.getElem?_eq_none k] at hv'; cases hv'
        rw [hnm _ (by simpa using e) (by simp), hst (.orow j) hj (by simp) (by simpa using e) (by simp) (by simp)]
        exact h.obj _ _ hv'
  · by_cases e : j = i
    · subst e
      rw [hgi] at hj; cases hj
      rw [hnB, hnm _ (by simp) (by simp)]
      exact k3
    · rw [hget j e] at hj
      have hj' : j < D.ps.length := (List.getElem?_eq_some_iff.1 hj).1
      rw [hnm (.box j) (by simp) (by simp), hnm (.brow j) (by simp) (by simpa using e)]
      exact (h.bx j q hj).cong (hst (.box j) hj' (by simp) (by simp) (by simpa using e) (by simp)) (hst (.brow j) hj' (by simp) (by simp) (by simp) (by simpa using e))
  · rw [hnm _ (by simp) (by simp), hnm _ (by simp) (by simp)]
    exact h.web.cong (hst .web trivial (by simp) (by simp) (by simp) (by simp)) (hst .wmap trivial (by simp) (by simp) (by simp) (by simp)) hW
  · intro ρ ρ' h1 h2 he
    rw [hlen] at h1 h2
    rcases hob' ρ h1 with a | ⟨a, a'⟩ | ⟨a, a'⟩ <;> rcases hob' ρ' h2 with c | ⟨c, c'⟩ | ⟨c, c'⟩
    · exact h.inj ρ ρ' h1 h2 (by rw [← a, ← c]; exact he)
    · by_cases x : ρ = .orow i
      · rw [x, c]
      · exact absurd (a.symm.trans (he.trans c')) (hdis ρ h1 x)
    · by_cases x : ρ = .brow i
      · rw [x, c]
      · exact absurd (a.symm.trans (he.trans c')) (hdis2 ρ h1 x)
    · by_cases x : ρ' = .orow i
      · rw [x, a]
      · exact absurd (c.symm.trans (he.symm.trans a')) (hdis ρ' h2 x)
    · rw [a, c]
    · exact absurd (a'.symm.trans (he.trans c')) hob
    · by_cases x : ρ' = .brow i
      · rw [x, a]
      · exact absurd (c.symm.trans (he.symm.trans a')) (hdis2 ρ' h2 x)
    · exact absurd (c'.symm.trans (he.symm.trans a')) hob
    · rw [a, c]
  · intro ρ h1 hk
    rw [hlen] at h1
    obtain ⟨e, he, hx⟩ := List.mem_map.1 hk
    have hlt := hWlt e he
    rcases hob' ρ h1 with a | ⟨a, a'⟩ | ⟨a, a'⟩
    · exact h.wnm ρ h1 (a ▸ hk)
    · rcases ho with ho | ho
      · exact h.wnm _ dO (by rw [← ho, ← a']; exact hk)
      · omega
    · rcases hb with hb | hb
      · exact h.wnm _ dR (by rw [← hb, ← a']; exact hk)
      · omega
  · intro ρ h1
    rw [hlen] at h1
    have := h.lt ρ h1
    have l2 := h.lt _ dO
    have l3 := h.lt _ dR
    rcases hob' ρ h1 with a | ⟨a, a'⟩ | ⟨a, a'⟩ <;> omega
  · exact k4 q hq (fun e => hk (Or.inl ⟨_, dP, e.symm⟩)) (fun e => hk (Or.inl ⟨_, dO, e.symm⟩)) (fun e => hk (Or.inl ⟨_, dX, e.symm⟩)) (fun e => hk (Or.inl ⟨_, dR, e.symm⟩))
  · rcases hq with ⟨ρ, h1, rfl⟩ | hq
    · rw [hlen] at h1
      rcases hob' ρ h1 with a | ⟨a, a'⟩ | ⟨a, a'⟩
      · exact Or.inl (Or.inl ⟨ρ, h1, a.symm⟩)
      · rcases ho with ho | ho
        · exact Or.inl (Or.inl ⟨_, dO, by rw [a', ho]⟩)
        · right; omega
      · rcases hb with hb | hb
        · exact Or.inl (Or.inl ⟨_, dR, by rw [a', hb]⟩)
        · right; omega
    · exact Or.inl (Or.inr hq)
theorem setNm_same (nm : Role → Nat) (i : Nat) : setNm nm i (nm (.orow i)) (nm (.brow i)) = nm := by
  funext ρ
  cases ρ with
  | orow j => simp only [setNm]; split <;> simp_all
  | brow j => simp only [setNm]; split <;> simp_all
  | _ => rfl
/-- bounds, one process changed -/
theorem MachOK.setP {D : MD} (ok : MachOK D) {i : Nat} {p : PD} (hp : D.ps[i]? = some p) {p' : PD} (e1 : p'.pid = p.pid) (h1 : p'.st.stack.length ≤ lenMax ∧ p'.st.regs.length ≤ lenMax) (h2 : p'.box.length ≤ 16) : MachOK (setD D i p') := by
  have hpm : p ∈ D.ps := List.mem_of_getElem? hp
  refine ⟨ok.mod, fun q hq => ?_, fun q hq => ?_, ok.tab, ok.wk, ok.wl, ?_, fun q hq => ?_⟩
  · rcases List.mem_or_eq_of_mem_set hq with k | k
    · exact ok.stk q k
    · subst k; exact h1
  · rcases List.mem_or_eq_of_mem_set hq with k | k
    · exact ok.box q k
    · subst k; exact h2
  · show ((D.ps.set i p').map (·.pid)).Nodup
    rw [set_pids (p' := p') hp e1]; exact ok.pidU
  · rcases List.mem_or_eq_of_mem_set hq with k | k
    · exact ok.pid64 q k
    · subst k; rw [e1]; exact ok.pid64 p hpm
/-- the processes stay; the clock, the pids, the links may change -/
theorem MachAt.setG {η η' : AHeap} {n n' : Nat} {nm : Role → Nat} {D D' : MD} (h : MachAt η n nm D) (_ : ∀ k, n ≤ k → η k = none) (e1 : D'.ps = D.ps)
    (k1 : η' (nm .mach) = some (.cells 6 [machC nm D'])) (k2 : η' (nm .pids) = some (tabO D'.tab)) (k3 : WebAt η' (nm .web) (nm .wmap) D'.W)
    (k4 : ∀ q, q < n → q ≠ nm .mach → q ≠ nm .pids → q ≠ nm .web → q ≠ nm .wmap → ¬ q ∈ D.W.map (·.nm) → η' q = η q) (k5 : ∀ q ∈ D'.W.map (·.nm), q ∈ D.W.map (·.nm) ∨ n ≤ q) (hn : n ≤ n') : Nx η n nm D η' n' nm D' := by
  have hst : ∀ ρ, dom D.ps.length ρ → ρ ≠ .mach → ρ ≠ .pids → ρ ≠ .web → ρ ≠ .wmap → η' (nm ρ) = η (nm ρ) := fun ρ hρ a1 a2 a3 a4 => k4 _ (h.lt _ hρ) (h.ne hρ (ρ' := .mach) trivial a1) (h.ne hρ (ρ' := .pids) trivial a2) (h.ne hρ (ρ' := .web) trivial a3) (h.ne hρ (ρ' := .wmap) trivial a4) (h.wnm _ hρ)
  have hob : ∀ ρ, ρ ≠ .mach → ρ ≠ .pids → objOf nm D' ρ = objOf nm D ρ := fun ρ a1 a2 => by
    cases ρ with
    | mach => exact absurd rfl a1
    | pids => exact absurd rfl a2
    | _ => simp only [objOf, e1]
  have hdom : ∀ ρ o, objOf nm D ρ = some o → dom D.ps.length ρ := fun ρ o ho => by
    cases ρ with
    | proc j =>
      simp only [objOf] at ho
      cases hx : D.ps[j]? with
      | none => rw [hx] at ho; cases ho
      | some x => exact (List.getElem?_eq_some_iff.1 hx).1
    | orow j =>
      simp only [objOf] at ho
      cases hx : D.ps[j]? with
      | none => rw [hx] at ho; cases ho
      | some x => exact (List.getElem?_eq_some_iff.1 hx).1
    | box j => cases ho
    | brow j => cases ho
    | _ => trivial
  refine ⟨⟨fun ρ o ho => ?_, fun j p hj => ?_, k3, ?_, fun ρ hρ hk => ?_, fun ρ hρ => ?_⟩, fun q hq hk => ?_, hn, fun q hq => ?_, rfl, fun _ _ => rfl, fun _ _ => rfl, by rw [e1]; exact Nat.le_refl _⟩
  · by_cases a1 : ρ = .mach
    · subst a1; rw [k1]; exact ho
    · by_cases a2 : ρ = .pids
      · subst a2; rw [k2]; exact ho
      · rw [hob ρ a1 a2] at ho
        rw [hst ρ (hdom ρ o ho) a1 a2 (fun e => by rw [e] at ho; cases ho) (fun e => by rw [e] at ho; cases ho)]
        exact h.obj ρ o ho
  · rw [e1] at hj
    have hj' : j < D.ps.length := (List.getElem?_eq_some_iff.1 hj).1
    exact (h.bx j p hj).cong (hst (.box j) hj' (by simp) (by simp) (by simp) (by simp)) (hst (.brow j) hj' (by simp) (by simp) (by simp) (by simp))
  · rw [e1]; exact h.inj
  · rw [e1] at hρ
    rcases k5 _ hk with k | k
    · exact h.wnm ρ hρ k
    · have := h.lt ρ hρ; omega
  · rw [e1] at hρ
    have := h.lt ρ hρ; omega
  · exact k4 q hq (fun e => hk (Or.inl ⟨.mach, trivial, e.symm⟩)) (fun e => hk (Or.inl ⟨.pids, trivial, e.symm⟩)) (fun e => hk (Or.inl ⟨.web, trivial, e.symm⟩)) (fun e => hk (Or.inl ⟨.wmap, trivial, e.symm⟩)) fun e => hk (Or.inr e)
  · rcases hq with ⟨ρ, h1, rfl⟩ | hq
    · rw [e1] at h1; exact Or.inl (Or.inl ⟨ρ, h1, rfl⟩)
    · rcases k5 _ hq with k | k
      · exact Or.inl (Or.inr k)
      · exact Or.inr k
end Go.Proofs.YtbomkomipaipmaaGreat
namespace Go.Proofs.YtbomkomipaipmaaGreat
set_option maxRecDepth 100000

structure MInv (D : MD) : Prop where
  tab : TabI D.tab
  pidU : (D.ps.map (·.pid)).Nodup
  used : ∀ p ∈ D.ps, ∃ (k : Nat) (x : Int × Bool) (g : Int), D.tab.sl[k]? = some x ∧ p.pid = pidOf g k ∧ 0 ≤ g ∧ g ≤ x.1 ∧ (p.dead = false ↔ g = x.1) ∧ (g = x.1 → x.2 = true)
  taken : ∀ (k : Nat) (x : Int × Bool), D.tab.sl[k]? = some x → x.2 = true → Alive D.ps (pidOf x.1 k)
  wk : (D.W.map (·.key)).Nodup
  wal : ∀ e ∈ D.W, Alive D.ps e.key
  wsy : ∀ a b, b ∈ toW D.W a → a ∈ toW D.W b
  wnd : ∀ a, (toW D.W a).Nodup
theorem allP_mem : ∀ (l : List (Int × Bool)) (s : Nat) (q : Int), q ∈ allP l s ↔ ∃ k x, l[k]? = some x ∧ x.2 = true ∧ q = pidOf x.1 (s + k)
  | [], s, q => by simp [allP]
  | y :: l, s, q => by
    have ih := allP_mem l (s + 1) q
    have e : (∃ k x, (y :: l)[k]? = some x ∧ x.2 = true ∧ q = pidOf x.1 (s + k)) ↔ (y.2 = true ∧ q = pidOf y.1 s) ∨ ∃ k x, l[k]? = some x ∧ x.2 = true ∧ q = pidOf x.1 (s + 1 + k) := by
      constructor
      · rintro ⟨k, x, h1, h2, h3⟩
        cases k with
        | zero => simp at h1; subst h1; exact Or.inl ⟨h2, h3⟩
        | succ k => refine Or.inr ⟨k, x, by simpa using h1, h2, ?_⟩; rw [h3]; congr 1; omega
      · rintro (⟨h1, h2⟩ | ⟨k, x, h1, h2, h3⟩)
        · exact ⟨0, y, rfl, h1, h2⟩
        · refine ⟨k + 1, x, by simpa using h1, h2, ?_⟩; rw [h3]; congr 1; omega
    rw [e, ← ih]
    show q ∈ (if y.2 = true then pidOf y.1 s :: allP l (s + 1) else allP l (s + 1)) ↔ _
    split
    · rename_i h; simp [h]
    · rename_i h; simp [h]
theorem pidOf_inj {g g' : Int} {k k' : Nat} (h : pidOf g k = pidOf g' k') (hk : k < 32) (hk' : k' < 32) : g = g' ∧ k = k' := by
  unfold pidOf at h; omega
theorem MInv.slt {D : MD} (h : MInv D) {k : Nat} {x : Int × Bool} (hx : D.tab.sl[k]? = some x) : k < 32 := by
  have := (List.getElem?_eq_some_iff.1 hx).1
  have := h.tab.len
  omega
theorem MInv.live {D : MD} (h : MInv D) (q : Int) : q ∈ allP D.tab.sl 0 ↔ Alive D.ps q := by
  rw [allP_mem]
  constructor
  · rintro ⟨k, x, h1, h2, h3⟩
    rw [h3, Nat.zero_add]; exact h.taken k x h1 h2
  · rintro ⟨j, p, h1, h2, h3⟩
    obtain ⟨k, x, g, a1, a2, a3, a4, a5, a6⟩ := h.used p (List.mem_of_getElem? h1)
    have e := a5.1 h2
    exact ⟨k, x, a1, a6 e, by rw [← h3, a2, e, Nat.zero_add]⟩
theorem allP_nd : ∀ (l : List (Int × Bool)) (s : Nat), s + l.length ≤ 32 → (allP l s).Nodup
  | [], s, _ => by simp [allP]
  | y :: l, s, h => by
    have ih := allP_nd l (s + 1) (by simp at h; omega)
    unfold allP
    split
    · refine List.nodup_cons.2 ⟨fun hm => ?_, ih⟩
      obtain ⟨k, x, h1, _, h3⟩ := (allP_mem l (s + 1) _).1 hm
      have := (List.getElem?_eq_some_iff.1 h1).1
      simp at h
      have := pidOf_inj h3 (by omega) (by omega)
      omega
    · exact ih
theorem allP_len : ∀ (l : List (Int × Bool)) (s : Nat), (allP l s).length ≤ l.length
  | [], s => by simp [allP]
  | y :: l, s => by
    have := allP_len l (s + 1)
    unfold allP
    split <;> simp <;> omega
theorem MInv.pos {D : MD} (h : MInv D) {p : PD} (hp : p ∈ D.ps) : 1 ≤ p.pid ∧ p.pid ≤ 33554464 := by
  obtain ⟨k, x, g, a1, a2, a3, a4, a5, a6⟩ := h.used p hp
  have := h.slt a1
  have := (h.tab.gen x (List.mem_of_getElem? a1)).2.1
  rw [a2]; unfold pidOf; omega
theorem MInv.walive {D : MD} (h : MInv D) {a b : Int} (hb : b ∈ toW D.W a) : Alive D.ps b := by
  have := h.wsy a b hb
  unfold toW at this
  cases hl : lkOf D.W b with
  | none => rw [hl] at this; simp at this
  | some e =>
    obtain ⟨h1, h2⟩ := lkOf_mem hl
    rw [← h2]; exact h.wal e h1
theorem MInv.reach {D : MD} (h : MInv D) {a b : Int} (ha : Alive D.ps a) (hb : Reach D.W a b) : Alive D.ps b := by
  cases hb with
  | refl => exact ha
  | step _ hc => exact h.walive hc
theorem MInv.wl {D : MD} (h : MInv D) : D.W.length ≤ 32 := by
  have h1 : (D.W.map (·.key)).length ≤ (allP D.tab.sl 0).length := h.wk.length_le_of_subset fun q hq => by
    obtain ⟨e, he, rfl⟩ := List.mem_map.1 hq
    exact (h.live _).2 (h.wal e he)
  have h2 := allP_len D.tab.sl 0
  have h3 := h.tab.len
  simp at h1; omega
theorem MInv.ok {D : MD} (h : MInv D) (hm : ModS D.m) (hs : ∀ p ∈ D.ps, p.st.stack.length ≤ lenMax ∧ p.st.regs.length ≤ lenMax) (hb : ∀ p ∈ D.ps, p.box.length ≤ 16) : MachOK D :=
  ⟨hm, hs, hb, h.tab, h.wk, by have := h.wl; omega, h.pidU, fun p hp => by have := h.pos hp; unfold I64; omega⟩
/-- a cut web -/
theorem toW_cutG (a : Int) : ∀ (l : List Int) (W : List LE) (c : Int), l.Nodup → toW (cutG W a l) c = if c ∈ l then (toW W c).erase a else toW W c
  | [], W, c, _ => by simp [cutG]
  | b :: l, W, c, hn => by
    have hn' := List.nodup_cons.1 hn
    show toW (cutG (setW W b (·.erase a)) a l) c = _
    rw [toW_cutG a l _ c hn'.2, toW_setW _ _ _ _ (by simp)]
    by_cases h1 : c ∈ l
    · have : c ≠ b := fun e => hn'.1 (e ▸ h1)
      simp [h1, this]
    · by_cases h2 : c = b
      · subst h2; simp [h1]
      · simp [h1, h2]
theorem toW_del {W : List LE} (hk : (W.map (·.key)).Nodup) (a c : Int) : toW (W.eraseP fun e => e.key == a) c = if c = a then [] else toW W c := by
  induction W with
  | nil => simp [toW, lkOf]
  | cons e W ih =>
    have hk' := List.nodup_cons.1 hk
    rw [List.eraseP_cons]
    by_cases h : e.key = a
    · rw [show (e.key == a) = true by simp [h]]; simp only [cond_true]
      by_cases hc : c = a
      · subst hc
        rw [if_pos rfl]
        unfold toW lkOf
        have : W.find? (fun e => e.key == c) = none := List.find?_eq_none.2 fun x hx k => hk'.1 (by
          have : x.key = c := by simpa using k
          show e.key ∈ _
          rw [h, ← this]; exact List.mem_map.2 ⟨x, hx, rfl⟩)
        rw [this]
      · rw [if_neg hc]
        unfold toW lkOf
        rw [List.find?_cons, show (e.key == c) = false by simp; intro k; exact hc (k ▸ h)]
    · rw [show (e.key == a) = false by simp [h]]; simp only [cond_false]
      have ih := ih hk'.2
      unfold toW lkOf at ih ⊢
      rw [List.find?_cons, List.find?_cons]
      by_cases hc : e.key = c
      · rw [show (e.key == c) = true by simp [hc]]
        have : ¬ c = a := fun k => h (hc.trans k)
        simp [this]
      · rw [show (e.key == c) = false by simp [hc]]
        exact ih
theorem toW_cut {D : MD} (h : MInv D) (a c : Int) : toW (cutW D.W a) c = if c = a then [] else (toW D.W c).erase a := by
  unfold cutW
  have hnd : (sorted (toW D.W a)).Nodup := (sorted_perm _).nodup_iff.2 (h.wnd a)
  rw [toW_del (by rw [cutG_keys]; exact h.wk), toW_cutG a _ _ c hnd]
  by_cases h1 : c = a
  · simp [h1]
  · rw [if_neg h1, if_neg h1]
    by_cases h2 : c ∈ sorted (toW D.W a)
    · rw [if_pos h2]
    · rw [if_neg h2, List.erase_of_not_mem]
      exact fun k => h2 ((sorted_perm _).mem_iff.2 (h.wsy c a k))
theorem cutW_key {D : MD} (h : MInv D) {a : Int} {e : LE} (he : e ∈ cutW D.W a) : e.key ∈ D.W.map (·.key) ∧ e.key ≠ a := by
  unfold cutW at he
  have hk : ((cutG D.W a (sorted (toW D.W a))).map (·.key)).Nodup := by rw [cutG_keys]; exact h.wk
  have h1 : e ∈ cutG D.W a (sorted (toW D.W a)) := List.eraseP_subset he
  refine ⟨by rw [← cutG_keys a (sorted (toW D.W a))]; exact List.mem_map.2 ⟨e, h1, rfl⟩, fun k => ?_⟩
  revert he hk
  generalize cutG D.W a (sorted (toW D.W a)) = W
  intro he hk
  induction W with
  | nil => simp at he
  | cons x W ih =>
    have hk' := List.nodup_cons.1 hk
    rw [List.eraseP_cons] at he
    by_cases hx : x.key = a
    · rw [show (x.key == a) = true by simp [hx]] at he
      simp only [cond_true] at he
      exact hk'.1 (by show x.key ∈ _; rw [hx, ← k]; exact List.mem_map.2 ⟨e, he, rfl⟩)
    · rw [show (x.key == a) = false by simp [hx]] at he
      simp only [cond_false] at he
      rcases List.mem_cons.1 he with rfl | he
      · exact hx k
      · exact ih he hk'.2
theorem freeR_own {D : MD} (h : MInv D) {k : Nat} {x : Int × Bool} (hx : D.tab.sl[k]? = some x) (ht : x.2 = true) : (freeR D.tab (pidOf x.1 k)).2 = { sl := D.tab.sl.set k (x.1 + 1, false), live := D.tab.live - 1 } := by
  have hk := h.slt hx
  have hg := (h.tab.gen x (List.mem_of_getElem? hx)).1
  have e1 : ((pidOf x.1 k - 1) % 32).toNat = k := by unfold pidOf; omega
  have e2 : ¬ pidOf x.1 k < 1 := by unfold pidOf; omega
  have es : slotR D.tab (pidOf x.1 k) = ((k : Int), true) := by
    unfold slotR
    rw [if_neg e2]
    simp only [e1, hx, ht, true_and, if_true]
  unfold freeR
  rw [es]
  simp [List.getD_eq_getElem?_getD, hx]
theorem mem_setP {ps : List PD} (hn : (ps.map (·.pid)).Nodup) {i : Nat} {p p' q : PD} (hp : ps[i]? = some p) (hq : q ∈ ps.set i p') : q = p' ∨ (q ∈ ps ∧ q.pid ≠ p.pid) := by
  obtain ⟨j, hj, ej⟩ := List.getElem_of_mem hq
  have hj' : j < ps.length := by simpa using hj
  rw [List.getElem_set] at ej
  split at ej
  · exact Or.inl ej.symm
  · rename_i hne
    refine Or.inr ⟨ej ▸ List.getElem_mem hj', fun k => ?_⟩
    obtain ⟨hi', ei⟩ := List.getElem?_eq_some_iff.1 hp
    have := (List.getElem_inj (h₀ := by simpa using hj') (h₁ := by simpa using hi') hn).1 (by simp [ej, ei, k])
    exact hne this.symm
theorem MInv.ended {D : MD} (h : MInv D) {i : Nat} {p : PD} (hp : D.ps[i]? = some p) (hd : p.dead = false) (r : Int × Int) : MInv (endD D i p r) := by
  have hpm : p ∈ D.ps := List.mem_of_getElem? hp
  obtain ⟨k, x, g, a1, a2, a3, a4, a5, a6⟩ := h.used p hpm
  have hk := h.slt a1
  have eg := a5.1 hd
  have ht := a6 eg
  have eP : p.pid = pidOf x.1 k := by rw [a2, eg]
  have eT : (endD D i p r).tab.sl = D.tab.sl.set k (x.1 + 1, false) := by
    simp only [endD]
    rw [eP, freeR_own h a1 ht]
  have hlen := h.tab.len
  have hi : i < D.ps.length := (List.getElem?_eq_some_iff.1 hp).1
  refine ⟨?_, ?_, fun q hq => ?_, fun k' x' hx' ht' => ?_, ?_, fun e he => ?_, fun a b hb => ?_, fun a => ?_⟩
  · exact h.tab.free _
  · show ((D.ps.set i (endP p r)).map (·.pid)).Nodup
    rw [set_pids (p' := endP p r) hp rfl]; exact h.pidU
  · rw [eT]
    rcases mem_setP h.pidU hp (p' := endP p r) hq with hq | ⟨hq, hne⟩
    · subst hq
      refine ⟨k, (x.1 + 1, false), g, ?_, a2, a3, by simp only; omega, ?_, fun e => by simp only at e; omega⟩
      · rw [List.getElem?_set]; simp; omega
      · constructor
        · intro k; cases k
        · intro k; simp only at k; omega
    · obtain ⟨k', x', g', b1, b2, b3, b4, b5, b6⟩ := h.used q hq
      have hk' := h.slt b1
      by_cases hkk : k' = k
      · subst hkk
        rw [a1] at b1; cases b1
        have hgg : g' ≠ g := fun e => hne (by rw [b2, a2, e])
        refine ⟨k', (x.1 + 1, false), g', ?_, b2, b3, by simp only; omega, ?_, fun e => by simp only at e; omega⟩
        · rw [List.getElem?_set]; simp; omega
        · rw [b5]; simp only; omega
      · refine ⟨k', x', g', ?_, b2, b3, b4, b5, b6⟩
        rw [List.getElem?_set, if_neg fun e => hkk e.symm]; exact b1
  · rw [eT, List.getElem?_set] at hx'
    by_cases hkk : k = k'
    · subst hkk
      rw [if_pos rfl, if_pos (by omega)] at hx'
      cases hx'; cases ht'
    · rw [if_neg hkk] at hx'
      refine (h.taken k' x' hx' ht').ended hp fun e => ?_
      rw [eP] at e
      exact hkk (pidOf_inj e (h.slt hx') hk).2.symm
  · exact cutW_keyN h.wk _
  · obtain ⟨h1, h2⟩ := cutW_key h he
    obtain ⟨e0, he0, hk0⟩ := List.mem_map.1 h1
    refine Alive.ended hp ?_ h2
    rw [← hk0]; exact h.wal e0 he0
  · have hb' : b ∈ toW (cutW D.W p.pid) a := hb
    show a ∈ toW (cutW D.W p.pid) b
    rw [toW_cut h] at hb' ⊢
    by_cases h1 : a = p.pid
    · rw [if_pos h1] at hb'; simp at hb'
    · rw [if_neg h1] at hb'
      have h2 := (List.Nodup.mem_erase_iff (h.wnd a)).1 hb'
      rw [if_neg h2.1]
      exact (List.Nodup.mem_erase_iff (h.wnd b)).2 ⟨h1, h.wsy a b h2.2⟩
  · show (toW (cutW D.W p.pid) a).Nodup
    rw [toW_cut h]
    split
    · simp
    · exact (h.wnd a).erase _
end Go.Proofs.YtbomkomipaipmaaGreat
namespace Go.Proofs.YtbomkomipaipmaaGreat
set_option maxRecDepth 100000

/-- who ends when one falls: itself for its own reason, others as linked -/
structure EndRel (ps ps' : List PD) (own : Int) (r : Int × Int) : Prop where
  len : ps'.length = ps.length
  at' : ∀ (k : Nat) (q : PD), ps[k]? = some q → ∃ q', ps'[k]? = some q' ∧ (q' = q ∨ (q.dead = false ∧ q.pid = own ∧ q' = endP q r) ∨ (q.dead = false ∧ q.pid ≠ own ∧ r.1 ≠ 0 ∧ q' = endP q (6, 0)))
theorem MInv.endPid {D : MD} (_ : MInv D) (ok : (D.ps.map (·.pid)).Nodup) {b : Int} (ha : Alive D.ps b) (r : Int × Int) : ∃ j q, D.ps[j]? = some q ∧ q.dead = false ∧ q.pid = b ∧ endPid D b r = endD D j q r := by
  obtain ⟨j, q, h1, h2, h3⟩ := ha
  have := atP_eq ok h1 h2
  rw [h3] at this
  exact ⟨j, q, h1, h2, h3, by simp only [Go.Proofs.YtbomkomipaipmaaGreat.endPid, this, h1]⟩
theorem fold_ended (own : Int) (r : Int × Int) (hr : r.1 ≠ 0) : ∀ (L : List Int) (D : MD), L.Nodup → MInv D → (∀ b ∈ L, b ≠ own ∧ Alive D.ps b) →
    MInv (L.foldl (fun D b => Go.Proofs.YtbomkomipaipmaaGreat.endPid D b (6, 0)) D) ∧ EndRel D.ps (L.foldl (fun D b => Go.Proofs.YtbomkomipaipmaaGreat.endPid D b (6, 0)) D).ps own r ∧ (L.foldl (fun D b => Go.Proofs.YtbomkomipaipmaaGreat.endPid D b (6, 0)) D).m = D.m ∧ (L.foldl (fun D b => Go.Proofs.YtbomkomipaipmaaGreat.endPid D b (6, 0)) D).now = D.now
  | [], D, _, h, _ => ⟨h, ⟨rfl, fun k q hk => ⟨q, hk, Or.inl rfl⟩⟩, rfl, rfl⟩
  | b :: L, D, hn, h, ha => by
    have hn' := List.nodup_cons.1 hn
    obtain ⟨hb, hal⟩ := ha b List.mem_cons_self
    obtain ⟨j, q, c1, c2, c3, c4⟩ := h.endPid h.pidU hal (6, 0)
    have ih := fold_ended own r hr L (endD D j q (6, 0)) hn'.2 (h.ended c1 c2 _) fun c hc => ⟨(ha c (List.mem_cons_of_mem _ hc)).1, (ha c (List.mem_cons_of_mem _ hc)).2.ended c1 fun e => hn'.1 (by rw [c3] at e; exact e ▸ hc)⟩
    rw [List.foldl_cons, c4]
    refine ⟨ih.1, ⟨?_, fun k x hx => ?_⟩, ih.2.2.1, ih.2.2.2⟩
    · rw [ih.2.1.len]; simp [endD]
    · by_cases hk : k = j
      · subst hk
        rw [c1] at hx; cases hx
        have hg : (endD D k q (6, 0)).ps[k]? = some (endP q (6, 0)) := by
          simp only [endD]; rw [List.getElem?_set]; simp [(List.getElem?_eq_some_iff.1 c1).1]
        obtain ⟨q', e1, e2⟩ := ih.2.1.at' k _ hg
        refine ⟨q', e1, ?_⟩
        rcases e2 with e2 | e2 | e2
        · exact Or.inr (Or.inr ⟨c2, by rw [c3]; exact hb, hr, e2⟩)
        · cases e2.1
        · cases e2.1
      · have hg : (endD D j q (6, 0)).ps[k]? = some x := by
          simp only [endD]; rw [List.getElem?_set, if_neg fun e => hk e.symm]; exact hx
        exact ih.2.1.at' k _ hg
theorem fallD_rel {D : MD} (h : MInv D) {i : Nat} {p : PD} (hp : D.ps[i]? = some p) (hd : p.dead = false) (r : Int × Int) :
    MInv (fallD D i p r) ∧ EndRel D.ps (fallD D i p r).ps p.pid r ∧ (fallD D i p r).m = D.m ∧ (fallD D i p r).now = D.now ∧ (fallD D i p r).ps[i]? = some (endP p r) := by
  have hi : i < D.ps.length := (List.getElem?_eq_some_iff.1 hp).1
  have hgi : (endD D i p r).ps[i]? = some (endP p r) := by simp only [endD]; rw [List.getElem?_set]; simp [hi]
  have base : EndRel D.ps (endD D i p r).ps p.pid r := ⟨by simp [endD], fun k q hk => by
    by_cases e : k = i
    · subst e; rw [hp] at hk; cases hk
      exact ⟨_, hgi, Or.inr (Or.inl ⟨hd, rfl, rfl⟩)⟩
    · exact ⟨q, by simp only [endD]; rw [List.getElem?_set, if_neg fun k => e k.symm]; exact hk, Or.inl rfl⟩⟩
  unfold fallD
  by_cases hr : r.1 = 0
  · rw [if_pos hr]
    exact ⟨h.ended hp hd r, base, rfl, rfl, hgi⟩
  · rw [if_neg hr]
    have hnd : (fallL D.W p.pid).Nodup := (fallL_lt _ _).imp fun {a b} h => by omega
    have hA : Alive D.ps p.pid := ⟨i, p, hp, hd, rfl⟩
    obtain ⟨a1, a2, a3, a4⟩ := fold_ended p.pid r hr (fallL D.W p.pid) (endD D i p r) hnd (h.ended hp hd r) fun b hb => ⟨(fallL_mem hb).1, (h.reach hA (fallL_mem hb).2).ended hp (fallL_mem hb).1⟩
    refine ⟨a1, ⟨?_, fun k q hk => ?_⟩, a3, a4, ?_⟩
    · rw [a2.len]; simp [endD]
    · obtain ⟨q1, b1, b2⟩ := base.at' k q hk
      obtain ⟨q2, c1, c2⟩ := a2.at' k q1 b1
      refine ⟨q2, c1, ?_⟩
      rcases b2 with b2 | b2 | b2
      · subst b2; exact c2
      · obtain ⟨d1, d2, d3⟩ := b2
        rcases c2 with c2 | c2 | c2
        · exact Or.inr (Or.inl ⟨d1, d2, by rw [c2, d3]⟩)
        · rw [d3] at c2; cases c2.1
        · rw [d3] at c2; cases c2.1
      · obtain ⟨d1, d2, _, d3⟩ := b2
        rcases c2 with c2 | c2 | c2
        · exact Or.inr (Or.inr ⟨d1, d2, hr, by rw [c2, d3]⟩)
        · rw [d3] at c2; cases c2.1
        · rw [d3] at c2; cases c2.1
    · obtain ⟨q2, c1, c2⟩ := a2.at' i _ hgi
      rw [c1]
      rcases c2 with c2 | c2 | c2
      · rw [c2]
      · cases c2.1
      · cases c2.1
/-- one process changes -/
theorem MInv.setD {D : MD} (h : MInv D) {i : Nat} {p p' : PD} (hp : D.ps[i]? = some p) (e1 : p'.pid = p.pid) (e2 : p'.dead = p.dead) : MInv (setD D i p') := by
  have hi : i < D.ps.length := (List.getElem?_eq_some_iff.1 hp).1
  have hal : ∀ b, Alive D.ps b → Alive (D.ps.set i p') b := fun b ⟨j, q, h1, h2, h3⟩ => by
    by_cases e : j = i
    · subst e; rw [hp] at h1; cases h1
      exact ⟨j, p', by rw [List.getElem?_set]; simp [hi], by rw [e2]; exact h2, by rw [e1]; exact h3⟩
    · exact ⟨j, q, by rw [List.getElem?_set, if_neg fun k => e k.symm]; exact h1, h2, h3⟩
  refine ⟨h.tab, ?_, fun q hq => ?_, fun k x hx ht => hal _ (h.taken k x hx ht), h.wk, fun e he => hal _ (h.wal e he), h.wsy, h.wnd⟩
  · show ((D.ps.set i p').map (·.pid)).Nodup
    rw [set_pids (p' := p') hp e1]; exact h.pidU
  · rcases List.mem_or_eq_of_mem_set hq with k | k
    · exact h.used q k
    · subst k
      rw [e1, e2]; exact h.used p (List.mem_of_getElem? hp)
/-- a new process -/
noncomputable def spawnP (D : MD) (parent actor : Int) (args : List Int) (pid : Int) : PD := ⟨pid, parent, actor, false, (0, 0), [], (newF D.m actor args).1, []⟩
theorem lowS_some {t : Tab} {s : Nat} (h : lowS t.sl = some s) : ∃ hs : s < t.sl.length, freeS t.sl[s] = true := by
  unfold lowS at h
  obtain ⟨h1, h2, _⟩ := List.findIdx?_eq_some_iff_getElem.1 h
  exact ⟨h1, h2⟩
noncomputable def spawnD (D : MD) (parent actor : Int) (args : List Int) : MD × Int × Bool := match h : lowS D.tab.sl with
  | some s => ({ D with ps := D.ps ++ [spawnP D parent actor args (pidOf (D.tab.sl[s]'(lowS_some h).1).1 s)], tab := takeT D.tab s (lowS_some h).1 }, pidOf (D.tab.sl[s]'(lowS_some h).1).1 s, true)
  | none => (D, 0, false)
theorem spawnD_some {D : MD} {parent actor : Int} {args : List Int} {s : Nat} (h : lowS D.tab.sl = some s) : spawnD D parent actor args = ({ D with ps := D.ps ++ [spawnP D parent actor args (pidOf (D.tab.sl[s]'(lowS_some h).1).1 s)], tab := takeT D.tab s (lowS_some h).1 }, pidOf (D.tab.sl[s]'(lowS_some h).1).1 s, true) := by
  unfold spawnD
  split
  · rename_i s' h'; rw [h] at h'; cases h'; rfl
  · rename_i h'; rw [h] at h'; cases h'
theorem spawnD_none {D : MD} {parent actor : Int} {args : List Int} (h : lowS D.tab.sl = none) : spawnD D parent actor args = (D, 0, false) := by
  unfold spawnD
  split
  · rename_i s' h'; rw [h] at h'; cases h'
  · rfl
theorem allocR_low {t : Tab} : allocR t = match h : lowS t.sl with
  | some s => (.tup [.int .i64 (pidOf (t.sl[s]'(lowS_some h).1).1 s), .int .i64 0], takeT t s (lowS_some h).1)
  | none => (.tup [.int .i64 0, .int .i64 7], t) := rfl
theorem Alive.app {ps : List PD} {b : Int} (h : Alive ps b) (p : PD) : Alive (ps ++ [p]) b := by
  obtain ⟨j, q, h1, h2, h3⟩ := h
  exact ⟨j, q, by rw [List.getElem?_append_left (List.getElem?_eq_some_iff.1 h1).1]; exact h1, h2, h3⟩
theorem MInv.fresh {D : MD} (h : MInv D) {s : Nat} (hs : s < D.tab.sl.length) (hf : freeS D.tab.sl[s] = true) : ¬ pidOf D.tab.sl[s].1 s ∈ D.ps.map (·.pid) := by
  intro hm
  obtain ⟨q, hq, e⟩ := List.mem_map.1 hm
  obtain ⟨k, x, g, a1, a2, a3, a4, a5, a6⟩ := h.used q hq
  have hk := h.slt a1
  have hl := h.tab.len
  obtain ⟨e1, e2⟩ := pidOf_inj (e.symm.trans a2) (by omega) hk
  subst e2
  have hx : D.tab.sl[s] = x := by
    have := List.getElem?_eq_getElem hs
    rw [a1] at this; cases this; rfl
  rw [hx] at e1 hf
  have := a6 e1.symm
  simp [freeS, this] at hf
theorem MInv.spawn {D : MD} (h : MInv D) (parent actor : Int) (args : List Int) : MInv (spawnD D parent actor args).1 := by
  cases hl : lowS D.tab.sl with
  | none => rw [spawnD_none hl]; exact h
  | some s =>
    rw [spawnD_some hl]
    obtain ⟨hs, hf⟩ := lowS_some hl
    have hfr := h.fresh hs hf
    have h32 := h.tab.len
    have hsx : D.tab.sl[s]? = some D.tab.sl[s] := List.getElem?_eq_getElem hs
    have hgen := h.tab.gen _ (List.getElem_mem hs)
    have hfree : D.tab.sl[s].2 = false := by simp [freeS] at hf; exact hf.1
    refine ⟨h.tab.take hs hf, ?_, fun q hq => ?_, fun k x hx ht => ?_, h.wk, fun e he => (h.wal e he).app _, h.wsy, h.wnd⟩
    · simp only [List.map_append, List.map_cons, List.map_nil]
      rw [List.nodup_append]
      refine ⟨h.pidU, by simp, fun a ha b hb e => ?_⟩
      simp [spawnP] at hb
      exact hfr (by rw [← hb, ← e]; exact ha)
    · simp only [takeT]
      rcases List.mem_append.1 hq with hq | hq
      · obtain ⟨k, x, g, a1, a2, a3, a4, a5, a6⟩ := h.used q hq
        by_cases hk : k = s
        · subst hk
          rw [hsx] at a1; cases a1
          refine ⟨k, (D.tab.sl[k].1, true), g, by rw [List.getElem?_set]; simp [hs], a2, a3, a4, a5, fun _ => rfl⟩
        · exact ⟨k, x, g, by rw [List.getElem?_set, if_neg fun e => hk e.symm]; exact a1, a2, a3, a4, a5, a6⟩
      · have hq := List.mem_singleton.1 hq
        subst hq
        exact ⟨s, (D.tab.sl[s].1, true), D.tab.sl[s].1, by rw [List.getElem?_set]; simp [hs], rfl, hgen.1, Int.le_refl _, by simp [spawnP], fun _ => rfl⟩
    · simp only [takeT] at hx
      rw [List.getElem?_set] at hx
      by_cases hk : s = k
      · subst hk
        rw [if_pos rfl, if_pos hs] at hx
        cases hx
        exact ⟨D.ps.length, spawnP D parent actor args (pidOf D.tab.sl[s].1 s), by simp, rfl, rfl⟩
      · rw [if_neg hk] at hx
        exact (h.taken k x hx ht).app _
/-- a link -/
theorem MInv.link {D : MD} (h : MInv D) {a b : Int} (ha : Alive D.ps a) (hb : Alive D.ps b) (m1 m2 : Nat) : MInv { D with W := (linkR m1 m2 D.W a b).2 } := by
  unfold linkR
  split
  · exact h
  · rename_i h1
    have hab : a ≠ b := fun e => h1 (Or.inl e)
    have hin : ¬ b ∈ toW D.W a := fun e => h1 (Or.inr e)
    split
    · exact h
    · have hin2 : ¬ a ∈ toW D.W b := fun e => hin (h.wsy b a e)
      have htw : ∀ c, toW (joinW m2 (joinW m1 D.W a b) b a) c = if c = b then toW D.W b ++ [a] else if c = a then toW D.W a ++ [b] else toW D.W c := fun c => by
        rw [toW_join, toW_join, toW_join]
        by_cases e1 : c = b
        · rw [if_pos e1, if_pos e1, if_neg fun e => hab e.symm]
          unfold joinL; rw [if_neg hin2]
        · rw [if_neg e1, if_neg e1]
          by_cases e2 : c = a
          · rw [if_pos e2, if_pos e2]; unfold joinL; rw [if_neg hin]
          · rw [if_neg e2, if_neg e2]
      have hkeys : ∀ (m : Nat) (W : List LE) (a b : Int) (e : LE), e ∈ joinW m W a b → e.key ∈ W.map (·.key) ∨ e.key = a := fun m W a b e he => by
        unfold joinW at he
        cases hl : lkOf W a with
        | some x =>
          rw [hl] at he
          left
          have : e.key ∈ (setW W a (joinL · b)).map (·.key) := List.mem_map.2 ⟨e, he, rfl⟩
          rw [setW_keys] at this; exact this
        | none =>
          rw [hl] at he
          rcases List.mem_append.1 he with he | he
          · exact Or.inl (List.mem_map.2 ⟨e, he, rfl⟩)
          · have he := List.mem_singleton.1 he
            exact Or.inr (by rw [he])
      have hold : ∀ c ∈ D.W.map (·.key), Alive D.ps c := fun c hc => by
        obtain ⟨e, he, rfl⟩ := List.mem_map.1 hc
        exact h.wal e he
      refine ⟨h.tab, h.pidU, h.used, h.taken, joinW_key (joinW_key h.wk _ _ _) _ _ _, fun e he => ?_, fun c d hd => ?_, fun c => ?_⟩
      · rcases hkeys _ _ _ _ e he with k | k
        · obtain ⟨x, hx, hk⟩ := List.mem_map.1 k
          rcases hkeys _ _ _ _ x hx with k2 | k2
          · rw [← hk]; exact hold _ k2
          · rw [← hk, k2]; exact ha
        · rw [k]; exact hb
      · have hd' : d ∈ toW (joinW m2 (joinW m1 D.W a b) b a) c := hd
        show c ∈ toW (joinW m2 (joinW m1 D.W a b) b a) d
        rw [htw] at hd' ⊢
        by_cases c1 : c = b
        · subst c1
          rw [if_pos rfl] at hd'
          rcases List.mem_append.1 hd' with k | k
          · by_cases d1 : d = c
            · rw [if_pos d1]; exact List.mem_append_left _ (by have := h.wsy c d k; rw [d1] at this; exact this)
            · rw [if_neg d1]
              have := h.wsy c d k
              by_cases d2 : d = a
              · subst d2; exact absurd k hin2
              · rw [if_neg d2]; exact this
          · have k := List.mem_singleton.1 k
            subst k
            rw [if_neg hab, if_pos rfl]; simp
        · rw [if_neg c1] at hd'
          by_cases c2 : c = a
          · subst c2
            rw [if_pos rfl] at hd'
            rcases List.mem_append.1 hd' with k | k
            · by_cases d1 : d = b
              · subst d1; exact absurd k hin
              · rw [if_neg d1]
                by_cases d2 : d = c
                · rw [if_pos d2]; exact List.mem_append_left _ (by have := h.wsy c d k; rw [d2] at this; exact this)
                · rw [if_neg d2]; exact h.wsy c d k
            · have k := List.mem_singleton.1 k
              subst k
              rw [if_pos rfl]; simp
          · rw [if_neg c2] at hd'
            have := h.wsy c d hd'
            by_cases d1 : d = b
            · subst d1; rw [if_pos rfl]; exact List.mem_append_left _ this
            · rw [if_neg d1]
              by_cases d2 : d = a
              · subst d2; rw [if_pos rfl]; exact List.mem_append_left _ this
              · rw [if_neg d2]; exact this
      · show (toW (joinW m2 (joinW m1 D.W a b) b a) c).Nodup
        rw [htw]
        have nd : ∀ (l : List Int) (x : Int), l.Nodup → ¬ x ∈ l → (l ++ [x]).Nodup := fun l x hl hx => by
          rw [List.nodup_append]
          exact ⟨hl, by simp, fun y hy z hz e => hx (by simp at hz; rw [← hz, ← e]; exact hy)⟩
        split
        · exact nd _ _ (h.wnd _) hin2
        · split
          · exact nd _ _ (h.wnd _) hin
          · exact h.wnd _
end Go.Proofs.YtbomkomipaipmaaGreat
