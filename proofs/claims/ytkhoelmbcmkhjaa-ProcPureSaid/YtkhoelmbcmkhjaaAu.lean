/- Abstract Go: a region in which two changes may come in either order. -/
import Derived.Test.YtkhoelmbcmkhjaaAq
namespace Go.Proofs.Ytkhoelmbcmkhjaa

section
variable {P : Program} {ops : Array Oper} {T : Array (List Nat)} {K : AState → Prop}

/-- what is left of an order; `E k i`: that k comes ahead of i is not to be asked -/
structure Left (ops : Array Oper) (T : Array (List Nat)) (E : Nat → Nat → Prop) (listed : Array Bool) (l : List Nat) : Prop where
  mem : ∀ i, i < ops.size → (i ∈ l ↔ listed.getD i true = false)
  lt : ∀ i ∈ l, i < ops.size
  sz : listed.size = ops.size
  dn : ∀ j, j < ops.size → j ∉ l → ∀ k, (T.getD j []).contains k = true → k ∉ l
  cut : ∀ l1 i l2, l = l1 ++ i :: l2 → ∃ oi, ops[i]? = some oi ∧ i ∉ l1 ∧ i ∉ l2 ∧ (∀ e ∈ oi.after, Region.binds .any e = true → e.on < ops.size ∧ e.on ∉ i :: l2) ∧
    ∀ k ∈ l1, E k i ∨ (T.getD i []).contains k = true ∨ ∃ ok, ops[k]? = some ok ∧ ok.apart ops oi = true ∧ isChg ok.op = false

theorem Left.on {E : Nat → Nat → Prop} {listed : Array Bool} {l : List Nat} (h : Left ops T E listed l) {j : Nat} (hj : j < ops.size) : listed.getD j false = true ↔ j ∉ l := by
  have e1 : listed.getD j true = listed.getD j false := by
    have := h.sz
    rw [Array.getD_eq_getD_getElem?, Array.getD_eq_getD_getElem?, Array.getElem?_eq_getElem (by omega)]; rfl
  rw [h.mem j hj, e1]; simp
theorem Left.ready {E : Nat → Nat → Prop} {listed : Array Bool} {l : List Nat} (h : Left ops T E listed l) {i : Nat} (hi : i ∈ Region.ready .any ops listed) : i ∈ l ∧ ∃ o, ops[i]? = some o ∧ ∀ e ∈ o.after, Region.binds .any e = true → e.on < ops.size ∧ e.on ∉ l := by
  obtain ⟨h1, o, ho, h2⟩ := mem_ready.1 hi
  have hio : i < ops.size := (Array.getElem?_eq_some_iff.1 ho).1
  have hil := (h.mem i hio).2 h1
  refine ⟨hil, o, ho, fun e he hb => ?_⟩
  obtain ⟨l1, l2, el⟩ := List.append_of_mem hil
  obtain ⟨oi, ho', _, _, h3, _⟩ := h.cut l1 i l2 el
  rw [ho] at ho'; cases ho'
  have hsz := (h3 e he hb).1
  exact ⟨hsz, (h.on hsz).1 (h2 e he hb)⟩
theorem Left.first {E : Nat → Nat → Prop} {listed : Array Bool} {i : Nat} {l : List Nat} (h : Left ops T E listed (i :: l)) : i ∈ Region.ready .any ops listed := by
  obtain ⟨oi, ho, _, _, h3, _⟩ := h.cut [] i l rfl
  refine mem_ready.2 ⟨(h.mem i (h.lt i (by simp))).1 (by simp), oi, ho, fun ed hed hb => ?_⟩
  obtain ⟨k1, k2⟩ := h3 ed hed hb
  exact (h.on k1).2 k2
theorem Left.preT {E : Nat → Nat → Prop} {listed : Array Bool} {l : List Nat} (h : Left ops T E listed l) (hcl : closedT ops T = true) {i : Nat} (hi : i ∈ Region.ready .any ops listed) : ∀ k, (T.getD i []).contains k = true → k ∉ l := fun k hk => by
  obtain ⟨hil, o, ho, hpre⟩ := h.ready hi
  have hcl' := List.all_eq_true.1 hcl i (List.mem_range.2 (h.lt i hil))
  simp only [ho] at hcl'
  have hc := List.all_eq_true.1 hcl' k (by simpa using hk)
  obtain ⟨ed, hed, hb⟩ := List.any_eq_true.1 hc
  simp only [Bool.and_eq_true, Bool.or_eq_true, beq_iff_eq] at hb
  obtain ⟨hb1, hb2⟩ := hb
  obtain ⟨k1, hon⟩ := hpre ed (by simpa using hed) hb1
  rcases hb2 with rfl | hb2
  · exact hon
  · exact h.dn ed.on k1 hon k hb2
theorem Left.front {E : Nat → Nat → Prop} {listed : Array Bool} {l : List Nat} (h : Left ops T E listed l) (hcl : closedT ops T = true) {i : Nat} (hi : i ∈ Region.ready .any ops listed) {l1 l2 : List Nat} (e : l = l1 ++ i :: l2) (hE : ∀ k ∈ l1, ¬ E k i) {lds : List (Nat × (AHeap → Prop))} {s : AState}
    (ha : adr P ops T l lds K s) : adr P ops T (i :: (l1 ++ l2)) lds K s := by
  obtain ⟨oi, ho, n1, n2, h3, h4⟩ := h.cut l1 i l2 e
  have hp := h.preT hcl hi
  refine adr_front ho l1 lds s (fun k hk => ?_) (by rw [← e]; exact ha)
  have hT : (T.getD i []).contains k = false := by
    cases hc : (T.getD i []).contains k with
    | false => rfl
    | true => exact absurd (by rw [e]; simp [hk]) (hp k hc)
  refine ⟨hT, ?_⟩
  rcases h4 k hk with g | g | g
  · exact absurd g (hE k hk)
  · rw [hT] at g; cases g
  · exact g
theorem Left.next {E : Nat → Nat → Prop} {listed : Array Bool} {l : List Nat} (h : Left ops T E listed l) (hcl : closedT ops T = true) {i : Nat} (hi : i ∈ Region.ready .any ops listed) {l1 l2 : List Nat} (e : l = l1 ++ i :: l2) : Left ops T E (listed.setIfInBounds i true) (l1 ++ l2) := by
  obtain ⟨oi, ho, n1, n2, h3, h4⟩ := h.cut l1 i l2 e
  have hpreT := h.preT hcl hi
  have hmem : ∀ j, j ∈ l1 ++ l2 ↔ j ∈ l ∧ j ≠ i := fun j => by
    rw [e]
    simp only [List.mem_append, List.mem_cons]
    constructor
    · rintro (h | h)
      · exact ⟨Or.inl h, fun e => n1 (e ▸ h)⟩
      · exact ⟨Or.inr (Or.inr h), fun e => n2 (e ▸ h)⟩
    · rintro ⟨h | h | h, hne⟩
      · exact Or.inl h
      · exact absurd h hne
      · exact Or.inr h
  refine ⟨?_, fun j hj => h.lt j ((hmem j).1 hj).1, by simpa using h.sz, ?_, ?_⟩
  · intro j hj
    by_cases hji : j = i
    · subst hji
      constructor
      · intro hin; exact absurd rfl ((hmem j).1 hin).2
      · intro hin
        have : (listed.setIfInBounds j true).getD j true = true := by rw [Array.getD_eq_getD_getElem?, Array.getElem?_setIfInBounds]; simp; split <;> rfl
        rw [this] at hin; cases hin
    · rw [hmem, getD_set_ne true (Ne.symm hji), h.mem j hj]
      exact ⟨fun h => h.1, fun h => ⟨h, hji⟩⟩
  · intro j hj hjn k hk hin
    by_cases hji : j = i
    · subst hji; exact hpreT k hk ((hmem k).1 hin).1
    · exact h.dn j hj (fun h => hjn ((hmem j).2 ⟨h, hji⟩)) k hk ((hmem k).1 hin).1
  · intro m1 j m2 hm12
    rcases List.append_eq_append_iff.1 hm12 with ⟨c, hc1, hc2⟩ | ⟨c, hc1, hc2⟩
    · subst hc1
      obtain ⟨oj, q1, q2, q3, q4, q5⟩ := h.cut (l1 ++ i :: c) j m2 (by rw [e, hc2]; simp)
      refine ⟨oj, q1, fun hin => q2 ?_, q3, q4, fun k hk => q5 k ?_⟩
      · rcases List.mem_append.1 hin with h | h
        · simp [h]
        · simp [h]
      · rcases List.mem_append.1 hk with h | h
        · simp [h]
        · simp [h]
    · cases c with
      | nil =>
        simp at hc1 hc2
        subst hc1
        obtain ⟨oj, q1, q2, q3, q4, q5⟩ := h.cut (l1 ++ [i]) j m2 (by rw [e, ← hc2]; simp)
        exact ⟨oj, q1, fun hin => q2 (by simp [hin]), q3, q4, fun k hk => q5 k (by simp [hk])⟩
      | cons x c =>
        simp only [List.cons_append, List.cons.injEq] at hc2
        obtain ⟨rfl, hc2⟩ := hc2
        subst hc1
        obtain ⟨oj, q1, q2, q3, q4, q5⟩ := h.cut m1 j (c ++ i :: l2) (by rw [e]; simp)
        refine ⟨oj, q1, q2, fun hin => q3 ?_, fun ed hed hb => ⟨(q4 ed hed hb).1, fun hin => (q4 ed hed hb).2 ?_⟩, q5⟩
        · rw [hc2] at hin
          rcases List.mem_append.1 hin with h | h
          · simp [h]
          · simp [h]
        · rw [hc2] at hin
          rcases List.mem_cons.1 hin with h | h
          · simp [h]
          · rcases List.mem_append.1 h with h | h
            · simp [h]
            · simp [h]

/-- one operation, and what is behind it -/
theorem op_go {κ : Kap} {Q : Exit → Act → World → Prop} {R : Act → World → Prop} {i : Nat} {o : Oper} (ho : ops[i]? = some o) {l' : List Nat} {lds : List (Nat × (AHeap → Prop))} {s : AState} {a : Act} {w : World} (hr : RelE κ s a w) (hf : adr P ops T (i :: l') lds K s)
    (go : ∀ (lds' : List (Nat × (AHeap → Prop))) (s' : AState) (a' : Act) (w' : World), RelE κ s' a' w' → adr P ops T l' lds' K s' → R a' w') : wpOp P ops Q i R a w := by
  rw [adr] at hf
  simp only [ho] at hf
  unfold wpOp
  rw [ho]
  simp only
  rcases aguard_sound hr hf with ⟨g1, g2⟩ | ⟨g1, g2⟩
  · rw [if_pos g1]
    refine Or.inl ?_
    obtain ⟨own, M, hR⟩ := hr
    split at g2
    · refine achg_sound hR.st (aev_sound hR.fr) g2 fun u w' ho' => ?_
      obtain ⟨v, η', n', k1, k2⟩ := hR.out ho' o.dst
      exact go _ _ _ w' k2 k1.2
    · split at g2
      · rename_i v hv
        obtain ⟨u, k1, k2⟩ := aval_sound hR.st (aev_sound hR.fr) hv
        unfold Oper.wp
        rw [k1]
        exact go _ _ _ w ⟨own, M, hR.put o.dst k2⟩ g2
      · exact g2.elim
  · rw [if_neg (by rw [g1]; simp)]
    obtain ⟨own, M, hR⟩ := hr
    exact go _ _ _ w ⟨own, M, hR.put _ vr_skip⟩ g2
/-- one that changes nothing, with two ways on -/
theorem op_go2 {κ : Kap} {Q : Exit → Act → World → Prop} {R : Act → World → Prop} {i : Nat} {o : Oper} (ho : ops[i]? = some o) (hc : isChg o.op = false) {l' l'' : List Nat} {lds : List (Nat × (AHeap → Prop))} {s : AState} {a : Act} {w : World} (hr : RelE κ s a w) (hf : adr P ops T (i :: l') lds K s) (hf2 : adr P ops T (i :: l'') lds K s)
    (go : ∀ (lds' : List (Nat × (AHeap → Prop))) (s' : AState) (a' : Act) (w' : World), RelE κ s' a' w' → adr P ops T l' lds' K s' → adr P ops T l'' lds' K s' → R a' w') : wpOp P ops Q i R a w := by
  rw [adr] at hf hf2
  simp only [ho] at hf hf2
  rw [if_neg (by simp [hc])] at hf hf2
  unfold wpOp
  rw [ho]
  simp only
  rcases aguard_sound hr hf with ⟨g1, g2⟩ | ⟨g1, g2⟩
  · rcases aguard_sound hr hf2 with ⟨g3, g4⟩ | ⟨g3, g4⟩
    · rw [if_pos g1]
      refine Or.inl ?_
      obtain ⟨own, M, hR⟩ := hr
      split at g2
      · rename_i v hv
        simp only [hv] at g4
        obtain ⟨u, k1, k2⟩ := aval_sound hR.st (aev_sound hR.fr) hv
        unfold Oper.wp
        rw [k1]
        exact go _ _ _ w ⟨own, M, hR.put o.dst k2⟩ g2 g4
      · exact g2.elim
    · rw [g1] at g3; cases g3
  · rcases aguard_sound hr hf2 with ⟨g3, g4⟩ | ⟨g3, g4⟩
    · rw [g1] at g3; cases g3
    · rw [if_neg (by rw [g1]; simp)]
      obtain ⟨own, M, hR⟩ := hr
      exact go _ _ _ w ⟨own, M, hR.put _ vr_skip⟩ g2 g4

theorem Left.any {κ : Kap} {Q : Exit → Act → World → Prop} (hQ : ∀ s a w, K s → RelE κ s a w → Q .normal a w) (hcl : closedT ops T = true) {m : Nat} {l : List Nat} {listed : Array Bool} {E : Nat → Nat → Prop} (h : Left ops T E listed l) (hm : l.length = m) (hE : ∀ k ∈ l, ∀ i ∈ l, ¬ E k i) {lds : List (Nat × (AHeap → Prop))} {s : AState} {a : Act} {w : World}
    (hr : RelE κ s a w) (ha : adr P ops T l lds K s) : wpAny P .any ops Q m listed a w :=
  adr_any hQ hcl m l listed lds s a w hm h.mem h.lt h.sz h.dn (fun l1 i l2 e => by
    obtain ⟨oi, q1, q2, q3, q4, q5⟩ := h.cut l1 i l2 e
    refine ⟨oi, q1, q2, q3, q4, fun k hk => (q5 k hk).elim (fun g => absurd g (hE k (by rw [e]; simp [hk]) i (by rw [e]; simp))) id⟩) hr ha

/-- two orders: in the one p comes ahead of q, in the other q ahead of p -/
theorem adr_two {κ : Kap} {Q : Exit → Act → World → Prop} (hQ : ∀ s a w, K s → RelE κ s a w → Q .normal a w) (hcl : closedT ops T = true) {p q : Nat} (hpq : p ≠ q) (hch : ∀ i o, ops[i]? = some o → i ≠ p → i ≠ q → isChg o.op = false ∨ ∃ e ∈ o.after, Region.binds .any e = true ∧ (e.on = p ∨ e.on = q)) :
    ∀ (m : Nat) (l l' : List Nat) (listed : Array Bool) (lds : List (Nat × (AHeap → Prop))) (s : AState) (a : Act) (w : World), l.length = m → l'.length = m → Left ops T (fun k i => k = p ∧ i = q) listed l → Left ops T (fun k i => k = q ∧ i = p) listed l' → p ∈ l → q ∈ l →
      RelE κ s a w → adr P ops T l lds K s → adr P ops T l' lds K s → wpAny P .any ops Q m listed a w
  | 0, l, _, _, _, _, _, _, hm, _, _, _, hp, _, _, _, _ => by rw [List.eq_nil_of_length_eq_zero hm] at hp; simp at hp
  | m + 1, l, l', listed, lds, s, a, w, hm, hm', h, h', hp, hq, hr, ha, ha' => by
    have hll : ∀ j, j < ops.size → (j ∈ l ↔ j ∈ l') := fun j hj => by rw [h.mem j hj, h'.mem j hj]
    refine ⟨fun h0 => ?_, fun i hi => ?_⟩
    · cases l with
      | nil => simp at hp
      | cons x l => have := h.first; rw [h0] at this; simp at this
    · obtain ⟨hil, o, ho, hpre⟩ := h.ready hi
      have hil' := (hll i (h.lt i hil)).1 hil
      obtain ⟨l1, l2, e⟩ := List.append_of_mem hil
      obtain ⟨l1', l2', e'⟩ := List.append_of_mem hil'
      have hlen : (l1 ++ l2).length = m := by rw [e] at hm; simp at hm ⊢; omega
      have hlen' : (l1' ++ l2').length = m := by rw [e'] at hm'; simp at hm' ⊢; omega
      have hni : i ∉ l1 ++ l2 := by
        obtain ⟨_, _, n1, n2, _⟩ := h.cut l1 i l2 e
        simp [n1, n2]
      have hni' : i ∉ l1' ++ l2' := by
        obtain ⟨_, _, n1, n2, _⟩ := h'.cut l1' i l2' e'
        simp [n1, n2]
      by_cases hip : i = p
      · subst hip
        have hf := h.front hcl hi e (fun k hk g => hpq g.2) ha
        refine op_go ho hr hf fun lds' s' a' w' hr' hh => ?_
        exact (h.next hcl hi e).any hQ hcl hlen (fun k hk j hj g => hni (g.1 ▸ hk)) hr' hh
      by_cases hiq : i = q
      · subst hiq
        have hf := h'.front hcl hi e' (fun k hk g => hip g.2) ha'
        refine op_go ho hr hf fun lds' s' a' w' hr' hh => ?_
        exact (h'.next hcl hi e').any hQ hcl hlen' (fun k hk j hj g => hni' (g.1 ▸ hk)) hr' hh
      · have hf := h.front hcl hi e (fun k hk g => hiq g.2) ha
        have hf' := h'.front hcl hi e' (fun k hk g => hip g.2) ha'
        rcases hch i o ho hip hiq with hc | ⟨ed, hed, hb, hon⟩
        · have hin : ∀ j, j ∈ l → j ≠ i → j ∈ l1 ++ l2 := fun j hj hne => by
            rw [e] at hj
            simp at hj ⊢
            rcases hj with hj | rfl | hj
            · exact Or.inl hj
            · exact absurd rfl hne
            · exact Or.inr hj
          exact op_go2 ho hc hr hf hf' fun lds' s' a' w' hr' hh hh' => adr_two hQ hcl hpq hch m _ _ _ lds' s' a' w' hlen hlen' (h.next hcl hi e) (h'.next hcl hi e') (hin p hp (Ne.symm hip)) (hin q hq (Ne.symm hiq)) hr' hh hh'
        · have := (hpre ed hed hb).2
          rcases hon with g | g
          · rw [g] at this; exact absurd hp this
          · rw [g] at this; exact absurd hq this

def addT (T : Array (List Nat)) (q p : Nat) : Array (List Nat) := T.setIfInBounds q (p :: T.getD q [])
theorem addT_spec {T : Array (List Nat)} {q p i k : Nat} (h : ((addT T q p).getD i []).contains k = true) : (k = p ∧ i = q) ∨ (T.getD i []).contains k = true := by
  unfold addT at h
  rw [Array.getD_eq_getD_getElem?, Array.getElem?_setIfInBounds] at h
  by_cases e : q = i
  · subst e
    rw [if_pos rfl] at h
    by_cases hs : q < T.size
    · rw [if_pos hs] at h
      rw [Option.getD_some, List.contains_cons, Bool.or_eq_true] at h
      rcases h with h | h
      · exact Or.inl ⟨by simpa using h, rfl⟩
      · exact Or.inr h
    · rw [if_neg hs] at h; simp at h
  · rw [if_neg e, ← Array.getD_eq_getD_getElem?] at h
    exact Or.inr h
def canonOK2 (ops : Array Oper) (l l' : List Nat) (p q : Nat) : Bool :=
  closedT ops (preT ops) && (l.length == ops.size && (l'.length == ops.size && (canonGo ops (addT (preT ops) q p) [] l && (canonGo ops (addT (preT ops) p q) [] l' && (p != q && (decide (p < ops.size) && (decide (q < ops.size) &&
    (List.range ops.size).all fun i => i == p || i == q || (match ops[i]? with
      | some o => !isChg o.op || o.after.toList.any fun e => Region.binds .any e && (e.on == p || e.on == q)
      | none => true))))))))
theorem left_start {l : List Nat} {p q : Nat} (hlen : l.length = ops.size) (hgo : canonGo ops (addT T q p) [] l = true) : Left ops T (fun k i => k = p ∧ i = q) (Array.replicate ops.size false) l ∧ ∀ i, i < ops.size → i ∈ l := by
  obtain ⟨c1, c2, c3⟩ := canonGo_spec l [] hgo
  have hall : ∀ i, i < ops.size → i ∈ l := fun i hi => nodup_all ops.size l c2 (fun x hx => (c1 x hx).1) hlen i hi
  refine ⟨⟨fun i hi => ?_, fun i hi => (c1 i hi).1, by simp, fun j hj hn => absurd (hall j hj) hn, fun l1 i l2 e => ?_⟩, hall⟩
  · have : (Array.replicate ops.size false).getD i true = false := by simp [Array.getD_eq_getD_getElem?, hi]
    simp [this, hall i hi]
  · obtain ⟨oi, q1, q2, q3⟩ := c3 l1 i l2 e
    have hnd := c2
    rw [e] at hnd
    have h1 := List.nodup_append.1 hnd
    have h2 := List.nodup_cons.1 h1.2.1
    refine ⟨oi, q1, fun hin => h1.2.2 i hin i (by simp) rfl, h2.1, fun ed hed hb => ⟨(q2 ed hed hb).1, fun hin => ?_⟩, fun k hk => ?_⟩
    · rcases (q2 ed hed hb).2 with h | h
      · simp at h
      · exact h1.2.2 ed.on h ed.on hin rfl
    · rcases q3 k hk with g | g
      · rcases addT_spec g with g | g
        · exact Or.inl g
        · exact Or.inr (Or.inl g)
      · exact Or.inr (Or.inr g)
theorem DrawP.intro2 {id : Nat} {Q : Exit → AState → Prop} {s : AState} (hm : P.follows .mixedOrders = true) (l l' : List Nat) (p q : Nat) (hl : canonOK2 ops l l' p q = true) (h : adr P ops (preT ops) l [] (Q .normal) s) (h' : adr P ops (preT ops) l' [] (Q .normal) s) : DrawP P id ops Q s := by
  intro κ a w hr
  unfold canonOK2 at hl
  simp only [Bool.and_eq_true, beq_iff_eq, bne_iff_ne, decide_eq_true_eq] at hl
  obtain ⟨hcl, hlen, hlen', hgo, hgo', hpq, hp, hq, hch⟩ := hl
  obtain ⟨k1, hall⟩ := left_start hlen hgo
  obtain ⟨k2, hall'⟩ := left_start hlen' hgo'
  refine wp_region_any hm ?_
  obtain ⟨own, M, hR⟩ := hr
  have hr' : RelE κ s a { w with drawn := w.drawn + 1 } := ⟨own, M, hR.st.drawn _, hR.fr, hR.nt, hR.df, hR.le, hR.mle, hR.frm.trans (Fr.drewN κ.D w _) fun _ _ h => h, hR.ob, hR.n⟩
  refine adr_two (K := Q .normal) (Q := Lift κ Q) (fun s a w hK hR => ⟨s, hK, hR⟩) hcl hpq (fun i o ho hip hiq => ?_) ops.size l l' (Array.replicate ops.size false) [] s a _ hlen hlen' k1 k2 (hall p hp) (hall q hq) hr' h h'
  have := List.all_eq_true.1 hch i (List.mem_range.2 (Array.getElem?_eq_some_iff.1 ho).1)
  simp only [ho, Bool.or_eq_true, beq_iff_eq, hip, hiq, false_or, Bool.not_eq_true'] at this
  rcases this with h | h
  · exact Or.inl h
  · obtain ⟨e, he, hb⟩ := List.any_eq_true.1 h
    simp only [Bool.and_eq_true, Bool.or_eq_true, beq_iff_eq] at hb
    exact Or.inr ⟨e, by simpa using he, hb.1, hb.2⟩
def canonA2 (ops : Array Oper) (l l' : List (Nat × List Nat)) (p q : Nat) : Bool := canonOK2 ops (l.map (·.1)) (l'.map (·.1)) p q && (canonU ops (preT ops) [] l && canonU ops (preT ops) [] l')
theorem drawK.intro2 {id : Nat} {s : AState} {Q : Exit → AState → Prop} {g : Tag ops} {g' : Tag Q} (hm : P.follows .mixedOrders = true) (l l' : List (Nat × List Nat)) (p q : Nat) (hl : canonA2 ops l l' p q = true) (h : drK P ops l [] s (Q .normal) .mk .mk .mk) (h' : drK P ops l' [] s (Q .normal) .mk .mk .mk) : drawK P id ops s Q g g' := by
  unfold canonA2 at hl
  simp only [Bool.and_eq_true] at hl
  exact DrawP.intro2 hm (l.map (·.1)) (l'.map (·.1)) p q hl.1 (adr_of_U l [] [] s hl.2.1 (by simp) h) (adr_of_U l' [] [] s hl.2.2 (by simp) h')
end
end Go.Proofs.Ytkhoelmbcmkhjaa
