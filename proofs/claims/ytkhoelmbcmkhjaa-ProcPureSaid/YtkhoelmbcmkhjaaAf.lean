/- Abstract Go, 15: whatever order is drawn. -/
import Derived.Test.YtkhoelmbcmkhjaaAe
namespace Go.Proofs.Ytkhoelmbcmkhjaa

section
variable {P : Program} {ops : Array Oper} {T : Array (List Nat)} {K : AState → Prop}

/-- an operation that nothing ahead of it hinders comes first -/
theorem adr_front {i : Nat} {oi : Oper} (hi : ops[i]? = some oi) {l2 : List Nat} : ∀ (l1 : List Nat) (lds : List (Nat × (AHeap → Prop))) (s : AState),
    (∀ k ∈ l1, (T.getD i []).contains k = false ∧ ∃ ok, ops[k]? = some ok ∧ ok.apart ops oi = true ∧ isChg ok.op = false) → adr P ops T (l1 ++ i :: l2) lds K s → adr P ops T (i :: (l1 ++ l2)) lds K s
  | [], _, _, _, h => h
  | k :: l1, lds, s, hl, h => by
    obtain ⟨hT, ok, hk, hap, hch⟩ := hl k (by simp)
    obtain ⟨a1, a2, a3⟩ := Oper.apart_spec hap
    have a2' : ∀ d, oi.dst = some d → ok.dst ≠ some d := fun d h1 h2 => a2 d h2 h1
    rw [List.cons_append, adr] at h
    simp only [hk] at h
    rw [aguard_iff] at h
    rw [adr]
    simp only [hi]
    rw [aguard_iff]
    -- what k leaves, and the rest
    have step : ∀ (v : AVal) (lds' : List (Nat × (AHeap → Prop))), wantd ops ok s = some true → aval P ok (aev s.fr) s.η = some v → (∀ q, q ∈ lds' ↔ q ∈ lds ∨ (isLd ok.op = true ∧ q = (k, fun η => aval P ok (aev s.fr) η = some v))) →
        adr P ops T (i :: (l1 ++ l2)) lds' K (s.put ok.dst v) → (wantd ops oi s = some true ∧ (if isChg oi.op then achg P oi (aev s.fr) s.η s.n fun v η' n' => (∀ q ∈ lds, (T.getD i []).contains q.1 = false → q.2 η') ∧ adr P ops T (k :: l1 ++ l2) lds K ({ s with η := η', n := n' }.put oi.dst v)
         else match aval P oi (aev s.fr) s.η with
          | some v => adr P ops T (k :: l1 ++ l2) (if isLd oi.op then (i, fun η => aval P oi (aev s.fr) η = some v) :: lds else lds) K (s.put oi.dst v)
          | none => False)) ∨ (wantd ops oi s = some false ∧ adr P ops T (k :: l1 ++ l2) lds K (s.put oi.dst (.tup []))) := fun v lds' hw hv hlds hh => by
      rw [adr] at hh
      simp only [hi] at hh
      rw [aguard_iff, wantd_put (fun t ht => a1 t ht)] at hh
      have hev := ev_put (y := oi) (s := s) (v := v) (ops := ops) (d := ok.dst) (fun t ht => a1 t ht)
      obtain ⟨pη, pn⟩ := AState.put_η (s := s) (d := ok.dst) (v := v)
      -- k behind i
      have again : ∀ (u : AVal) (η' : AHeap) (n' : Nat) (lds2 : List (Nat × (AHeap → Prop))), aval P ok (aev s.fr) η' = some v → adr P ops T (l1 ++ l2) (if isLd ok.op then (k, fun η => aval P ok (aev s.fr) η = some v) :: lds2 else lds2) K (({ s.put ok.dst v with η := η', n := n' } : AState).put oi.dst u) →
          adr P ops T (k :: l1 ++ l2) lds2 K (({ s with η := η', n := n' } : AState).put oi.dst u) := fun u η' n' lds2 hv' hr => by
        have hev2 := ev_put (y := ok) (s := { s with η := η', n := n' }) (v := u) (ops := ops) (d := oi.dst) (fun t ht => a3 t ht)
        obtain ⟨qη, _⟩ := AState.put_η (s := { s with η := η', n := n' }) (d := oi.dst) (v := u)
        rw [List.cons_append, adr]
        simp only [hk]
        rw [aguard_iff, wantd_put (fun t ht => a3 t ht)]
        refine Or.inl ⟨hw, ?_⟩
        rw [if_neg (by simp [hch])]
        have e1 : ∀ η, aval P ok (aev (({ s with η := η', n := n' } : AState).put oi.dst u).fr) η = aval P ok (aev s.fr) η := fun η => aval_congr hev2
        rw [qη]
        simp only [e1, hv']
        rw [AState.put_comm (fun x hx => a2' x hx)]
        rw [AState.put_heap] at hr
        exact hr
      rcases hh with ⟨h1, h2⟩ | ⟨h1, h2⟩
      · refine Or.inl ⟨h1, ?_⟩
        by_cases hci : isChg oi.op = true
        · rw [if_pos hci] at h2 ⊢
          rw [achg_congr hev, pη, pn] at h2
          refine achg_mono (fun u η' n' ⟨k1, k2⟩ => ⟨fun q hq => k1 q ((hlds q).2 (Or.inl hq)), again u η' n' lds ?_ (adr_lds _ _ _ _ (fun q hq => ?_) k2)⟩) h2
          · by_cases hL : isLd ok.op = true
            · exact k1 _ ((hlds _).2 (Or.inr ⟨hL, rfl⟩)) hT
            · rw [aval_heap (by simpa using hL), hv]
          · split at hq
            · rename_i hL
              rcases List.mem_cons.1 hq with rfl | hq
              · exact (hlds _).2 (Or.inr ⟨hL, rfl⟩)
              · exact (hlds _).2 (Or.inl hq)
            · exact (hlds _).2 (Or.inl hq)
        · rw [if_neg hci] at h2 ⊢
          have e2 : ∀ η, aval P oi (aev (s.put ok.dst v).fr) η = aval P oi (aev s.fr) η := fun η => aval_congr hev
          rw [pη] at h2
          simp only [e2] at h2
          split
          · rename_i u hu
            simp only [hu] at h2
            refine again u s.η s.n _ hv (adr_lds _ _ _ _ (fun q hq => ?_) (by
              have e3 : ({ s.put ok.dst v with η := s.η, n := s.n } : AState) = s.put ok.dst v := by rw [AState.put_heap]
              rw [e3]; exact h2))
            have inl : ∀ q ∈ lds, q ∈ (if isLd oi.op then (i, fun η => aval P oi (aev s.fr) η = some u) :: lds' else lds') := fun q hq => by
              split
              · exact List.mem_cons_of_mem _ ((hlds q).2 (Or.inl hq))
              · exact (hlds q).2 (Or.inl hq)
            have ini : ∀ q, q ∈ (if isLd oi.op then (i, fun η => aval P oi (aev s.fr) η = some u) :: lds else lds) → q ∈ (if isLd oi.op then (i, fun η => aval P oi (aev s.fr) η = some u) :: lds' else lds') := fun q hq => by
              split at hq
              · rename_i hL
                rw [if_pos hL]
                rcases List.mem_cons.1 hq with rfl | hq
                · exact List.mem_cons_self
                · exact List.mem_cons_of_mem _ ((hlds q).2 (Or.inl hq))
              · rename_i hL; rw [if_neg hL]; exact (hlds q).2 (Or.inl hq)
            split at hq
            · rename_i hL
              rcases List.mem_cons.1 hq with rfl | hq
              · have : (k, fun η => aval P ok (aev s.fr) η = some v) ∈ lds' := (hlds _).2 (Or.inr ⟨hL, rfl⟩)
                split
                · exact List.mem_cons_of_mem _ this
                · exact this
              · exact ini q hq
            · exact ini q hq
          · rename_i hu; simp only [hu] at h2
      · refine Or.inr ⟨h1, ?_⟩
        have e3 : ({ s.put ok.dst v with η := s.η, n := s.n } : AState) = s.put ok.dst v := by rw [AState.put_heap]
        refine again (.tup []) s.η s.n lds hv (adr_lds _ _ _ _ (fun q hq => ?_) (by rw [e3]; exact h2))
        split at hq
        · rename_i hL
          rcases List.mem_cons.1 hq with rfl | hq
          · exact (hlds _).2 (Or.inr ⟨hL, rfl⟩)
          · exact (hlds _).2 (Or.inl hq)
        · exact (hlds _).2 (Or.inl hq)
    rcases h with ⟨h1, h2⟩ | ⟨h1, h2⟩
    · rw [if_neg (by simp [hch])] at h2
      split at h2
      · rename_i v hv
        have := adr_front hi l1 _ _ (fun q hq => hl q (by simp [hq])) h2
        refine step v _ h1 hv (fun q => ?_) this
        split
        · rename_i hL; simp [hL, or_comm]
        · rename_i hL; simp [hL]
      · exact h2.elim
    · -- k is passed over
      have hh := adr_front hi l1 _ _ (fun q hq => hl q (by simp [hq])) h2
      rw [adr] at hh
      simp only [hi] at hh
      rw [aguard_iff, wantd_put (fun t ht => a1 t ht)] at hh
      have hev := ev_put (y := oi) (s := s) (v := .tup []) (ops := ops) (d := ok.dst) (fun t ht => a1 t ht)
      obtain ⟨pη, pn⟩ := AState.put_η (s := s) (d := ok.dst) (v := .tup [])
      have again : ∀ (u : AVal) (η' : AHeap) (n' : Nat) (lds2 : List (Nat × (AHeap → Prop))), adr P ops T (l1 ++ l2) lds2 K (({ s.put ok.dst (.tup []) with η := η', n := n' } : AState).put oi.dst u) →
          adr P ops T (k :: l1 ++ l2) lds2 K (({ s with η := η', n := n' } : AState).put oi.dst u) := fun u η' n' lds2 hr => by
        rw [List.cons_append, adr]
        simp only [hk]
        rw [aguard_iff, wantd_put (fun t ht => a3 t ht)]
        refine Or.inr ⟨h1, ?_⟩
        rw [AState.put_comm (fun x hx => a2' x hx)]
        rw [AState.put_heap] at hr
        exact hr
      have e3 : ({ s.put ok.dst (.tup []) with η := s.η, n := s.n } : AState) = s.put ok.dst (.tup []) := by rw [AState.put_heap]
      rcases hh with ⟨g1, g2⟩ | ⟨g1, g2⟩
      · refine Or.inl ⟨g1, ?_⟩
        by_cases hci : isChg oi.op = true
        · rw [if_pos hci] at g2 ⊢
          rw [achg_congr hev, pη, pn] at g2
          exact achg_mono (fun u η' n' ⟨k1, k2⟩ => ⟨k1, again u η' n' lds k2⟩) g2
        · rw [if_neg hci] at g2 ⊢
          have e2 : ∀ η, aval P oi (aev (s.put ok.dst (.tup [])).fr) η = aval P oi (aev s.fr) η := fun η => aval_congr hev
          rw [pη] at g2
          simp only [e2] at g2
          split
          · rename_i u hu
            simp only [hu] at g2
            exact again u s.η s.n _ (by rw [e3]; exact g2)
          · rename_i hu; simp only [hu] at g2
      · exact Or.inr ⟨g1, again (.tup []) s.η s.n lds (by rw [e3]; exact g2)⟩

theorem adr_any {κ : Kap} {Q : Exit → Act → World → Prop} (hQ : ∀ s a w, K s → RelE κ s a w → Q .normal a w) (hcl : closedT ops T = true) : ∀ (m : Nat) (l : List Nat) (listed : Array Bool) (lds : List (Nat × (AHeap → Prop))) (s : AState) (a : Act) (w : World),
    l.length = m → (∀ i, i < ops.size → (i ∈ l ↔ listed.getD i true = false)) → (∀ i ∈ l, i < ops.size) → listed.size = ops.size → (∀ j, j < ops.size → j ∉ l → ∀ k, (T.getD j []).contains k = true → k ∉ l) →
    (∀ l1 i l2, l = l1 ++ i :: l2 → ∃ oi, ops[i]? = some oi ∧ i ∉ l1 ∧ i ∉ l2 ∧ (∀ e ∈ oi.after, Region.binds .any e = true → e.on < ops.size ∧ e.on ∉ i :: l2) ∧ ∀ k ∈ l1, (T.getD i []).contains k = true ∨ ∃ ok, ops[k]? = some ok ∧ ok.apart ops oi = true ∧ isChg ok.op = false) →
    RelE κ s a w → adr P ops T l lds K s → wpAny P .any ops Q m listed a w
  | m, l, listed, lds, s, a, w, hm, hl, hlt, hsz, hD, hC, hr, h => by
    have hready : ∀ i, i ∈ Region.ready .any ops listed → i ∈ l ∧ ∃ o, ops[i]? = some o ∧ ∀ e ∈ o.after, Region.binds .any e = true → listed.getD e.on false = true := fun i hi => by
      obtain ⟨h1, o, ho, h2⟩ := mem_ready.1 hi
      have hio : i < ops.size := (Array.getElem?_eq_some_iff.1 ho).1
      exact ⟨(hl i hio).2 h1, o, ho, h2⟩
    have hfirst : ∀ i l', l = i :: l' → i ∈ Region.ready .any ops listed := fun i l' e => by
      obtain ⟨oi, ho, _, _, h3, _⟩ := hC [] i l' e
      refine mem_ready.2 ⟨(hl i (hlt i (by rw [e]; simp))).1 (by rw [e]; simp), oi, ho, fun ed hed hb => ?_⟩
      obtain ⟨k1, k2⟩ := h3 ed hed hb
      have hnl : ed.on ∉ l := by rw [e]; exact k2
      have hx : ¬ (listed.getD ed.on true = false) := fun hx => hnl ((hl ed.on k1).2 hx)
      have e1 : listed.getD ed.on true = listed.getD ed.on false := by
        rw [Array.getD_eq_getD_getElem?, Array.getD_eq_getD_getElem?, Array.getElem?_eq_getElem (by omega)]; rfl
      rw [← e1]; simpa using hx
    have hnil : Region.ready .any ops listed = [] → Q .normal a w := fun h0 => by
      cases l with
      | nil => exact hQ s a w h hr
      | cons i l' => have := hfirst i l' rfl; rw [h0] at this; simp at this
    cases m with
    | zero =>
      obtain rfl : l = [] := List.eq_nil_of_length_eq_zero hm
      refine ⟨?_, hQ s a w h hr⟩
      cases hrd : Region.ready .any ops listed with
      | nil => rfl
      | cons i r => have := (hready i (by rw [hrd]; simp)).1; simp at this
    | succ m =>
      refine ⟨hnil, fun i hi => ?_⟩
      obtain ⟨hil, o, ho, hpre⟩ := hready i hi
      have hio : i < ops.size := (Array.getElem?_eq_some_iff.1 ho).1
      obtain ⟨l1, l2, e⟩ := List.append_of_mem hil
      obtain ⟨oi, ho', n1, n2, h3, h4⟩ := hC l1 i l2 e
      rw [ho] at ho'; cases ho'
      have hpreT : ∀ k, (T.getD i []).contains k = true → k ∉ l := fun k hk => by
        have hcl' := List.all_eq_true.1 hcl i (List.mem_range.2 hio)
        simp only [ho] at hcl'
        have hc := List.all_eq_true.1 hcl' k (by simpa using hk)
        obtain ⟨ed, hed, hb⟩ := List.any_eq_true.1 hc
        simp only [Bool.and_eq_true, Bool.or_eq_true, beq_iff_eq] at hb
        obtain ⟨hb1, hb2⟩ := hb
        have hlisted := hpre ed (by simpa using hed) hb1
        obtain ⟨k1, _⟩ := h3 ed (by simpa using hed) hb1
        have hon : ed.on ∉ l := fun hin => by
          have := (hl ed.on k1).1 hin
          have e1 : listed.getD ed.on true = listed.getD ed.on false := by
            rw [Array.getD_eq_getD_getElem?, Array.getD_eq_getD_getElem?, Array.getElem?_eq_getElem (by omega)]; rfl
          rw [e1, hlisted] at this; cases this
        rcases hb2 with rfl | hb2
        · exact hon
        · exact hD ed.on k1 hon k hb2
      have hf : adr P ops T (i :: (l1 ++ l2)) lds K s := by
        refine adr_front ho l1 lds s (fun k hk => ?_) (by rw [← e]; exact h)
        have hT : (T.getD i []).contains k = false := by
          cases hc : (T.getD i []).contains k with
          | false => rfl
          | true => exact absurd (by rw [e]; simp [hk]) (hpreT k hc)
        refine ⟨hT, ?_⟩
        rcases h4 k hk with g | g
        · rw [hT] at g; cases g
        · exact g
      rw [adr] at hf
      simp only [ho] at hf
      -- what is left
      have hmem : ∀ j, j ∈ l1 ++ l2 ↔ j ∈ l ∧ j ≠ i := fun j => by
        rw [e]
        simp only [List.mem_append, List.mem_cons]
        constructor
        · rintro (h | h)
          · exact ⟨Or.inl h, fun e => n1 (e ▸ h)⟩
          · exact ⟨Or.inr (Or.inr h), fun e => n2 (e ▸ h)⟩
        · rintro ⟨h | h | h, hne⟩
          · exact Or.inl h
          · exact absurd h hne
          · exact Or.inr h
      have go : ∀ (lds' : List (Nat × (AHeap → Prop))) (s' : AState) (a' : Act) (w' : World), RelE κ s' a' w' → adr P ops T (l1 ++ l2) lds' K s' → wpAny P .any ops Q m (listed.setIfInBounds i true) a' w' := fun lds' s' a' w' hr' hh => by
        refine adr_any hQ hcl m (l1 ++ l2) (listed.setIfInBounds i true) lds' s' a' w' ?_ ?_ ?_ ?_ ?_ ?_ hr' hh
        · rw [e] at hm; simp at hm ⊢; omega
        · intro j hj
          by_cases hji : j = i
          · subst hji
            constructor
            · intro hin; exact absurd rfl ((hmem j).1 hin).2
            · intro hin
              have : (listed.setIfInBounds j true).getD j true = true := by rw [Array.getD_eq_getD_getElem?, Array.getElem?_setIfInBounds]; simp; split <;> rfl
              rw [this] at hin; cases hin
          · rw [hmem, getD_set_ne true (Ne.symm hji), hl j hj]
            exact ⟨fun h => h.1, fun h => ⟨h, hji⟩⟩
        · exact fun j hj => hlt j ((hmem j).1 hj).1
        · simpa using hsz
        · intro j hj hjn k hk hin
          by_cases hji : j = i
          · subst hji; exact hpreT k hk ((hmem k).1 hin).1
          · exact hD j hj (fun h => hjn ((hmem j).2 ⟨h, hji⟩)) k hk ((hmem k).1 hin).1
        · intro m1 j m2 hm12
          rcases List.append_eq_append_iff.1 hm12 with ⟨c, hc1, hc2⟩ | ⟨c, hc1, hc2⟩
          · -- j lies in l2
            subst hc1
            obtain ⟨oj, q1, q2, q3, q4, q5⟩ := hC (l1 ++ i :: c) j m2 (by rw [e, hc2]; simp)
            refine ⟨oj, q1, fun hin => q2 ?_, q3, q4, fun k hk => q5 k ?_⟩
            · rcases List.mem_append.1 hin with h | h
              · simp [h]
              · simp [h]
            · rcases List.mem_append.1 hk with h | h
              · simp [h]
              · simp [h]
          · cases c with
            | nil =>
              simp at hc1 hc2
              subst hc1
              obtain ⟨oj, q1, q2, q3, q4, q5⟩ := hC (l1 ++ [i]) j m2 (by rw [e, ← hc2]; simp)
              exact ⟨oj, q1, fun hin => q2 (by simp [hin]), q3, q4, fun k hk => q5 k (by simp [hk])⟩
            | cons x c =>
              simp only [List.cons_append, List.cons.injEq] at hc2
              obtain ⟨rfl, hc2⟩ := hc2
              subst hc1
              obtain ⟨oj, q1, q2, q3, q4, q5⟩ := hC m1 j (c ++ i :: l2) (by rw [e]; simp)
              refine ⟨oj, q1, q2, fun hin => q3 ?_, fun ed hed hb => ⟨(q4 ed hed hb).1, fun hin => (q4 ed hed hb).2 ?_⟩, q5⟩
              · rw [hc2] at hin
                rcases List.mem_append.1 hin with h | h
                · simp [h]
                · simp [h]
              · rw [hc2] at hin
                rcases List.mem_cons.1 hin with h | h
                · simp [h]
                · rcases List.mem_append.1 h with h | h
                  · simp [h]
                  · simp [h]
      unfold wpOp
      rw [ho]
      simp only
      rcases aguard_sound hr hf with ⟨g1, g2⟩ | ⟨g1, g2⟩
      · rw [if_pos g1]
        refine Or.inl ?_
        obtain ⟨own, M, hR⟩ := hr
        split at g2
        · refine achg_sound hR.st (aev_sound hR.fr) g2 fun u w' ho' => ?_
          obtain ⟨v, η', n', k1, k2⟩ := hR.out ho' o.dst
          exact go _ _ _ w' k2 k1.2
        · split at g2
          · rename_i v hv
            obtain ⟨u, k1, k2⟩ := aval_sound hR.st (aev_sound hR.fr) hv
            unfold Oper.wp
            rw [k1]
            exact go _ _ _ w ⟨own, M, hR.put o.dst k2⟩ g2
          · exact g2.elim
      · rw [if_neg (by rw [g1]; simp)]
        obtain ⟨own, M, hR⟩ := hr
        exact go _ _ _ w ⟨own, M, hR.put _ vr_skip⟩ g2

theorem canonGo_spec : ∀ (l ahead : List Nat), canonGo ops T ahead l = true → (∀ i ∈ l, i < ops.size ∧ i ∉ ahead) ∧ l.Nodup ∧
    ∀ l1 i l2, l = l1 ++ i :: l2 → ∃ oi, ops[i]? = some oi ∧ (∀ e ∈ oi.after, Region.binds .any e = true → e.on < ops.size ∧ (e.on ∈ ahead ∨ e.on ∈ l1)) ∧ ∀ k ∈ l1, (T.getD i []).contains k = true ∨ ∃ ok, ops[k]? = some ok ∧ ok.apart ops oi = true ∧ isChg ok.op = false
  | [], ahead, _ => ⟨by simp, List.nodup_nil, fun l1 i l2 e => by simp at e⟩
  | x :: l, ahead, h => by
    simp only [canonGo, Bool.and_eq_true] at h
    obtain ⟨h1, h2⟩ := h
    obtain ⟨r1, r2, r3⟩ := canonGo_spec l (x :: ahead) h2
    cases hx : ops[x]? with
    | none => rw [hx] at h1; simp at h1
    | some o =>
      rw [hx] at h1
      simp only [Bool.and_eq_true] at h1
      obtain ⟨⟨a1, a2⟩, a3⟩ := h1
      have hxl : x < ops.size := (Array.getElem?_eq_some_iff.1 hx).1
      have hxa : x ∉ ahead := by simpa using a1
      have hpre : ∀ e ∈ o.after, Region.binds .any e = true → e.on < ops.size ∧ e.on ∈ ahead := fun e he hb => by
        have := List.all_eq_true.1 a2 e (by simpa using he)
        simp [hb] at this
        exact ⟨this.2, this.1⟩
      refine ⟨fun i hi => ?_, List.nodup_cons.2 ⟨fun hi => (r1 x hi).2 (by simp), r2⟩, fun l1 i l2 e => ?_⟩
      · rcases List.mem_cons.1 hi with rfl | hi
        · exact ⟨hxl, hxa⟩
        · exact ⟨(r1 i hi).1, fun h => (r1 i hi).2 (by simp [h])⟩
      · cases l1 with
        | nil =>
          simp at e
          obtain ⟨rfl, rfl⟩ := e
          exact ⟨o, hx, fun e he hb => ⟨(hpre e he hb).1, Or.inl (hpre e he hb).2⟩, by simp⟩
        | cons y l1 =>
          simp at e
          obtain ⟨rfl, e⟩ := e
          obtain ⟨oi, q1, q2, q3⟩ := r3 l1 i l2 e
          refine ⟨oi, q1, fun ed hed hb => ⟨(q2 ed hed hb).1, ?_⟩, fun k hk => ?_⟩
          · rcases (q2 ed hed hb).2 with h | h
            · rcases List.mem_cons.1 h with rfl | h
              · exact Or.inr (by simp)
              · exact Or.inl h
            · exact Or.inr (by simp [h])
          · rcases List.mem_cons.1 hk with rfl | hk
            · -- k came up when i was looked at
              have hcg : ∀ (l1 ahead : List Nat), canonGo ops T ahead (l1 ++ i :: l2) = true → k ∈ ahead → (T.getD i []).contains k = true ∨ ∃ ok, ops[k]? = some ok ∧ ok.apart ops oi = true ∧ isChg ok.op = false := by
                intro l1
                induction l1 with
                | nil =>
                  intro ahead hg hk
                  simp only [List.nil_append, canonGo, Bool.and_eq_true, q1] at hg
                  have := List.all_eq_true.1 hg.1.2 k hk
                  simp only [Bool.or_eq_true] at this
                  rcases this with h | h
                  · exact Or.inl h
                  · cases hk2 : ops[k]? with
                    | none => rw [hk2] at h; simp at h
                    | some ok =>
                      rw [hk2] at h
                      simp only [Bool.and_eq_true, Bool.not_eq_true'] at h
                      exact Or.inr ⟨ok, rfl, h.1, h.2⟩
                | cons y l1 ih =>
                  intro ahead hg hk
                  simp only [List.cons_append, canonGo, Bool.and_eq_true] at hg
                  exact ih (y :: ahead) hg.2 (by simp [hk])
              exact hcg l1 (k :: ahead) (by rw [← e]; exact h2) (by simp)
            · exact q3 k hk

theorem nodup_bound : ∀ (n : Nat) (l : List Nat), l.Nodup → (∀ x ∈ l, x < n) → l.length ≤ n
  | 0, l, _, h => by
    cases l with
    | nil => simp
    | cons x l => have := h x (by simp); omega
  | n + 1, l, hn, h => by
    by_cases hm : n ∈ l
    · have := nodup_bound n (l.erase n) (hn.erase n) (fun x hx => by
        have h1 := h x (List.mem_of_mem_erase hx)
        have h2 : x ≠ n := fun e => by subst e; exact (List.Nodup.not_mem_erase hn) hx
        omega)
      rw [List.length_erase_of_mem hm] at this; omega
    · have := nodup_bound n l hn (fun x hx => by
        have h1 := h x hx
        have h2 : x ≠ n := fun e => by subst e; exact hm hx
        omega)
      omega
theorem nodup_all (n : Nat) (l : List Nat) (hn : l.Nodup) (h : ∀ x ∈ l, x < n) (hl : l.length = n) (i : Nat) (hi : i < n) : i ∈ l := by
  by_cases hm : i ∈ l
  · exact hm
  · have := nodup_bound n (i :: l) (List.nodup_cons.2 ⟨hm, hn⟩) (fun x hx => by
      rcases List.mem_cons.1 hx with rfl | hx
      · exact hi
      · exact h x hx)
    simp at this; omega

/-- A region that draws its order, by one order that fits. -/
theorem DrawP.intro {id : Nat} {Q : Exit → AState → Prop} {s : AState} (hm : P.follows .mixedOrders = true) (l : List Nat) (hl : canonOK ops l = true) (h : adr P ops (preT ops) l [] (Q .normal) s) : DrawP P id ops Q s := by
  intro κ a w hr
  unfold canonOK at hl
  simp only [Bool.and_eq_true, beq_iff_eq] at hl
  obtain ⟨hcl, hlen, hgo⟩ := hl
  obtain ⟨c1, c2, c3⟩ := canonGo_spec l [] hgo
  have hall : ∀ i, i < ops.size → i ∈ l := fun i hi => nodup_all ops.size l c2 (fun x hx => (c1 x hx).1) hlen i hi
  refine wp_region_any hm ?_
  obtain ⟨own, M, hR⟩ := hr
  have hr' : RelE κ s a { w with drawn := w.drawn + 1 } := ⟨own, M, hR.st.drawn _, hR.fr, hR.nt, hR.df, hR.le, hR.mle, hR.frm.trans (Fr.drewN κ.D w _) fun _ _ h => h, hR.ob, hR.n⟩
  refine adr_any (K := Q .normal) (Q := Lift κ Q) (fun s a w hK hR => ⟨s, hK, hR⟩) hcl ops.size l (Array.replicate ops.size false) [] s a _ hlen (fun i hi => ?_) (fun i hi => (c1 i hi).1) (by simp) (fun j hj hn => absurd (hall j hj) hn) (fun l1 i l2 e => ?_) hr' h
  · have : (Array.replicate ops.size false).getD i true = false := by simp [Array.getD_eq_getD_getElem?, hi]
    simp [this, hall i hi]
  · obtain ⟨oi, q1, q2, q3⟩ := c3 l1 i l2 e
    have hnd := c2
    rw [e] at hnd
    have h1 := List.nodup_append.1 hnd
    have h2 := List.nodup_cons.1 h1.2.1
    refine ⟨oi, q1, fun hin => h1.2.2 i hin i (by simp) rfl, h2.1, fun ed hed hb => ⟨(q2 ed hed hb).1, fun hin => ?_⟩, q3⟩
    rcases (q2 ed hed hb).2 with h | h
    · simp at h
    · exact h1.2.2 ed.on h ed.on hin rfl
end
end Go.Proofs.Ytkhoelmbcmkhjaa
