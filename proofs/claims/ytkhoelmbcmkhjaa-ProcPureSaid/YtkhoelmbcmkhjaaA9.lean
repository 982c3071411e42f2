/- Abstract Go, 9: all that makes or writes. -/
import Derived.Test.YtkhoelmbcmkhjaaA8
namespace Go.Proofs.Ytkhoelmbcmkhjaa

section
variable {P : Program} {own : Own} {M : Mem} {η : AHeap} {n : Nat} {w : World} {K : AVal → AHeap → Nat → Prop}

theorem rep_get {α : Type} {zs : List α} : ∀ (len q : Nat) (c : α), (List.replicate len zs).flatten[q]? = some c → q < len * zs.length ∧ zs[q % zs.length]? = some c
  | 0, q, c, h => by simp at h
  | len + 1, q, c, h => by
    rw [List.replicate_succ, List.flatten_cons] at h
    rw [Nat.succ_mul]
    rcases Nat.lt_or_ge q zs.length with g | g
    · rw [List.getElem?_append_left g] at h
      exact ⟨by omega, by rw [Nat.mod_eq_of_lt g]; exact h⟩
    · rw [List.getElem?_append_right g] at h
      obtain ⟨h1, h2⟩ := rep_get len _ c h
      exact ⟨by omega, by rw [Nat.mod_eq_sub_mod g]; exact h2⟩
theorem made_get {zs : List AVal} {z : Array Value} (hs : z.size = zs.length) (hc : ∀ (i : Nat) (c : AVal), zs[i]? = some c → VR own M c (z.getD i undef)) {m q : Nat} {c : AVal} (hq : q < m) (h : zs[q % zs.length]? = some c) :
    VR own M c ((madeCells z m).getD q undef) := by
  have := hc _ c h
  have hl := (List.getElem?_eq_some_iff.1 h).1
  have e : (madeCells z m).getD q undef = z.getD (q % zs.length) undef := by
    unfold madeCells
    rw [Array.getD_eq_getD_getElem?]
    simp only [Array.getElem?_map, Array.getElem?_range, hq, if_true, Option.map_some, Option.getD_some, hs]
    rw [Array.getD_eq_getD_getElem?, Array.getElem?_eq_getElem (by omega)]
    simp [getElem!_pos, hs, hl]
  rw [e]; exact this

theorem anil_sound {x : AVal} {u : Value} {K : Bool → Prop} (hx : VR own M x u) (h : anil x K) : ∃ a n c, u = .slice a n c ∧ K a.isNone := by
  cases hx <;> simp only [anil] at h
  · exact ⟨none, 0, 0, rfl, h⟩
  · rename_i a; refine ⟨a, 0, 0, rfl, ?_⟩
    cases a with
    | some a => exact h.1
    | none => exact h.2
  · rename_i r o n p a cap hr hn hm hc
    refine ⟨a, n, cap, rfl, ?_⟩
    cases a with
    | some a => exact h.1
    | none =>
      refine h.2 ?_
      rcases Nat.eq_zero_or_pos cap with h0 | h0
      · omega
      · have := (hc h0).1; cases this
  · rename_i k rows a cap b o arr hn hm hxl ha hb hk hl hc
    refine ⟨a, _, cap, rfl, ?_⟩
    cases a with
    | some a => exact h.1
    | none =>
      refine h.2 ?_
      rcases Nat.eq_zero_or_pos rows.length with h0 | h0
      · exact List.eq_nil_of_length_eq_zero h0
      · have := ha h0; cases this
  · exact ⟨_, _, _, rfl, h⟩

theorem zero_info {e : TypeId} {zs : List AVal} {b : Nat} (hz : tzero P e = some zs) (hb : tbytes P e = some b) : ∃ i z, P.info? e = some i ∧ i.zero = some z ∧ i.size = zs.length ∧ z.cells.size = zs.length ∧ i.bytes = b ∧ (∀ c ∈ zs, c.sc = true) ∧
    ∀ (q : Nat) (c : AVal), zs[q]? = some c → VR own M c (z.cells.getD q undef) := by
  obtain ⟨z, z1, z2, z3, z4, z5⟩ := zero_run (own := own) (M := M) hz (default : World)
  unfold tbytes at hb
  cases hi : P.info? e with
  | none => rw [hi] at hb; simp at hb
  | some i =>
    rw [hi] at hb; simp at hb
    unfold tsize at z5; rw [hi] at z5; simp at z5
    unfold zeroValue typeInfo at z1
    simp only [Sem.run_bind, run_program, Result.andThen_ok, hi, Sem.run_pure] at z1
    cases hiz : i.zero with
    | none => rw [hiz] at z1; simp at z1
    | some zv =>
      rw [hiz] at z1; simp at z1
      subst z1
      exact ⟨i, zv, rfl, hiz, z5, z2, hb, z3, z4⟩

theorem aappend_sound (hst : St own M η n w) {t t2 ty : TypeId} {d x : AVal} {u v : Value} (hd : VR own M d u) (hx : VR own M x v) (h : aappend P t t2 d x η n K) :
    ∃ y w', (Builtin.append_ #[t, t2] ty #[u, v]).run P w = .ok y w' ∧ Out own M η n w K y w' := by
  unfold aappend at h
  split at h
  · rename_i e hte
    have hu := telem_run hte
    split at h
    · -- zeros
      rename_i zs b hz hb hi64
      split at h
      · rename_i m
        obtain ⟨h0, h1, h2, h3, h4⟩ := h
        obtain ⟨i, z, i1, i2, i3, i4, i5, i6, i7⟩ := zero_info (own := own) (M := M) hz hb
        cases hd; cases hx
        unfold lenMax at h3
        obtain ⟨q, rfl⟩ : ∃ q : Nat, m = (q : Int) := ⟨m.toNat, by omega⟩
        simp only [Int.toNat_natCast] at h4
        have hw : IntKind.i64.wrap (q : Int) = (q : Int) := by rw [IntKind.wrap_i64]; omega
        rcases Nat.eq_zero_or_pos q with rfl | hq
        · refine ⟨.slice none 0 0, w, ?_, ?_⟩
          · simp [Builtin.append_, run_underlying hu, run_underlying hi64, sizeOf, typeInfo, i1, asInt, asIntOf, IntKind.wrap_i64]
          · have hfn := hst.fresh n (Nat.le_refl _)
            simp at h4
            refine ⟨.sl n 0 0, _, n + 1, own.put n ⟨0, 0, 0, zs.length⟩, M, h4, Nat.le_succ _, hst.add ⟨rfl, h0, by simp, by simp, fun h => by simp at h, fun i j row c hi => by simp at hi⟩ (fun h => by simp at h) (fun _ _ => rfl) (fun _ _ _ => rfl),
              .sl n 0 0 ⟨0, 0, 0, zs.length⟩ none 0 (by simp [Own.put]) (Nat.le_refl _) (by omega) (fun h => by omega), Own.le_put hfn _, Mem.le_refl _, Fr.refl _ _, fun b hb => ?_, fun b hb => Or.inl hb⟩
            obtain ⟨r, p, o, k1, k2, k3, k4⟩ := hb
            by_cases e : r = n
            · subst e; simp only [Own.put, if_true, Option.some.injEq] at k2; subst k2; simp at k3
            · rw [upd_ne e] at k1; simp only [Own.put, if_neg e] at k2
              exact Or.inl ⟨r, p, o, k1, k2, k3, k4⟩
        · have hge := grownCap_ge w q 0 e
          have hcm := grownCap_le_maxLen w q 0 e (by unfold maxLen; omega)
          unfold maxLen at hcm
          have n1 : ¬ ((q : Int) * i.bytes > 281474976710656) := by rw [i5]; omega
          have n3 : ¬ (q = 0) := by omega
          have n2 : ¬ (281474976710656 < Builtin.nextslicecap q 0 * i.bytes) := by
            rw [nextslicecap_zero hq, i5]
            have : ((q * b : Nat) : Int) ≤ 140737488355328 := by rw [Int.natCast_mul]; exact h2
            omega
          have n4 : ¬ (9223372036854775807 < (q : Int)) := by omega
          have hrun : (Builtin.append_ #[t, t2] ty #[.slice none 0 0, .int .i64 q]).run P w = .ok (.slice (some ⟨w.heap.size, 0, none⟩) q (grownCap w q 0 e))
              (w.drew.alloc (.cells (Builtin.zeroCells z.cells q ++ Builtin.zeroCells z.cells (grownCap w q 0 e - q)) e)) := by
            have n5 : ¬ (zs.length = 0) := by omega
            have n6 : ¬ ((q : Int) < 0) := by omega
            simp [Builtin.append_, run_underlying hu, run_underlying hi64, sizeOf, typeInfo, zeroValue, i1, i2, i3, asInt, asIntOf, hw, n1, n2, n3, n4, n6, Question.forced, Builtin.firstCells, newRow, grownCap]
            intro hx; exact absurd hx (by have : 0 < q * zs.length := Nat.mul_pos hq h0; omega)
          refine ⟨_, _, hrun, ?_⟩
          have hsz : (Builtin.zeroCells z.cells q ++ Builtin.zeroCells z.cells (grownCap w q 0 e - q)).size = grownCap w q 0 e * zs.length := by
            simp only [Array.size_append, size_zeroCells, i4, ← Nat.add_mul]
            congr 1; omega
          have e1 : ∀ x, x < q * zs.length → (Builtin.zeroCells z.cells q ++ Builtin.zeroCells z.cells (grownCap w q 0 e - q)).getD x undef = (madeCells z.cells (q * zs.length)).getD x undef := fun x hx => by
            rw [Array.getD_eq_getD_getElem?, Array.getElem?_append_left (by rw [size_zeroCells, i4]; exact hx), ← Array.getD_eq_getD_getElem?]
            unfold Builtin.zeroCells madeCells
            rw [i4]
          generalize (Builtin.zeroCells z.cells q ++ Builtin.zeroCells z.cells (grownCap w q 0 e - q)) = A at *
          refine Out.new (w1 := w.drew) hst h0 (rows := List.replicate q zs) (fun row hr => by rw [(List.mem_replicate.1 hr).2]) (by rw [hsz]; simp; exact Nat.mul_le_mul_right _ hge) (fun i' j row c hi' hj => ?_) ⟨rfl, rfl, rfl, rfl⟩
            (.sl n 0 q ⟨w.heap.size, 0, A.size, zs.length⟩ _ _ (by simp [Own.put]) hge (by omega) fun _ => ⟨by simp, by simp [hsz]⟩) h4
          have hil := (List.getElem?_eq_some_iff.1 hi').1
          have hrow := (List.mem_replicate.1 (List.mem_of_getElem? hi')).2
          subst hrow
          have hjl := (List.getElem?_eq_some_iff.1 hj).1
          simp at hil
          have hx1 : (i' + 1) * row.length ≤ q * row.length := Nat.mul_le_mul_right _ hil
          rw [Nat.succ_mul] at hx1
          rw [e1 _ (by omega)]
          refine made_get i4 i7 (by omega) ?_
          have : (i' * row.length + j) % row.length = j := by rw [Nat.mul_comm, Nat.mul_add_mod, Nat.mod_eq_of_lt hjl]
          rw [this]; exact hj
      · exact h.elim
    · -- rows
      rename_i zs b e' hz hb ht2
      obtain ⟨rfl, h0, h⟩ := h
      split at h
      · rename_i news hn
        obtain ⟨hsc, h⟩ := h
        obtain ⟨i, z, i1, i2, i3, i4, i5, i6, i7⟩ := zero_info (own := own) (M := M) hz hb
        obtain ⟨xa, cap, rfl, x1, x2, x3, x4⟩ := arows_sound hst h0 hx hn
        have hvals : ∃ vals : List Value, vals.length = news.length * zs.length ∧ (0 < news.length → ∃ ad, xa = some ad ∧ ∀ j u, vals[j]? = some u → w.cell? (ad.add j) = some u) ∧
            ∀ (i j : Nat) (row : List AVal) (c : AVal), news[i]? = some row → row[j]? = some c → VR own M c (vals.getD (i * zs.length + j) undef) := by
          rcases Nat.eq_zero_or_pos news.length with hn0 | hn0
          · have : news = [] := List.eq_nil_of_length_eq_zero hn0
            subst this
            exact ⟨[], by simp, fun h => by simp at h, fun i j row c h => by simp at h⟩
          · obtain ⟨bb, oo, rfl, hc⟩ := x4 hn0
            obtain ⟨vals, v1, v2, v3⟩ := rows_cells (own := own) (M := M) (w := w) news h0 x3 hc
            exact ⟨vals, v1, fun _ => ⟨_, rfl, v2⟩, v3⟩
        obtain ⟨vals, v1, v2, v3⟩ := hvals
        split at h
        · obtain ⟨b1, b2, b3⟩ := h
          cases hd
          exact append_fresh hst none hu i1 i2 i3 i4 h0 x3 v1 v3 v2 (by rw [i5]; exact b1) b2 b3
        · obtain ⟨b1, b2, b3⟩ := h
          cases hd
          exact append_fresh hst _ hu i1 i2 i3 i4 h0 x3 v1 v3 v2 (by rw [i5]; exact b1) b2 b3
        · split at h
          · rename_i k rows hη
            obtain ⟨rfl, b2, b3, b4, b5⟩ := h
            refine append_own hst hη hd b2 hu i1 i2 i3 i4 x3 v1 v3 v2 (fun y hy => ?_) (by rw [i5]; exact b3) b4 b5
            obtain ⟨q, hq⟩ := List.mem_iff_getElem?.1 hy
            have hql := (List.getElem?_eq_some_iff.1 hq).1
            rw [v1] at hql
            have hi' : q / zs.length < news.length := Nat.div_lt_of_lt_mul (by rw [Nat.mul_comm]; exact hql)
            have hrow := x3 _ (List.getElem_mem hi')
            have hj' : q % zs.length < news[q / zs.length].length := by rw [hrow]; exact Nat.mod_lt _ h0
            have hvr := v3 _ _ _ _ (List.getElem?_eq_getElem hi') (List.getElem?_eq_getElem hj')
            have e1 : q / zs.length * zs.length + q % zs.length = q := by rw [Nat.mul_comm, Nat.div_add_mod]
            rw [e1, List.getD_eq_getElem?_getD, hq] at hvr
            exact hvr.oneCell (hsc _ (List.getElem_mem hi') _ (List.getElem_mem hj'))
          · exact h.elim
        · exact h.elim
      · exact h.elim
    · exact h.elim
  · exact h.elim

/-- a new map -/
theorem makeMap_sound (hst : St own M η n w) {t : TypeId} (hK : K (.mp n) (upd η n (some (.map []))) (n + 1)) : ∃ y w', (Instr.makeMap t none).run P w = .ok y w' ∧ Out own M η n w K y w' := by
  have hfn := hst.fresh n (Nat.le_refl _)
  have hle := Own.le_put hfn ⟨w.heap.size, 0, 1, 1⟩
  have hold : ∀ b, b < w.heap.size → (w.alloc (.map #[] 0)).heap[b]? = w.heap[b]? := fun b hb => Go.RowKit.Below.heap_alloc _ _ _ hb
  refine ⟨.map (some w.heap.size), w.alloc (.map #[] 0), ?_, .mp n, _, n + 1, own.put n ⟨w.heap.size, 0, 1, 1⟩, M, hK, Nat.le_succ _, hst.add (p := ⟨w.heap.size, 0, 1, 1⟩) ?_ (fun _ r q o hr hq hs => ?_) (fun b hb => hold b (OB.lt hst hb)) (fun b a hM => hold b (hst.mem_lt hM)), .mp n ⟨w.heap.size, 0, 1, 1⟩ (by simp [Own.put]), hle, Mem.le_refl _, Fr.alloc _ _ _, fun b hb => ?_, fun b hb => Or.inl hb⟩
  · unfold Instr.makeMap
    simp only [Sem.run_bind, run_newObj, Result.andThen_ok, Sem.run_pure]
    first | rfl | (simp; done)
  · refine ⟨by simp, ?_, #[], 0, ?_, rfl, by simp, fun i e x hi => by simp at hi⟩
    · cases hM : M w.heap.size with
      | none => rfl
      | some a => have := hst.mem_lt hM; omega
    · show (w.heap.push _)[w.heap.size]? = _
      simp
  · obtain ⟨q', g1, g2⟩ := hst.obj r o hr
    rw [hq] at g1; cases g1
    have := g2.lt hs
    simp only; omega
  · rcases OB.add hfn hb with h | h
    · exact Or.inl h
    · exact Or.inr (by rw [h]; exact Nat.le_refl _)
theorem achg_sound (hst : St own M η n w) {o : Oper} {a : Act} {ρ : Operand → AVal} (hρ : ∀ x, VR own M (ρ x) (a.eval x)) (h : achg P o ρ η n K) {next : Act → World → Prop} {Q : Exit → Act → World → Prop}
    (hnext : ∀ u w', Out own M η n w K u w' → next (a.put o.dst u) w') : o.wp P a w next Q := by
  have val : ∀ (s : Sem Value), (∃ y w', s.run P w = .ok y w' ∧ Out own M η n w K y w') → (execOp a.eval o = do pure (.value (← s))) → o.wp P a w next Q := fun s ⟨y, w', k1, k2⟩ e => by
    unfold Oper.wp
    rw [e]
    simp only [Sem.run_bind, k1, Result.andThen_ok, Sem.run_pure]
    exact hnext _ _ k2
  unfold achg at h
  cases hop : o.op <;> rw [hop] at h <;> simp only at h
  case alloc t =>
    split at h
    · rename_i cs hz
      obtain ⟨z, z1, z2, z3, z4, z5⟩ := zero_run (own := own) (M := M) hz w
      have hlen : 0 < cs.length := List.length_pos_iff.2 h.1
      refine val _ ⟨_, _, ?_, Out.new (w1 := w) (arr := z.cells) (T := t) hst hlen (rows := [cs]) (by simp) (by simp; omega) (fun i j row c hi hj => ?_) ⟨rfl, rfl, rfl, rfl⟩ (.ptr n 0 0 ⟨w.heap.size, 0, z.cells.size, cs.length⟩ (by simp [Own.put])) h.2⟩ (by unfold execOp; rw [hop])
      · unfold Instr.alloc newVar newRow
        simp only [Sem.run_bind, z1, Result.andThen_ok, Sem.run_pure, run_newObj, Nat.zero_mul, Nat.add_zero]
        rfl
      · cases i with
        | zero => simp at hi; subst hi; simpa using z4 j c hj
        | succ i => simp at hi
    · exact h.elim
  case box t x =>
    split at h
    · rename_i z hz
      obtain ⟨h1, h2, h3, h4⟩ := h
      obtain ⟨c1, c2⟩ := vr_cells (hρ x) h2
      refine val _ ⟨_, _, ?_, Out.new (w1 := w) (arr := (a.eval x).cells) (T := t) hst h3 (rows := [acells (ρ x)]) (by simpa using h1) (by simp; omega) (fun i j row c hi hj => ?_) ⟨rfl, rfl, rfl, rfl⟩ (.ptr n 0 0 ⟨w.heap.size, 0, (a.eval x).cells.size, z⟩ (by simp [Own.put])) h4⟩ (by unfold execOp; rw [hop])
      · unfold Instr.box newVar newRow
        simp only [Sem.run_bind, Result.andThen_ok, Sem.run_pure, run_newObj, Nat.zero_mul, Nat.add_zero]
        rfl
      · cases i with
        | zero => simp at hi; subst hi; simpa using c2 j c hj
        | succ i => simp at hi
    · exact h.elim
  case buildSlice t len parts =>
    split at h
    · rename_i e hte
      have hu := telem_run hte
      split at h
      · rename_i zs hz
        split at h
        · rename_i cs hf
          obtain ⟨h0, h1, h2⟩ := h
          obtain ⟨z, z1, z2, z3, z4, z5⟩ := zero_run (own := own) (M := M) hz w
          have hs := tsize_run z5 w
          have hrl : (List.replicate len zs).flatten.length = len * zs.length := by simp
          obtain ⟨B, k1, k2, k3, k4⟩ := fill_sound (own := own) (M := M) (place := fun i => some (i * zs.length, zs.length)) (parts.toList.map fun p => (p.1, ρ p.2)) (parts.map fun p => (p.1, a.eval p.2)).toList (List.replicate len zs).flatten (madeCells z.cells (len * zs.length)) cs
            (by rw [← hf]; congr 1; simp) (by simp) (fun i p q hp hq => by
              rw [List.getElem?_map] at hp
              rw [Array.getElem?_toList, Array.getElem?_map] at hq
              cases hx : parts[i]? with
              | none => rw [hx] at hq; simp at hq
              | some x =>
                rw [Array.getElem?_toList, hx] at hp
                rw [hx] at hq
                simp at hp hq; subst hp hq
                exact ⟨rfl, hρ x.2⟩) (by rw [hrl]; simp [madeCells]) (fun c hc => by
              obtain ⟨l, hl, hcl⟩ := List.mem_flatten.1 hc
              rw [(List.mem_replicate.1 hl).2] at hcl
              exact z3 c hcl) (fun q c hq => by
              obtain ⟨q1, q2⟩ := rep_get len q c hq
              exact made_get z2 z4 q1 q2)
          have hcl : cs.length = len * zs.length := by
            have : ∀ (parts : List (Nat × List AVal)) (c0 out : List AVal), afillP (fun i => some (i * zs.length, zs.length)) c0 parts = some out → out.length = c0.length := by
              intro parts
              induction parts with
              | nil => intro c0 out h; simp [afillP] at h; rw [h]
              | cons p ps ih =>
                intro c0 out h
                simp only [afillP] at h
                split at h
                · rename_i hh; rw [ih _ _ h]; simp; omega
                · cases h
            rw [this _ _ _ hf, hrl]
          obtain ⟨c1, c2, c3⟩ := chunk_get len cs hcl
          refine val _ ⟨_, _, ?_, Out.new (w1 := w) (arr := B) (T := e) hst h0 (rows := chunk zs.length len cs) c2 (by rw [c1]; omega) (fun i j row c hi hj => k4 _ c (c3 i j row c hi hj)) ⟨rfl, rfl, rfl, rfl⟩
            (.sl n 0 len ⟨w.heap.size, 0, B.size, zs.length⟩ (some ⟨w.heap.size, 0, none⟩) len (by simp [Own.put]) (Nat.le_refl _) (by have : len * 1 ≤ len * zs.length := Nat.mul_le_mul_left len h0; omega) fun _ => ⟨by simp, by simp; omega⟩) h2⟩ (by unfold execOp; rw [hop])
          have hpl : (madeCells z.cells (len * zs.length)) = (Array.range (len * zs.length)).map (z.cells[· % z.cells.size]!) := rfl
          rw [hpl] at k1
          unfold Instr.buildSlice underlying newRow
          have n1 : ¬ (16777216 < len * zs.length) := by omega
          by_cases hl0 : len * zs.length = 0
          · simp [hu, hs, hl0, Array.range_zero'] at k1 ⊢
            simp [k1]
          · simp [hu, hs, n1, hl0, z1] at k1 ⊢
            simp [k1]
        · exact h.elim
      · exact h.elim
    · exact h.elim
  case makeSlice t l c =>
    split at h
    · rename_i e kl l' kc c' hte el ec
      have hu := telem_run hte
      split at h
      · rename_i zs b hz hb
        obtain ⟨h0, h1, h2, h3, h4, h5⟩ := h
        obtain ⟨z, z1, z2, z3, z4, z5⟩ := zero_run (own := own) (M := M) hz w
        have hl := hρ l; have hc := hρ c
        rw [el] at hl; rw [ec] at hc
        generalize hlv : a.eval l = lv at hl; generalize hcv : a.eval c = cv at hc
        cases hl; cases hc
        unfold tbytes at hb
        cases hi : P.info? e with
        | none => rw [hi] at hb; simp at hb
        | some i =>
          rw [hi] at hb; simp at hb
          unfold tsize at z5; rw [hi] at z5; simp at z5
          unfold zeroValue typeInfo at z1
          simp only [Sem.run_bind, run_program, Result.andThen_ok, hi, Sem.run_pure] at z1
          cases hiz : i.zero with
          | none => rw [hiz] at z1; simp at z1
          | some zv =>
            rw [hiz] at z1; simp at z1
            subst z1
            have hrun := run_make (P := P) w t e i zv hu hi hiz kl kc l' c' h1 h2 (by rw [hb]; exact h3) h4
            have hsz : (madeCells zv.cells (c'.toNat * i.size)).size = c'.toNat * zs.length := by rw [z5]; simp [madeCells]
            refine val _ ⟨_, _, ?_, Out.new (w1 := w) (arr := madeCells zv.cells (c'.toNat * i.size)) (T := e) hst h0 (rows := List.replicate l'.toNat zs) (fun row hr => by rw [(List.mem_replicate.1 hr).2]) (by rw [hsz]; simp; exact Nat.mul_le_mul_right _ (by omega)) (fun i' j row c hi' hj => ?_) ⟨rfl, rfl, rfl, rfl⟩
              (.sl n 0 l'.toNat ⟨w.heap.size, 0, (madeCells zv.cells (c'.toNat * i.size)).size, zs.length⟩ (some ⟨w.heap.size, 0, none⟩) c'.toNat (by simp [Own.put]) (by omega) (by omega) fun _ => ⟨by simp, by simp [hsz]⟩) h5⟩ (by unfold execOp; rw [hop])
            · rw [hlv, hcv]; exact hrun
            · have hil := (List.getElem?_eq_some_iff.1 hi').1
              have hrow := (List.mem_replicate.1 (List.mem_of_getElem? hi')).2
              subst hrow
              have hjl := (List.getElem?_eq_some_iff.1 hj).1
              simp at hil
              have hx1 : (i' + 1) * row.length ≤ c'.toNat * row.length := Nat.mul_le_mul_right _ (by omega)
              rw [Nat.succ_mul] at hx1
              refine made_get z2 z4 (by rw [z5]; omega) ?_
              have : (i' * row.length + j) % row.length = j := by rw [Nat.mul_comm, Nat.mul_add_mod, Nat.mod_eq_of_lt hjl]
              rw [this]; exact hj
      · exact h.elim
    · exact h.elim
  case makeMap t rs =>
    cases rs with
    | some x => exact h.elim
    | none =>
      obtain ⟨y, w', k1, k2⟩ := makeMap_sound (P := P) (t := t) hst h
      exact val (Instr.makeMap t none) ⟨y, w', k1, k2⟩ (by unfold execOp; rw [hop]; rfl)
  case insert t m k x =>
    split at h
    · rename_i η' hs
      obtain ⟨w', k1, k2, k3, k4⟩ := insert_sound hst (hρ m) (hρ k) (hρ x) hs
      unfold Oper.wp execOp
      rw [hop]
      simp only [Sem.run_bind, k1, Result.andThen_ok, Sem.run_pure]
      exact hnext _ _ (Out.undef hst h k2 k3 k4)
    · exact h.elim
  case mapUpdate t m k x =>
    split at h
    · rename_i η' hs
      obtain ⟨w', k1, k2, k3, k4⟩ := insert_sound hst (hρ m) (hρ k) (hρ x) hs
      unfold Oper.wp execOp
      rw [hop]
      simp only [Sem.run_bind, k1, Result.andThen_ok, Sem.run_pure]
      exact hnext _ _ (Out.undef hst h k2 k3 k4)
    · exact h.elim
  case store t p x =>
    split at h
    · rename_i η' hs
      obtain ⟨w', k1, k2, k3, k4⟩ := astore_sound hst (hρ p) (hρ x) hs
      unfold Oper.wp execOp
      rw [hop]
      simp only [Sem.run_bind, k1, Result.andThen_ok, Sem.run_pure]
      exact hnext _ _ (Out.undef hst h k2 k3 k4)
    · exact h.elim
  case binOp op t x y ty =>
    have nil : ∀ (K' : Bool → Prop) (op' : BinOp), (op' = .eql ∨ op' = .neq) → o.op = .binOp op' t x y ty → (∀ b, K' b → K (.bool (if op' = .eql then b else !b)) η n) → (match P.underlying t, ρ y with
      | some (.slice _), .nils => anil (ρ x) K'
      | _, _ => False) → o.wp P a w next Q := fun K' op' ho' hop' hK h => by
      split at h
      · rename_i e hu hy
        have hx := hρ x; have hy' := hρ y
        rw [hy] at hy'
        obtain ⟨ad, m, c, e1, h1⟩ := anil_sound hx h
        have e2 : a.eval y = .slice none 0 0 := by generalize a.eval y = v at hy'; cases hy'; rfl
        have hdep : ∃ d, Op.maxDepth = d + 1 := ⟨9999, rfl⟩
        obtain ⟨d, hd⟩ := hdep
        have heq : (Op.equal t (.slice ad m c) (.slice none 0 0)).run P w = .ok ad.isNone w := by
          unfold Op.equal
          rw [hd]
          unfold Op.equalIn underlying
          simp only [Sem.run_bind, run_program, Result.andThen_ok, hu, Sem.run_pure]
          cases ad <;> rfl
        have hg : (eqGuard op' t x y (.slice ad m c) (.slice none 0 0)).run P w = .ok () w := guard_plain t x y _ _ rfl
        refine val _ ⟨.bool (if op' = .eql then ad.isNone else !ad.isNone), w, ?_, .bool (if op' = .eql then ad.isNone else !ad.isNone), η, n, own, M, hK _ h1, Nat.le_refl _, hst, .bool _, Own.le_refl _, Mem.le_refl _, Fr.refl _ _, fun b hb => Or.inl hb, fun b hb => Or.inl hb⟩ (by unfold execOp; rw [hop'])
        rw [e1, e2]
        simp only [Sem.run_bind, hg, Result.andThen_ok]
        exact binOp_eq ho' rfl heq
      · exact h.elim
    cases op <;> simp only at h <;> try exact h.elim
    · exact nil _ .eql (Or.inl rfl) hop (fun b hb => hb) h
    · exact nil _ .neq (Or.inr rfl) hop (fun b hb => hb) h
  case call c =>
    obtain ⟨callee, args, argTypes⟩ := c
    simp only at h
    have toA : ∀ {α : Type} {l : Array α} {m : List α}, l.toList = m → l = m.toArray := fun {α l m} e => by rw [← e]
    cases callee with
    | builtin b =>
      simp only at h
      split at h
      · rename_i d x t t2 ea et
        have ea := toA ea; have et := toA et; subst ea et
        refine val (Builtin.append_ #[t, t2] o.type #[a.eval d, a.eval x]) ?_ ?_
        · exact aappend_sound hst (hρ d) (hρ x) h
        · unfold execOp
          rw [hop]
          unfold resolve invoke builtin
          simp only [List.map_toArray, List.map_cons, List.map_nil, pure_bind]
      · rename_i d x t t2 ea et
        have ea := toA ea; have et := toA et; subst ea et
        refine val (Builtin.copy_ #[t, t2] o.type #[a.eval d, a.eval x]) ?_ ?_
        · exact acopy_sound hst (hρ d) (hρ x) h
        · unfold execOp
          rw [hop]
          unfold resolve invoke builtin
          simp only [List.map_toArray, List.map_cons, List.map_nil, pure_bind]
      · exact h.elim
    | value f =>
      simp only at h
      split at h
      · rename_i fid first caps ef
        obtain ⟨h1, h2⟩ := h
        have hf := hρ f
        rw [ef] at hf
        generalize hfv : a.eval f = fv at hf
        cases hf with
        | func _ _ _ F C hF hC hFc hCc =>
          obtain ⟨g1, g2⟩ := eval_map hρ args
          cases hfn : P.funcs[fid]? with
          | none => rw [hfn] at h1; simp at h1
          | some fn =>
            rw [hfn] at h1
            simp only [Option.any_some, Bool.and_eq_true, Bool.not_eq_true'] at h1
            have hrun : (execOp a.eval o).run P w = .ok (.enter fid (F ++ args.map a.eval ++ C)) w := by
              unfold execOp
              rw [hop]
              unfold resolve Deferred.ofValue invoke callFunc
              simp only [hfv, Sem.run_bind, run_program, Result.andThen_ok, Sem.run_pure, hfn, h1.2, Bool.false_eq_true, if_false]
              have : fn.body.isNone = false := by cases hb : fn.body <;> simp_all
              simp only [this, Bool.false_eq_true, if_false, Sem.run_pure]
            unfold Oper.wp
            rw [hrun]
            refine (h2 own M w (F ++ args.map a.eval ++ C) hst (by simp [hF, hC]) fun i c hi => ?_).mono fun e w' hh => ?_
            · rw [Array.getD_eq_getD_getElem?]
              rcases Nat.lt_or_ge i (first.length + args.size) with q1 | q1
              · rw [List.getElem?_append_left (by simp; omega)] at hi
                rw [Array.getElem?_append_left (by simp; omega)]
                rcases Nat.lt_or_ge i first.length with q2 | q2
                · rw [List.getElem?_append_left q2] at hi
                  rw [Array.getElem?_append_left (by omega), ← Array.getD_eq_getD_getElem?]
                  exact hFc i c hi
                · rw [List.getElem?_append_right q2] at hi
                  rw [Array.getElem?_append_right (by omega), ← Array.getD_eq_getD_getElem?, hF]
                  exact g2 _ c hi
              · rw [List.getElem?_append_right (by simp; omega)] at hi
                rw [Array.getElem?_append_right (by simp; omega), ← Array.getD_eq_getD_getElem?]
                have := hCc _ c hi
                simpa [hF] using this
            · obtain ⟨u, rfl, ho⟩ := hh
              exact hnext u w' ho
      · exact h.elim
    | invoke r m => exact h.elim
end
end Go.Proofs.Ytkhoelmbcmkhjaa
