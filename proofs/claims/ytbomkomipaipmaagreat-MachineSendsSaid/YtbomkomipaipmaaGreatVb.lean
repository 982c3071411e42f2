/- Abstract Go, 8: append; all that makes or writes. Abstract Go, 9: all that makes or writes. Abstract Go, 10: rows of operations, one behind the other. Abstract Go, 11: a function's code, and its contract. Abstract Go, 12: rewriting rules that evaluate a body. What stands behind a 'Tag' is not looked at before it is its turn. -/
import Derived.RangeFuncLeaves
import Derived.RangeFuncRecord
import Derived.Test.YtbomkomipaipmaaGreatVa
namespace Go.Proofs.YtbomkomipaipmaaGreat

section
variable {P : Program} {own : Own} {M : Mem} {η : AHeap} {n : Nat} {w : World} {K : AVal → AHeap → Nat → Prop}

/-- rows that lie in memory, as one list of cells -/
theorem rows_cells {k b o : Nat} {w : World} : ∀ (rows : List (List AVal)), 0 < k → (∀ row ∈ rows, row.length = k) →
    (∀ (i j : Nat) (row : List AVal) (c : AVal), rows[i]? = some row → row[j]? = some c → ∃ v, w.cell? ⟨b, o + i * k + j, none⟩ = some v ∧ VR own M c v) →
    ∃ news : List Value, news.length = rows.length * k ∧ (∀ j u, news[j]? = some u → w.cell? ((⟨b, o, none⟩ : Addr).add j) = some u) ∧
      ∀ (i j : Nat) (row : List AVal) (c : AVal), rows[i]? = some row → row[j]? = some c → VR own M c (news.getD (i * k + j) undef) := by
  intro rows hk hr hc
  have hfl : rows.flatten.length = rows.length * k := by
    rw [List.length_flatten]
    clear hc
    induction rows with
    | nil => simp
    | cons r rs ih => simp only [List.map_cons, List.sum_cons, List.length_cons, Nat.succ_mul, hr r (by simp), ih (fun row h => hr row (by simp [h]))]; omega
  have hget : ∀ (rows : List (List AVal)), (∀ row ∈ rows, row.length = k) → ∀ q c, rows.flatten[q]? = some c → ∃ row, rows[q / k]? = some row ∧ row[q % k]? = some c := by
    intro rows
    induction rows with
    | nil => intro _ q c h; simp at h
    | cons r rs ih =>
      intro hr q c h
      have hrl := hr r (by simp)
      rw [List.flatten_cons] at h
      rcases Nat.lt_or_ge q k with g | g
      · rw [List.getElem?_append_left (by omega)] at h
        exact ⟨r, by rw [Nat.div_eq_of_lt g]; rfl, by rw [Nat.mod_eq_of_lt g]; exact h⟩
      · rw [List.getElem?_append_right (by omega), hrl] at h
        obtain ⟨row, h1, h2⟩ := ih (fun row hx => hr row (by simp [hx])) (q - k) c h
        refine ⟨row, ?_, ?_⟩
        · rw [Nat.div_eq_sub_div hk g]; simpa using h1
        · rw [Nat.mod_eq_sub_mod g]; exact h2
  obtain ⟨news, h1, h2⟩ := list_pick (fun q c v => w.cell? ⟨b, o + q, none⟩ = some v ∧ VR own M c v) rows.flatten (fun q c hq => by
    obtain ⟨row, g1, g2⟩ := hget rows hr q c hq
    obtain ⟨v, k1, k2⟩ := hc _ _ row c g1 g2
    have e : o + q / k * k + q % k = o + q := by rw [Nat.add_assoc, Nat.mul_comm, Nat.div_add_mod]
    rw [e] at k1
    exact ⟨v, k1, k2⟩)
  refine ⟨news, by rw [h1, hfl], fun j u hj => ?_, fun i j row c hi hj => ?_⟩
  · rw [add_plain]
    have hjl := (List.getElem?_eq_some_iff.1 hj).1
    obtain ⟨v, k1, k2, _⟩ := h2 j _ (List.getElem?_eq_getElem (by omega))
    rw [hj] at k1; cases k1; exact k2
  · have hjl := (List.getElem?_eq_some_iff.1 hj).1
    have hrl := hr row (List.mem_of_getElem? hi)
    have hq : rows.flatten[i * k + j]? = some c := by
      clear h1 h2 hc hfl
      induction rows generalizing i with
      | nil => simp at hi
      | cons r rs ih =>
        have hr0 := hr r (by simp)
        rw [List.flatten_cons]
        cases i with
        | zero =>
          simp at hi; subst hi
          rw [Nat.zero_mul, Nat.zero_add, List.getElem?_append_left hjl]; exact hj
        | succ i =>
          rw [Nat.succ_mul, List.getElem?_append_right (by omega)]
          have e : i * k + k + j - r.length = i * k + j := by omega
          rw [e]
          exact ih (fun row hx => hr row (by simp [hx])) i (by simpa using hi)
    obtain ⟨v, k1, _, k3⟩ := h2 _ c hq
    rw [List.getD_eq_getElem?_getD, k1]; exact k3

theorem chunk_get {z : Nat} : ∀ (len : Nat) (cs : List AVal), cs.length = len * z → (chunk z len cs).length = len ∧ (∀ row ∈ chunk z len cs, row.length = z) ∧
    ∀ (i j : Nat) (row : List AVal) (c : AVal), (chunk z len cs)[i]? = some row → row[j]? = some c → cs[i * z + j]? = some c
  | 0, cs, _ => ⟨rfl, by simp [chunk], fun i j row c h => by simp [chunk] at h⟩
  | len + 1, cs, h => by
    rw [Nat.succ_mul] at h
    obtain ⟨h1, h2, h3⟩ := chunk_get (z := z) len (cs.drop z) (by simp; omega)
    refine ⟨by simp [chunk, h1], fun row hr => ?_, fun i j row c hi hj => ?_⟩
    · simp only [chunk, List.mem_cons] at hr
      rcases hr with rfl | hr
      · simp; omega
      · exact h2 row hr
    · cases i with
      | zero =>
        simp [chunk] at hi; subst hi
        have := (List.getElem?_eq_some_iff.1 hj).1
        simp at this
        rw [List.getElem?_take, if_pos (by omega)] at hj
        simpa using hj
      | succ i =>
        have := h3 i j row c (by simpa [chunk] using hi) hj
        rw [List.getElem?_drop] at this
        rw [← this]; congr 1; rw [Nat.succ_mul]; omega
/-- a slice's rows lie in memory -/
theorem arows_sound (hst : St own M η n w) {k : Nat} {x : AVal} {u : Value} {rows : List (List AVal)} (hk : 0 < k) (hx : VR own M x u) (h : arows k x η = some rows) :
    ∃ a cap, u = .slice a rows.length cap ∧ rows.length ≤ cap ∧ cap ≤ 9223372036854775807 ∧ (∀ row ∈ rows, row.length = k) ∧
      (0 < rows.length → ∃ b o, a = some ⟨b, o, none⟩ ∧ ∀ (i j : Nat) (row : List AVal) (c : AVal), rows[i]? = some row → row[j]? = some c → ∃ v, w.cell? ⟨b, o + i * k + j, none⟩ = some v ∧ VR own M c v) := by
  unfold arows at h
  split at h
  · cases h; cases hx; exact ⟨_, _, rfl, by simp, by simp, by simp, fun h => by simp at h⟩
  · cases h; cases hx; exact ⟨_, _, rfl, by simp, by simp, by simp, fun h => by simp at h⟩
  · rename_i k' rs
    split at h
    · rename_i hh
      obtain ⟨rfl, _⟩ := hh
      cases h
      cases hx with
      | rs _ _ a cap b o arr hn hm hxl ha hb hkk hl hc =>
        refine ⟨a, cap, rfl, hn, hm, fun row hr => ?_, fun h0 => ⟨b, o, ha h0, fun i j row c hi hj => ?_⟩⟩
        · obtain ⟨i, hi⟩ := List.mem_iff_getElem?.1 hr
          exact hkk i row hi
        · obtain ⟨T, z, hh⟩ := hst.mem b arr (hb h0)
          have := hl i j row c hi hj
          exact ⟨_, by simp [World.cell?, hh, this, Array.getD_eq_getD_getElem?], hc i j row c hi hj⟩
    · cases h
  · rename_i r o m
    split at h
    · rename_i k' rs hη
      split at h
      · rename_i hh
        obtain ⟨rfl, hom⟩ := hh
        cases h
        cases hx with
        | sl _ _ _ p a cap hr hn hm hc =>
          obtain ⟨p', g1, g2⟩ := hst.obj r _ hη
          rw [hr] at g1; cases g1
          obtain ⟨e1, _, g3, _, _, g6⟩ := g2
          have hlen : ((rs.drop o).take m).length = m := by simp; omega
          rw [hlen]
          refine ⟨a, cap, rfl, hn, hm, fun row hrw => g3 row (List.mem_of_mem_drop (List.mem_of_mem_take hrw)), fun h0 => ?_⟩
          obtain ⟨ha, _⟩ := hc (by omega)
          refine ⟨p.b, p.s + o * k', by rw [ha, e1], fun i j row c hi hj => ?_⟩
          have hil := (List.getElem?_eq_some_iff.1 hi).1
          rw [hlen] at hil
          rw [List.getElem?_take, if_pos hil, List.getElem?_drop] at hi
          obtain ⟨v, k1, k2⟩ := g6 _ j row c hi hj
          refine ⟨v, ?_, k2⟩
          rw [← k1]; congr 2; rw [Nat.add_mul]; omega
      · cases h
    · cases h
  · rename_i r o m c0
    split at h
    · rename_i k' rs hη
      split at h
      · rename_i hh
        obtain ⟨rfl, hom⟩ := hh
        cases h
        cases hx with
        | slc _ _ _ _ p a cap hr hn hcc hm hc =>
          obtain ⟨p', g1, g2⟩ := hst.obj r _ hη
          rw [hr] at g1; cases g1
          obtain ⟨e1, _, g3, _, _, g6⟩ := g2
          have hlen : ((rs.drop o).take m).length = m := by simp; omega
          rw [hlen]
          refine ⟨a, cap, rfl, by omega, hm, fun row hrw => g3 row (List.mem_of_mem_drop (List.mem_of_mem_take hrw)), fun h0 => ?_⟩
          obtain ⟨ha, _⟩ := hc (by omega)
          refine ⟨p.b, p.s + o * k', by rw [ha, e1], fun i j row c hi hj => ?_⟩
          have hil := (List.getElem?_eq_some_iff.1 hi).1
          rw [hlen] at hil
          rw [List.getElem?_take, if_pos hil, List.getElem?_drop] at hi
          obtain ⟨v, k1, k2⟩ := g6 _ j row c hi hj
          refine ⟨v, ?_, k2⟩
          rw [← k1]; congr 2; rw [Nat.add_mul]; omega
      · cases h
    · cases h
  · rename_i r ii j n z
    split at h
    · rename_i k' rs hη
      split at h
      · rename_i row hrow
        split at h
        · rename_i hh
          obtain ⟨rfl, _, hjn⟩ := hh
          cases h
          cases hx with
          | arr _ _ _ _ _ p a cap hr hn hm hc =>
          obtain ⟨p', g1, g2⟩ := hst.obj r _ hη
          rw [hr] at g1; cases g1
          obtain ⟨e1, _, g3, _, _, g6⟩ := g2
          have hl : ((row.drop j).take (n * z)).length = n * z := by simp; omega
          obtain ⟨q1, q2, q3⟩ := chunk_get n _ hl
          rw [q1]
          refine ⟨some a, cap, rfl, hn, hm, q2, fun h0 => ?_⟩
          obtain ⟨ha, _⟩ := hc (by omega)
          refine ⟨p.b, p.s + ii * p.k + j, by rw [ha], fun i' j' row' c hi hj => ?_⟩
          have := q3 i' j' row' c hi hj
          have hlt := (List.getElem?_eq_some_iff.1 this).1
          rw [hl] at hlt
          rw [List.getElem?_take, if_pos hlt, List.getElem?_drop] at this
          obtain ⟨v, k1, k2⟩ := g6 ii _ row c hrow this
          refine ⟨v, ?_, k2⟩
          rw [← k1, e1]; congr 2; omega
        · cases h
      · cases h
    · cases h
  · cases h

theorem Out.undef {u : Value} {w' : World} {η' : AHeap} (_hst : St own M η n w) (hK : K .undef η' n) (h1 : St own M η' n w') (h2 : Fr (OB own η) w w') (h3 : ∀ b, OB own η' b → OB own η b) : Out own M η n w K u w' :=
  ⟨.undef, η', n, own, M, hK, Nat.le_refl _, h1, .undef u, Own.le_refl _, Mem.le_refl _, h2, fun b hb => Or.inl (h3 b hb), fun _ hb => Or.inl hb⟩

theorem astore_sound (hst : St own M η n w) {t : TypeId} {p x : AVal} {u v : Value} {η' : AHeap} (hp : VR own M p u) (hx : VR own M x v) (h : astore P t p x η = some η') :
    ∃ w', (Instr.storeAt t u v).run P w = .ok () w' ∧ St own M η' n w' ∧ Fr (OB own η) w w' ∧ ∀ b, OB own η' b → OB own η b := by
  unfold astore at h
  split at h
  · rename_i r i j
    split at h
    · rename_i k rows z hη hz
      split at h
      · rename_i row hrow
        split at h
        · rename_i hh
          obtain ⟨h1, h2, h3, h0⟩ := hh
          cases h
          cases hp with
          | ptr _ _ _ p hr =>
            obtain ⟨c1, c2⟩ := vr_cells hx h2
            have hs := tsize_run hz w
            obtain ⟨w', k1, k2, k3⟩ := store_cells (P := P) hst (j := j) hη hr hrow (cs := acells x) (A := v.cells) (by omega) (by omega) c1 (fun y hy => by
              obtain ⟨q, hq⟩ := List.mem_iff_getElem?.1 hy
              have hql := (List.getElem?_eq_some_iff.1 hq).1
              simp only [Array.length_toList, c1] at hql
              have := c2 q _ (List.getElem?_eq_getElem hql)
              have e : v.cells.getD q undef = y := by rw [Array.getElem?_toList] at hq; simp [Array.getD_eq_getD_getElem?, hq]
              rw [e] at this
              exact this.oneCell (List.all_eq_true.1 h2 _ (List.getElem_mem _))) c2
            refine ⟨w', ?_, by rw [h1] at k2; exact k2, k3, fun b hb => OB.turn hη hb⟩
            unfold Instr.storeAt Instr.sureAddr storeVar
            simp only [Sem.run_bind, Sem.run_pure, Result.andThen_ok, hs]
            rw [if_neg (by omega)]
            exact k1
        · cases h
      · cases h
    · cases h
  · cases h

theorem append_zero (w : World) {t ty e : TypeId} {i : TypeInfo} (ht : P.underlying t = some (.slice e)) (hi : P.info? e = some i) (a x : Option Addr) (m cap c : Nat) (hc : m ≤ cap) :
    (Builtin.append_ #[t, t] ty #[.slice a m cap, .slice x 0 c]).run P w = .ok (.slice a m cap) w := by
  cases x <;> cases a <;> simp [Builtin.append_, run_underlying ht, sizeOf, typeInfo, hi, Builtin.lenOf, hc, Builtin.firstCells, loadCells, loadCellsFrom, storeCells]

/-- an append onto nothing -/
theorem append_fresh (hst : St own M η n w) {t ty e : TypeId} {i : TypeInfo} {z : Value} {k : Nat} {news : List (List AVal)} {x : Option Addr} {c : Nat} {vals : List Value} (a : Option Addr) (ht : P.underlying t = some (.slice e)) (hi : P.info? e = some i) (hz : i.zero = some z)
    (hk : i.size = k) (hzs : z.cells.size = k) (h0 : 0 < k) (hr : ∀ row ∈ news, row.length = k) (hl : vals.length = news.length * k) (hv : ∀ (i j : Nat) (row : List AVal) (c : AVal), news[i]? = some row → row[j]? = some c → VR own M c (vals.getD (i * k + j) undef))
    (hx : 0 < news.length → ∃ ad, x = some ad ∧ ∀ j u, vals[j]? = some u → w.cell? (ad.add j) = some u) (hb : news.length * i.bytes ≤ 140737488355328) (hm : news.length ≤ lenMax)
    (hK : K (.sl n 0 news.length) (upd η n (some (.cells k news))) (n + 1)) :
    ∃ y w', (Builtin.append_ #[t, t] ty #[.slice a 0 0, .slice x news.length c]).run P w = .ok y w' ∧ Out own M η n w K y w' := by
  unfold lenMax at hm
  rcases Nat.eq_zero_or_pos news.length with hn | hn
  · have hnil : news = [] := List.eq_nil_of_length_eq_zero hn
    subst hnil
    refine ⟨_, w, append_zero w ht hi a x 0 0 c (Nat.le_refl _), ?_⟩
    have hfn := hst.fresh n (Nat.le_refl _)
    refine ⟨.sl n 0 0, _, n + 1, own.put n ⟨0, 0, 0, k⟩, M, hK, Nat.le_succ _, hst.add ⟨rfl, h0, by simp, by simp, fun h => by simp at h, fun i j row c hi => by simp at hi⟩ (fun h => by simp at h) (fun _ _ => rfl) (fun _ _ _ => rfl),
      .sl n 0 0 _ a 0 (by simp [Own.put]; rfl) (Nat.le_refl _) (by omega) (fun h => by omega), Own.le_put hfn _, Mem.le_refl _, Fr.refl _ _, fun b hb => ?_, fun b hb => Or.inl hb⟩
    obtain ⟨r, p, o, h1, h2, h3, h4⟩ := hb
    by_cases e : r = n
    · subst e; simp only [Own.put, if_true, Option.some.injEq] at h2; subst h2; simp at h3
    · rw [upd_ne e] at h1; simp only [Own.put, if_neg e] at h2
      exact Or.inl ⟨r, p, o, h1, h2, h3, h4⟩
  · obtain ⟨ad, rfl, hcell⟩ := hx hn
    have hge := grownCap_ge w news.length 0 e
    have hcm := grownCap_le_maxLen w news.length 0 e (by unfold maxLen; omega)
    unfold maxLen at hcm
    have fin : Out own M η n w K (.slice (some ⟨w.heap.size, 0, none⟩) news.length (grownCap w news.length 0 e)) (w.drew.alloc (.cells (vals.toArray ++ Builtin.zeroCells z.cells (grownCap w news.length 0 e - news.length)) e)) := by
      have hsz : (vals.toArray ++ Builtin.zeroCells z.cells (grownCap w news.length 0 e - news.length)).size = grownCap w news.length 0 e * k := by
        simp only [Array.size_append, List.size_toArray, size_zeroCells, hzs, hl, ← Nat.add_mul]
        congr 1; omega
      have e1 : ∀ q, q < vals.length → (vals.toArray ++ Builtin.zeroCells z.cells (grownCap w news.length 0 e - news.length)).getD q undef = vals.getD q undef := fun q hq => by
        rw [Array.getD_eq_getD_getElem?, Array.getElem?_append_left (by simp; omega)]
        simp [List.getD_eq_getElem?_getD]
      generalize (vals.toArray ++ Builtin.zeroCells z.cells (grownCap w news.length 0 e - news.length)) = A at *
      refine Out.new (w1 := w.drew) hst h0 hr (by rw [hsz]; exact Nat.mul_le_mul_right k hge) (fun i j row c hi hj => ?_) ⟨rfl, rfl, rfl, rfl⟩ (.sl n 0 news.length ⟨w.heap.size, 0, A.size, k⟩ _ _ (by simp [Own.put]) hge (by omega) fun _ => ⟨by simp, by simp [hsz]⟩) hK
      have hil := (List.getElem?_eq_some_iff.1 hi).1
      have hjl := (List.getElem?_eq_some_iff.1 hj).1
      have hrl := hr row (List.mem_of_getElem? hi)
      have h1 : (i + 1) * k ≤ news.length * k := Nat.mul_le_mul_right k hil
      rw [Nat.succ_mul] at h1
      rw [e1 _ (by omega)]; exact hv i j row c hi hj
    cases a with
    | none =>
      exact ⟨_, _, run_append_nil w t ty e i z ht hi hz ad news.length c vals (by rw [hl, hk]) hcell hn (by omega) (by omega), fin⟩
    | some b =>
      have hg := run_append_grow (P := P) w t ty e i z ht hi hz b 0 0 [] (by simp) (fun j v h => by simp at h) ad news.length c vals (by rw [hl, hk]) hcell (by omega) (by simp; omega) (growslice_fits (by omega) (by simpa using hb))
      simp only [Nat.zero_add, Array.empty_append] at hg
      exact ⟨_, _, hg, fin⟩

theorem OB.weaken {K : AVal → AHeap → Nat → Prop} {η1 : AHeap} {u : Value} {w' : World} (hη : η1.le η) (h : Out own M η1 n w K u w') : Out own M η n w K u w' := by
  obtain ⟨v, η', n', own', M', h1, h2, h3, h4, h5, h6, h7, h8⟩ := h
  refine ⟨v, η', n', own', M', h1, h2, h3, h4, h5, h6, h7.weaken fun _ h => OB.less hη h, fun b hb => (h8.1 b hb).imp (OB.less hη) id, fun b hb => (h8.2 b hb).imp id fun h => h.imp (OB.less hη) id⟩

/-- an append onto one's own -/
theorem append_own (hst : St own M η n w) {t ty e : TypeId} {i : TypeInfo} {z : Value} {k r o m : Nat} {rows news : List (List AVal)} {u : Value} {xa : Option Addr} {c : Nat} {vals : List Value} (hη : η r = some (.cells k rows)) (hu : VR own M (.sl r o m) u)
    (hom : o + m ≤ rows.length) (ht : P.underlying t = some (.slice e)) (hi : P.info? e = some i) (hz : i.zero = some z)
    (hk : i.size = k) (hzs : z.cells.size = k) (hr : ∀ row ∈ news, row.length = k) (hl : vals.length = news.length * k) (hv : ∀ (i j : Nat) (row : List AVal) (c : AVal), news[i]? = some row → row[j]? = some c → VR own M c (vals.getD (i * k + j) undef))
    (hx : 0 < news.length → ∃ ad, xa = some ad ∧ ∀ j u, vals[j]? = some u → w.cell? (ad.add j) = some u) (h1 : ∀ v ∈ vals, v.oneCell' = true) (hb : (m + news.length) * i.bytes ≤ 140737488355328) (hm : m + news.length ≤ lenMax)
    (hK : K (.sl n 0 (m + news.length)) (upd (upd η r none) n (some (.cells k ((rows.drop o).take m ++ news)))) (n + 1)) :
    ∃ y w', (Builtin.append_ #[t, t] ty #[u, .slice xa news.length c]).run P w = .ok y w' ∧ Out own M η n w K y w' := by
  obtain ⟨p, g1, g2⟩ := hst.obj r _ hη
  obtain ⟨e1, h0, hrows, hle, hreal, hcell⟩ := g2
  have hη1 : (upd η r none).le η := fun x o h => by
    by_cases e : x = r
    · subst e; rw [upd_eq] at h; cases h
    · rwa [upd_ne e] at h
  have hst1 := hst.less hη1 (Nat.le_refl n)
  cases hu with
  | sl _ _ _ p' a cap hp hn hmx hc =>
    rw [g1] at hp; cases hp
    rcases Nat.eq_zero_or_pos cap with hcap | hcap
    · subst hcap
      obtain rfl : m = 0 := by omega
      simp only [List.take_zero, List.nil_append, Nat.zero_add] at hK hb hm
      obtain ⟨y, w', k1, k2⟩ := append_fresh (ty := ty) (c := c) hst1 a ht hi hz hk hzs h0 hr hl hv hx hb hm hK
      exact ⟨y, w', k1, OB.weaken hη1 k2⟩
    · obtain ⟨ha, hfit⟩ := hc hcap
      subst ha
      have hpe : p.s < p.e := by
        have : (o + cap) * p.k ≥ 1 * p.k := Nat.mul_le_mul_right _ (by omega)
        rw [e1] at this; rw [e1] at hfit; omega
      obtain ⟨hM, arr, T, hh, hea⟩ := hreal hpe
      have hT1 : ((rows.drop o).take m).length = m := by simp; omega
      have hTr : ∀ row ∈ (rows.drop o).take m, row.length = k := fun row h => hrows row (List.mem_of_mem_drop (List.mem_of_mem_take h))
      have hTi : ∀ (q : Nat) (row : List AVal), ((rows.drop o).take m)[q]? = some row → q < m ∧ rows[o + q]? = some row := fun q row h => by
        have := (List.getElem?_eq_some_iff.1 h).1
        rw [hT1] at this
        rw [List.getElem?_take, if_pos this, List.getElem?_drop] at h
        exact ⟨this, h⟩
      have hTc : ∀ (q j : Nat) (row : List AVal) (c : AVal), ((rows.drop o).take m)[q]? = some row → row[j]? = some c → ∃ v, w.cell? ⟨p.b, p.s + o * p.k + q * k + j, none⟩ = some v ∧ VR own M c v := fun q j row c hq hj => by
        obtain ⟨v, k1, k2⟩ := hcell _ j row c (hTi q row hq).2 hj
        exact ⟨v, by rw [← k1, e1]; congr 2; rw [Nat.add_mul]; omega, k2⟩
      have hall : ∀ row ∈ (rows.drop o).take m ++ news, row.length = k := fun row h => by
        rcases List.mem_append.1 h with h | h
        · exact hTr row h
        · exact hr row h
      rcases Nat.lt_or_ge cap (m + news.length) with hg | hg
      · -- it grows
        obtain ⟨olds, o1, o2, o3⟩ := rows_cells (own := own) (M := M) (w := w) (b := p.b) (o := p.s + o * p.k) _ h0 hTr hTc
        rw [hT1] at o1
        obtain ⟨ad, rfl, hcx⟩ := hx (by omega)
        unfold lenMax at hm
        have hrun := run_append_grow (P := P) w t ty e i z ht hi hz ⟨p.b, p.s + o * p.k, none⟩ m cap olds (by rw [o1, hk]) o2 ad news.length c vals (by rw [hl, hk]) hcx hg (by omega) (growslice_fits hg hb)
        refine ⟨_, _, hrun, OB.weaken hη1 ?_⟩
        have hge := grownCap_ge w (m + news.length) cap e
        have hcm := grownCap_le_maxLen w (m + news.length) cap e (by unfold maxLen; omega)
        unfold maxLen at hcm
        have hsz : (olds.toArray ++ vals.toArray ++ Builtin.zeroCells z.cells (grownCap w (m + news.length) cap e - (m + news.length))).size = grownCap w (m + news.length) cap e * k := by
          simp only [Array.size_append, List.size_toArray, size_zeroCells, hzs, hl, o1, ← Nat.add_mul]
          congr 1; omega
        have e2 : ∀ q, q < m * k + news.length * k → (olds.toArray ++ vals.toArray ++ Builtin.zeroCells z.cells (grownCap w (m + news.length) cap e - (m + news.length))).getD q undef = (olds ++ vals).getD q undef := fun q hq => by
          rw [Array.getD_eq_getD_getElem?, Array.getElem?_append_left (by simp; omega)]
          simp [List.getD_eq_getElem?_getD]
        generalize (olds.toArray ++ vals.toArray ++ Builtin.zeroCells z.cells (grownCap w (m + news.length) cap e - (m + news.length))) = A at *
        refine Out.new (w1 := w.drew) hst1 h0 hall (by rw [hsz, List.length_append, hT1]; exact Nat.mul_le_mul_right k hge) (fun q j row c hq hj => ?_) ⟨rfl, rfl, rfl, rfl⟩
          (.sl n 0 (m + news.length) ⟨w.heap.size, 0, A.size, k⟩ _ _ (by simp [Own.put]) hge (by omega) fun _ => ⟨by simp, by simp [hsz]⟩) hK
        have hil := (List.getElem?_eq_some_iff.1 hq).1
        rw [List.length_append, hT1] at hil
        have hjl := (List.getElem?_eq_some_iff.1 hj).1
        have hrl := hall row (List.mem_of_getElem? hq)
        have hx1 : (q + 1) * k ≤ (m + news.length) * k := Nat.mul_le_mul_right k hil
        rw [Nat.succ_mul, Nat.add_mul] at hx1
        rw [e2 _ (by omega), List.getD_eq_getElem?_getD]
        rcases Nat.lt_or_ge q m with hqm | hqm
        · have hx2 : (q + 1) * k ≤ m * k := Nat.mul_le_mul_right k hqm
          rw [Nat.succ_mul] at hx2
          rw [List.getElem?_append_left (by omega)] at hq ⊢
          rw [← List.getD_eq_getElem?_getD]
          exact o3 q j row c hq hj
        · have hx5 : m * k ≤ q * k := Nat.mul_le_mul_right k hqm
          rw [List.getElem?_append_right (by omega), hT1] at hq
          rw [List.getElem?_append_right (by omega), o1, ← List.getD_eq_getElem?_getD]
          have e3 : q * k + j - m * k = (q - m) * k + j := by
            rw [Nat.sub_mul]; omega
          rw [e3]; exact hv _ j row c hq hj
      · -- there is room
        have hlv : vals.length + m * k ≤ cap * k := by rw [hl, ← Nat.add_mul]; exact Nat.mul_le_mul_right k (by omega)
        have hfit' : p.s + o * k + cap * k ≤ p.e := by rw [e1, Nat.add_mul] at hfit; omega
        have hst' := run_storeCells_at P p.b (p.s + o * k + m * k) T vals 0 arr w hh (by omega) h1
        simp only [Nat.add_zero] at hst'
        have hrun : (Builtin.append_ #[t, t] ty #[.slice (some ⟨p.b, p.s + o * p.k, none⟩) m cap, .slice xa news.length c]).run P w = .ok (.slice (some ⟨p.b, p.s + o * p.k, none⟩) (m + news.length) cap)
            (w.setRow p.b (arr.toList.take (p.s + o * k + m * k) ++ vals ++ arr.toList.drop (p.s + o * k + m * k + vals.length)).toArray) := by
          have hf : (Builtin.firstCells i.size news.length (.slice xa news.length c)).run P w = .ok vals.toArray w := by
            rcases Nat.eq_zero_or_pos news.length with hn0 | hn0
            · have : vals = [] := List.eq_nil_of_length_eq_zero (by rw [hl, hn0]; simp)
              subst this
              rw [hn0]
              cases xa <;> simp [Builtin.firstCells, loadCells, loadCellsFrom]
            · obtain ⟨ad, rfl, hcx⟩ := hx hn0
              exact run_firstCells_some w i.size news.length ad news.length c vals (by rw [hl, hk]) hcx
          rw [hk] at hf
          simp [Builtin.append_, run_underlying ht, sizeOf, typeInfo, hi, Builtin.lenOf, hg, hf, add_plain, hk, e1]
          rw [hst']
          simp [List.append_assoc]
        refine ⟨_, _, hrun, ?_⟩
        have hheap := setRow_heap w p.b arr (arr.toList.take (p.s + o * k + m * k) ++ vals ++ arr.toList.drop (p.s + o * k + m * k + vals.length)).toArray T (0, 0) hh
        have hcap' : 0 < cap * k := Nat.mul_pos hcap h0
        have hfn := hst.fresh n (Nat.le_refl _)
        have hgetc : ∀ q, q < arr.size → (w.setRow p.b (arr.toList.take (p.s + o * k + m * k) ++ vals ++ arr.toList.drop (p.s + o * k + m * k + vals.length)).toArray).cell? ⟨p.b, q, none⟩ =
            some (if p.s + o * k + m * k ≤ q ∧ q < p.s + o * k + m * k + vals.length then vals.getD (q - (p.s + o * k + m * k)) undef else arr.toList.getD q undef) := fun q hq => by
          rw [World.cell?, hheap]
          simp only [Option.isSome_none, Bool.false_eq_true, if_false]
          rw [← getD_mid arr.toList vals (p.s + o * k + m * k) q undef (by simp; omega)]
          rw [List.getElem?_toArray, List.getD_eq_getElem?_getD, List.getElem?_eq_getElem]
          · rfl
          · simp only [List.length_append, List.length_take, List.length_drop, Array.length_toList]; omega
        have hother : ∀ b, b ≠ p.b → (w.setRow p.b (arr.toList.take (p.s + o * k + m * k) ++ vals ++ arr.toList.drop (p.s + o * k + m * k + vals.length)).toArray).heap[b]? = w.heap[b]? := fun b hb => setRow_other w p.b b _ hb
        have hdiff : ∀ b, OB own (upd η r none) b → b ≠ p.b := fun b hb => by
          obtain ⟨r', p', o', q1, q2, q3, q4⟩ := hb
          have hne : r' ≠ r := fun e => by subst e; rw [upd_eq] at q1; cases q1
          rw [upd_ne hne] at q1
          rw [← q4]
          exact hst.inj r' r p' p o' _ hne q1 hη q2 g1 q3 hpe
        refine ⟨_, _, n + 1, own.put n ⟨p.b, p.s + o * k, p.e, k⟩, M, hK, Nat.le_succ _, hst1.add ⟨rfl, h0, hall, ?_, fun _ => ⟨hM, _, T, hheap, ?_⟩, fun q j row c hq hj => ?_⟩ (fun _ r' q' o' hr' hq' hs' => hdiff _ ⟨r', q', o', hr', hq', hs', rfl⟩)
          (fun b hb => hother b (hdiff b hb)) (fun b a' hM' => hother b fun e => by subst e; rw [hM] at hM'; cases hM'),
          .sl n 0 (m + news.length) ⟨p.b, p.s + o * k, p.e, k⟩ _ cap (by simp [Own.put]) hg hmx fun _ => ⟨by simp [e1], by simp; omega⟩, Own.le_put hfn _, Mem.le_refl _, ?_, fun b hb => ?_, fun b hb => Or.inl hb⟩
        · have : (m + news.length) * k ≤ cap * k := Nat.mul_le_mul_right k hg
          simp only [List.length_append, hT1]; omega
        · simp only [List.size_toArray, List.length_append, List.length_take, List.length_drop, Array.length_toList]; omega
        · have hil := (List.getElem?_eq_some_iff.1 hq).1
          rw [List.length_append, hT1] at hil
          have hjl := (List.getElem?_eq_some_iff.1 hj).1
          have hrl := hall row (List.mem_of_getElem? hq)
          have hx1 : (q + 1) * k ≤ (m + news.length) * k := Nat.mul_le_mul_right k hil
          have hx3 : (m + news.length) * k ≤ cap * k := Nat.mul_le_mul_right k hg
          rw [Nat.succ_mul] at hx1
          refine ⟨_, hgetc (p.s + o * k + q * k + j) (by omega), ?_⟩
          have hle' := Own.le_put hfn ⟨p.b, p.s + o * k, p.e, k⟩
          rcases Nat.lt_or_ge q m with hqm | hqm
          · have hx2 : (q + 1) * k ≤ m * k := Nat.mul_le_mul_right k hqm
            rw [Nat.succ_mul] at hx2
            rw [if_neg (by omega)]
            rw [List.getElem?_append_left (by omega)] at hq
            obtain ⟨v, k1, k2⟩ := hTc q j row c hq hj
            have e3 : arr.toList.getD (p.s + o * k + q * k + j) undef = v := by
              rw [World.cell?, hh, e1] at k1
              simp at k1
              simp [List.getD_eq_getElem?_getD, k1]
            rw [e3]; exact k2.mono hle' (Mem.le_refl _)
          · rw [List.getElem?_append_right (by omega), hT1] at hq
            have hqi := (List.getElem?_eq_some_iff.1 hq).1
            have hx4 : (q - m + 1) * k ≤ news.length * k := Nat.mul_le_mul_right k hqi
            rw [Nat.succ_mul, Nat.sub_mul] at hx4
            have hx5 : m * k ≤ q * k := Nat.mul_le_mul_right k hqm
            rw [if_pos (by omega)]
            have e3 : p.s + o * k + q * k + j - (p.s + o * k + m * k) = (q - m) * k + j := by rw [Nat.sub_mul]; omega
            rw [e3]
            exact (hv _ j row c hq hj).mono hle' (Mem.le_refl _)
        · exact ⟨rfl, rfl, rfl, by simp [World.setRow], fun b hb hd => hother b fun e => hd ⟨r, p, _, hη, g1, hpe, e.symm⟩⟩
        · rcases OB.add hfn hb with h | h
          · exact Or.inl (OB.less hη1 h)
          · exact Or.inl ⟨r, p, _, hη, g1, hpe, h.symm⟩
/-- rows written over an object's -/
theorem store_rows (hst : St own M η n w) {r o k : Nat} {rows news : List (List AVal)} {p : Spot} {A : List Value} (hη : η r = some (.cells k rows)) (hp : own r = some p) (ho : o + news.length ≤ rows.length) (hn : ∀ row ∈ news, row.length = k) (h0 : 0 < news.length)
    (hA : A.length = news.length * k) (h1 : ∀ v ∈ A, v.oneCell' = true) (hc : ∀ (i j : Nat) (row : List AVal) (c : AVal), news[i]? = some row → row[j]? = some c → VR own M c (A.getD (i * k + j) Go.undef)) :
    ∃ w', (storeCells ⟨p.b, p.s + o * p.k, none⟩ A).run P w = .ok () w' ∧ St own M (upd η r (some (.cells k (rows.take o ++ news ++ rows.drop (o + news.length))))) n w' ∧ Fr (OB own η) w w' := by
  obtain ⟨p', g1, g2⟩ := hst.obj r _ hη
  rw [hp] at g1; cases g1
  obtain ⟨e1, hk, hrows, hle, hreal, hcell⟩ := g2
  have hik : (o + news.length) * k ≤ rows.length * k := Nat.mul_le_mul_right k ho
  rw [Nat.add_mul] at hik
  have hnk : 1 * k ≤ news.length * k := Nat.mul_le_mul_right k h0
  have hre : p.s < p.e := by omega
  obtain ⟨hM, arr, T, hh, hea⟩ := hreal hre
  have hrun := run_storeCells_at P p.b (p.s + o * p.k) T A 0 arr w hh (by rw [e1]; omega) h1
  simp only [Nat.add_zero] at hrun
  refine ⟨_, hrun, ?_, ?_⟩
  · refine hst.turn hη hp ?_ (fun b hb => setRow_other w p.b b _ hb) hre
    have hheap := setRow_heap w p.b arr (arr.toList.take (p.s + o * p.k) ++ A ++ arr.toList.drop (p.s + o * p.k + A.length)).toArray T (0, 0) hh
    have hrl : (rows.take o ++ news ++ rows.drop (o + news.length)).length = rows.length := by simp; omega
    have hmem : ∀ row ∈ (rows.take o ++ news ++ rows.drop (o + news.length)), row.length = k := fun row hr => by
      simp only [List.mem_append] at hr
      rcases hr with (hr | hr) | hr
      · exact hrows row (List.mem_of_mem_take hr)
      · exact hn row hr
      · exact hrows row (List.mem_of_mem_drop hr)
    refine ⟨e1, hk, hmem, by rw [hrl]; exact hle, fun _ => ⟨hM, _, T, hheap, ?_⟩, fun i' j' row' c hi' hj' => ?_⟩
    · simp only [List.size_toArray, List.length_append, List.length_take, List.length_drop, Array.length_toList]; omega
    · have hi'l : i' < rows.length := by
        have := (List.getElem?_eq_some_iff.1 hi').1; rw [hrl] at this; exact this
      have hik' : (i' + 1) * k ≤ rows.length * k := Nat.mul_le_mul_right k hi'l
      rw [Nat.succ_mul] at hik'
      have hrow'k : row'.length = k := hmem row' (List.mem_of_getElem? hi')
      have hj'l := (List.getElem?_eq_some_iff.1 hj').1
      have hq : p.s + i' * k + j' < arr.size := by omega
      have hget : (w.setRow p.b (arr.toList.take (p.s + o * p.k) ++ A ++ arr.toList.drop (p.s + o * p.k + A.length)).toArray).cell? ⟨p.b, p.s + i' * k + j', none⟩ =
          some (if p.s + o * k ≤ p.s + i' * k + j' ∧ p.s + i' * k + j' < p.s + o * k + A.length then A.getD (p.s + i' * k + j' - (p.s + o * k)) Go.undef else arr.toList.getD (p.s + i' * k + j') Go.undef) := by
        rw [World.cell?, hheap]
        simp only [Option.isSome_none, Bool.false_eq_true, if_false]
        rw [← getD_mid arr.toList A (p.s + o * k) _ Go.undef (by simp; omega), e1]
        rw [List.getElem?_toArray, List.getD_eq_getElem?_getD, List.getElem?_eq_getElem]
        · rfl
        · simp only [List.length_append, List.length_take, List.length_drop, Array.length_toList]; omega
      refine ⟨_, hget, ?_⟩
      by_cases hm : o ≤ i' ∧ i' < o + news.length
      · have hx : (i' - o + 1) * k ≤ news.length * k := Nat.mul_le_mul_right k (by omega)
        have hx2 : (i' - o) * k + o * k = i' * k := by rw [← Nat.add_mul]; congr 1; omega
        rw [Nat.succ_mul] at hx
        rw [if_pos (by rw [hA]; omega)]
        rw [List.append_assoc, List.getElem?_append_right (by simp; omega), List.getElem?_append_left (by simp; omega)] at hi'
        have e4 : i' - (rows.take o).length = i' - o := by simp; omega
        rw [e4] at hi'
        have := hc _ j' row' c hi' hj'
        have e3 : p.s + i' * k + j' - (p.s + o * k) = (i' - o) * k + j' := by omega
        rw [e3]; exact this
      · have hi'' : rows[i']? = some row' := by
          rcases Nat.lt_or_ge i' o with hlt | hge
          · rw [List.append_assoc, List.getElem?_append_left (by simp; omega), List.getElem?_take, if_pos hlt] at hi'
            exact hi'
          · rw [List.getElem?_append_right (by simp; omega), List.getElem?_drop] at hi'
            have e4 : o + news.length + (i' - (rows.take o ++ news).length) = i' := by simp; omega
            rw [e4] at hi'; exact hi'
        obtain ⟨v, k1, k2⟩ := hcell i' j' row' c hi'' hj'
        rw [if_neg (by
          rw [hA]
          rcases Nat.lt_or_ge i' o with h | h
          · have : (i' + 1) * k ≤ o * k := Nat.mul_le_mul_right k h
            rw [Nat.succ_mul] at this; omega
          · have : (o + news.length) * k ≤ i' * k := Nat.mul_le_mul_right k (by omega)
            rw [Nat.add_mul] at this; omega)]
        have e3 : arr.toList.getD (p.s + i' * k + j') Go.undef = v := by
          rw [World.cell?, hh] at k1
          simp at k1
          simp [List.getD_eq_getElem?_getD, k1]
        rw [e3]; exact k2
  · exact ⟨rfl, rfl, rfl, by simp [World.setRow], fun b hb hd => setRow_other w p.b b _ fun e => hd ⟨r, p, _, hη, hp, hre, e.symm⟩⟩

/-- rows appended where there is room -/
theorem append_room (hst : St own M η n w) {t ty e : TypeId} {i : TypeInfo} {k r o m cc : Nat} {rows news : List (List AVal)} {u : Value} {xa : Option Addr} {c : Nat} {vals : List Value} (hη : η r = some (.cells k rows)) (hu : VR own M (.slc r o m cc) u)
    (hoc : o + cc ≤ rows.length) (hmc : m + news.length ≤ cc) (ht : P.underlying t = some (.slice e)) (hi : P.info? e = some i) (hk : i.size = k) (hr : ∀ row ∈ news, row.length = k) (hl : vals.length = news.length * k)
    (hv : ∀ (i j : Nat) (row : List AVal) (c : AVal), news[i]? = some row → row[j]? = some c → VR own M c (vals.getD (i * k + j) Go.undef))
    (hx : 0 < news.length → ∃ ad, xa = some ad ∧ ∀ j u, vals[j]? = some u → w.cell? (ad.add j) = some u) (h1 : ∀ v ∈ vals, v.oneCell' = true)
    (hK : K (.slc r o (m + news.length) cc) (upd η r (some (.cells k (rows.take (o + m) ++ news ++ rows.drop (o + m + news.length))))) n) :
    ∃ y w', (Builtin.append_ #[t, t] ty #[u, .slice xa news.length c]).run P w = .ok y w' ∧ Out own M η n w K y w' := by
  obtain ⟨p, g1, g2⟩ := hst.obj r _ hη
  have e1 : p.k = k := g2.1
  cases hu with
  | slc _ _ _ _ p' a cap hp hn hcc hmx hc =>
  rw [g1] at hp; cases hp
  rcases Nat.eq_zero_or_pos news.length with h0 | h0
  · have hn0 : news = [] := List.eq_nil_of_length_eq_zero h0
    subst hn0
    have e : upd η r (some (.cells k (rows.take (o + m) ++ [] ++ rows.drop (o + m + 0)))) = η := by
      simp only [List.append_nil, Nat.add_zero, List.take_append_drop]
      funext q
      by_cases hq : q = r
      · subst hq; rw [upd_eq, hη]
      · rw [upd_ne hq]
    simp only [List.length_nil, Nat.add_zero] at hK e
    rw [e] at hK
    refine ⟨_, w, append_zero w ht hi a xa m cap c (by omega), _, η, n, own, M, hK, Nat.le_refl _, hst, .slc r o m cc p a cap g1 hn hcc hmx hc, Own.le_refl _, Mem.le_refl _, Fr.refl _ _, fun b hb => Or.inl hb, fun b hb => Or.inl hb⟩
  · obtain ⟨ha, hfit⟩ := hc (by omega)
    subst ha
    obtain ⟨ad, rfl, hcx⟩ := hx h0
    obtain ⟨w', k1, k2, k3⟩ := store_rows (P := P) hst (o := o + m) hη g1 (news := news) (by omega) hr h0 hl h1 hv
    have hf := run_firstCells_some (P := P) w i.size news.length ad news.length c vals (by rw [hl, hk]) hcx
    refine ⟨.slice (some ⟨p.b, p.s + o * p.k, none⟩) (m + news.length) cap, w', ?_, _, _, n, own, M, hK, Nat.le_refl _, k2, .slc r o _ cc p _ cap g1 hmc hcc hmx hc, Own.le_refl _, Mem.le_refl _, k3, fun b hb => Or.inl (OB.turn hη hb), fun b hb => Or.inl hb⟩
    have hroom : m + news.length ≤ cap := by omega
    have e3 : p.s + (o + m) * p.k = p.s + o * p.k + m * p.k := by rw [Nat.add_mul, Nat.add_assoc]
    rw [e3] at k1
    rw [hk, ← e1] at hf
    simp [Builtin.append_, run_underlying ht, sizeOf, typeInfo, hi, Builtin.lenOf, hroom, hf, add_plain, hk, ← e1, k1]
theorem arows_take {k : Nat} {news : List Value} {rows : List (List AVal)} {c : Nat} (hl : news.length = rows.length * k) (hc : c ≤ rows.length) (hr : ∀ row ∈ rows, row.length = k)
    (hv : ∀ (i j : Nat) (row : List AVal) (x : AVal), rows[i]? = some row → row[j]? = some x → VR own M x (news.getD (i * k + j) Go.undef)) :
    (news.take (c * k)).length = (rows.take c).length * k ∧ ∀ (i j : Nat) (row : List AVal) (x : AVal), (rows.take c)[i]? = some row → row[j]? = some x → VR own M x ((news.take (c * k)).getD (i * k + j) Go.undef) := by
  have hck : c * k ≤ rows.length * k := Nat.mul_le_mul_right k hc
  refine ⟨by simp only [List.length_take]; rw [Nat.min_eq_left (by omega), Nat.min_eq_left hc], fun i j row x hi hj => ?_⟩
  have hil := (List.getElem?_eq_some_iff.1 hi).1
  simp at hil
  rw [List.getElem?_take, if_pos (by omega)] at hi
  have hrl := hr row (List.mem_of_getElem? hi)
  have hjl := (List.getElem?_eq_some_iff.1 hj).1
  have hx : (i + 1) * k ≤ c * k := Nat.mul_le_mul_right k (by omega)
  rw [Nat.succ_mul] at hx
  have := hv i j row x hi hj
  rw [List.getD_eq_getElem?_getD, List.getElem?_take, if_pos (by omega), ← List.getD_eq_getElem?_getD]
  exact this

theorem acopy_sound (hst : St own M η n w) {t t2 ty : TypeId} {d x : AVal} {u v : Value} (hd : VR own M d u) (hx : VR own M x v) (h : acopy P t t2 d x η n K) :
    ∃ y w', (Builtin.copy_ #[t, t2] ty #[u, v]).run P w = .ok y w' ∧ Out own M η n w K y w' := by
  unfold acopy at h
  split at h
  · rename_i e hte
    have hu := telem_run hte
    split at h
    · rename_i z _ hz ht2
      obtain ⟨hz0, h⟩ := h
      have hs := tsize_run hz w
      split at h
      · rename_i news hnews
        obtain ⟨hsc, h⟩ := h
        obtain ⟨xa, xc, rfl, x1, x2, x3, x4⟩ := arows_sound hst hz0 hx hnews
        have same : K (.int .i64 0) η n → Out own M η n w K (goInt 0) w := fun hK => ⟨_, η, n, own, M, hK, Nat.le_refl _, hst, .int .i64 0, Own.le_refl _, Mem.le_refl _, Fr.refl _ _, fun b hb => Or.inl hb, fun b hb => Or.inl hb⟩
        have zero : ∀ (a : Option Addr) (m cap : Nat), min news.length m = 0 → (Builtin.copy_ #[t, t2] ty #[.slice a m cap, .slice xa news.length xc]).run P w = .ok (goInt 0) w := fun a m cap h0 => by
          have h0' : Nat.min news.length m = 0 := h0
          cases xa <;> cases a <;> simp [Builtin.copy_, run_underlying hu, hs, Builtin.lenOf, h0', Builtin.firstCells, loadCells, loadCellsFrom, storeCells]
        split at h
        · cases hd
          exact ⟨_, w, zero _ _ _ (by simp), same h⟩
        · cases hd
          exact ⟨_, w, zero _ _ _ (by simp), same h⟩
        · rename_i r o m
          split at h
          · rename_i k rows hη
            obtain ⟨rfl, hom, hK⟩ := h
            cases hd with
            | sl _ _ _ p a cap hr hn hm hc =>
            rcases Nat.eq_zero_or_pos (min news.length m) with h0 | h0
            · rw [h0] at hK
              have e : upd η r (some (.cells k (rows.take o ++ news.take 0 ++ rows.drop (o + 0)))) = η := by
                simp only [List.take_zero, List.append_nil, Nat.add_zero, List.take_append_drop]
                funext q
                by_cases hq : q = r
                · subst hq; rw [upd_eq, hη]
                · rw [upd_ne hq]
              rw [e] at hK
              exact ⟨_, w, zero _ _ _ h0, same hK⟩
            · obtain ⟨ha, hpe⟩ := hc (by omega)
              subst ha
              obtain ⟨b, o', rfl, hcell⟩ := x4 (by omega)
              obtain ⟨vals, v1, v2, v3⟩ := rows_cells (own := own) (M := M) (w := w) (b := b) (o := o') news hz0 x3 hcell
              obtain ⟨t1, t2'⟩ := arows_take (own := own) (M := M) (c := min news.length m) v1 (Nat.min_le_left _ _) x3 v3
              have hlen : (news.take (min news.length m)).length = min news.length m := by rw [List.length_take]; omega
              have one : ∀ y ∈ vals.take (min news.length m * k), y.oneCell' = true := fun y hy => by
                obtain ⟨q, hq⟩ := List.mem_iff_getElem?.1 hy
                have hql := (List.getElem?_eq_some_iff.1 hq).1
                rw [t1, hlen] at hql
                have hqi : q / k < min news.length m := by rw [Nat.div_lt_iff_lt_mul hz0]; exact hql
                have hi : (news.take (min news.length m))[q / k]? = some (news.take (min news.length m))[q / k] := List.getElem?_eq_getElem (by rw [hlen]; exact hqi)
                have hrow := List.mem_of_mem_take (List.mem_of_getElem? hi)
                have hj : ((news.take (min news.length m))[q / k]'(by rw [hlen]; exact hqi))[q % k]? = some (((news.take (min news.length m))[q / k]'(by rw [hlen]; exact hqi))[q % k]'(by rw [x3 _ hrow]; exact Nat.mod_lt _ hz0)) := List.getElem?_eq_getElem _
                have := t2' _ _ _ _ hi hj
                have e1 : q / k * k + q % k = q := by rw [Nat.mul_comm, Nat.div_add_mod]
                rw [e1, List.getD_eq_getElem?_getD, hq] at this
                exact this.oneCell (hsc _ hrow _ (List.mem_of_getElem? hj))
              obtain ⟨w', k1, k2, k3⟩ := store_rows (P := P) hst (o := o) hη hr (news := news.take (min news.length m)) (by rw [hlen]; omega) (fun row hx => x3 row (List.mem_of_mem_take hx)) (by rw [hlen]; exact h0) t1 one t2'
              rw [hlen] at k2
              refine ⟨goInt ((min news.length m : Nat) : Int), w', ?_, _, _, n, own, M, hK, Nat.le_refl _, k2, .int .i64 _, Own.le_refl _, Mem.le_refl _, k3, fun b hb => Or.inl (OB.turn hη hb), fun b hb => Or.inl hb⟩
              have hload : (loadCells ⟨b, o', none⟩ (Nat.min news.length m * k)).run P w = .ok (vals.take (min news.length m * k)).toArray w := by
                have hll : (vals.take (min news.length m * k)).length = min news.length m * k := by rw [t1, hlen]
                have := run_loadCells_list (P := P) w ⟨b, o', none⟩ (vals.take (min news.length m * k)) fun j v hj => v2 j v (by
                  have hjl := (List.getElem?_eq_some_iff.1 hj).1
                  rw [hll] at hjl
                  rwa [List.getElem?_take, if_pos hjl] at hj)
                rw [hll] at this
                exact this
              unfold Builtin.copy_
              simp only [List.getElem?_toArray, List.getElem?_cons_zero, List.getElem?_cons_succ, Sem.run_bind, run_underlying hu, Result.andThen_ok, Builtin.lenOf, Sem.run_pure, hs, Builtin.firstCells, hload]
              rw [k1]
              rfl
          · exact h.elim
        · exact h.elim
      · exact h.elim
    · exact h.elim
  · exact h.elim
end
end Go.Proofs.YtbomkomipaipmaaGreat
namespace Go.Proofs.YtbomkomipaipmaaGreat

section
variable {P : Program} {own : Own} {M : Mem} {η : AHeap} {n : Nat} {w : World} {K : AVal → AHeap → Nat → Prop}

theorem rep_get {α : Type} {zs : List α} : ∀ (len q : Nat) (c : α), (List.replicate len zs).flatten[q]? = some c → q < len * zs.length ∧ zs[q % zs.length]? = some c
  | 0, q, c, h => by simp at h
  | len + 1, q, c, h => by
    rw [List.replicate_succ, List.flatten_cons] at h
    rw [Nat.succ_mul]
    rcases Nat.lt_or_ge q zs.length with g | g
    · rw [List.getElem?_append_left g] at h
      exact ⟨by omega, by rw [Nat.mod_eq_of_lt g]; exact h⟩
    · rw [List.getElem?_append_right g] at h
      obtain ⟨h1, h2⟩ := rep_get len _ c h
      exact ⟨by omega, by rw [Nat.mod_eq_sub_mod g]; exact h2⟩
theorem made_get {zs : List AVal} {z : Array Value} (hs : z.size = zs.length) (hc : ∀ (i : Nat) (c : AVal), zs[i]? = some c → VR own M c (z.getD i undef)) {m q : Nat} {c : AVal} (hq : q < m) (h : zs[q % zs.length]? = some c) :
    VR own M c ((madeCells z m).getD q undef) := by
  have := hc _ c h
  have hl := (List.getElem?_eq_some_iff.1 h).1
  have e : (madeCells z m).getD q undef = z.getD (q % zs.length) undef := by
    unfold madeCells
    rw [Array.getD_eq_getD_getElem?]
    simp only [Array.getElem?_map, Array.getElem?_range, hq, if_true, Option.map_some, Option.getD_some, hs]
    rw [Array.getD_eq_getD_getElem?, Array.getElem?_eq_getElem (by omega)]
    simp [getElem!_pos, hs, hl]
  rw [e]; exact this

theorem anil_sound {x : AVal} {u : Value} {K : Bool → Prop} (hx : VR own M x u) (h : anil x K) : ∃ a n c, u = .slice a n c ∧ K a.isNone := by
  cases hx <;> simp only [anil] at h
  · exact ⟨none, 0, 0, rfl, h⟩
  · rename_i a; refine ⟨a, 0, 0, rfl, ?_⟩
    cases a with
    | some a => exact h.1
    | none => exact h.2
  · rename_i r o n p a cap hr hn hm hc
    refine ⟨a, n, cap, rfl, ?_⟩
    cases a with
    | some a => exact h.1
    | none =>
      refine h.2 ?_
      rcases Nat.eq_zero_or_pos cap with h0 | h0
      · omega
      · have := (hc h0).1; cases this
  · rename_i k rows a cap b o arr hn hm hxl ha hb hk hl hc
    refine ⟨a, _, cap, rfl, ?_⟩
    cases a with
    | some a => exact h.1
    | none =>
      refine h.2 ?_
      rcases Nat.eq_zero_or_pos rows.length with h0 | h0
      · exact List.eq_nil_of_length_eq_zero h0
      · have := ha h0; cases this
  · exact ⟨_, _, _, rfl, h⟩

theorem zero_info {e : TypeId} {zs : List AVal} {b : Nat} (hz : tzero P e = some zs) (hb : tbytes P e = some b) : ∃ i z, P.info? e = some i ∧ i.zero = some z ∧ i.size = zs.length ∧ z.cells.size = zs.length ∧ i.bytes = b ∧ (∀ c ∈ zs, c.sc = true) ∧
    ∀ (q : Nat) (c : AVal), zs[q]? = some c → VR own M c (z.cells.getD q undef) := by
  obtain ⟨z, z1, z2, z3, z4, z5⟩ := zero_run (own := own) (M := M) hz (default : World)
  unfold tbytes at hb
  cases hi : P.info? e with
  | none => rw [hi] at hb; simp at hb
  | some i =>
    rw [hi] at hb; simp at hb
    unfold tsize at z5; rw [hi] at z5; simp at z5
    unfold zeroValue typeInfo at z1
    simp only [Sem.run_bind, run_program, Result.andThen_ok, hi, Sem.run_pure] at z1
    cases hiz : i.zero with
    | none => rw [hiz] at z1; simp at z1
    | some zv =>
      rw [hiz] at z1; simp at z1
      subst z1
      exact ⟨i, zv, rfl, hiz, z5, z2, hb, z3, z4⟩

theorem aappend_sound (hst : St own M η n w) {t t2 ty : TypeId} {d x : AVal} {u v : Value} (hd : VR own M d u) (hx : VR own M x v) (h : aappend P t t2 d x η n K) :
    ∃ y w', (Builtin.append_ #[t, t2] ty #[u, v]).run P w = .ok y w' ∧ Out own M η n w K y w' := by
  unfold aappend at h
  split at h
  · rename_i e hte
    have hu := telem_run hte
    split at h
    · -- zeros
      rename_i zs b hz hb hi64
      split at h
      · rename_i m
        obtain ⟨h0, h1, h2, h3, h4⟩ := h
        obtain ⟨i, z, i1, i2, i3, i4, i5, i6, i7⟩ := zero_info (own := own) (M := M) hz hb
        cases hd; cases hx
        unfold lenMax at h3
        obtain ⟨q, rfl⟩ : ∃ q : Nat, m = (q : Int) := ⟨m.toNat, by omega⟩
        simp only [Int.toNat_natCast] at h4
        have hw : IntKind.i64.wrap (q : Int) = (q : Int) := by rw [IntKind.wrap_i64]; omega
        rcases Nat.eq_zero_or_pos q with rfl | hq
        · refine ⟨.slice none 0 0, w, ?_, ?_⟩
          · simp [Builtin.append_, run_underlying hu, run_underlying hi64, sizeOf, typeInfo, i1, asInt, asIntOf, IntKind.wrap_i64]
          · have hfn := hst.fresh n (Nat.le_refl _)
            simp at h4
            refine ⟨.sl n 0 0, _, n + 1, own.put n ⟨0, 0, 0, zs.length⟩, M, h4, Nat.le_succ _, hst.add ⟨rfl, h0, by simp, by simp, fun h => by simp at h, fun i j row c hi => by simp at hi⟩ (fun h => by simp at h) (fun _ _ => rfl) (fun _ _ _ => rfl),
              .sl n 0 0 ⟨0, 0, 0, zs.length⟩ none 0 (by simp [Own.put]) (Nat.le_refl _) (by omega) (fun h => by omega), Own.le_put hfn _, Mem.le_refl _, Fr.refl _ _, fun b hb => ?_, fun b hb => Or.inl hb⟩
            obtain ⟨r, p, o, k1, k2, k3, k4⟩ := hb
            by_cases e : r = n
            · subst e; simp only [Own.put, if_true, Option.some.injEq] at k2; subst k2; simp at k3
            · rw [upd_ne e] at k1; simp only [Own.put, if_neg e] at k2
              exact Or.inl ⟨r, p, o, k1, k2, k3, k4⟩
        · have hge := grownCap_ge w q 0 e
          have hcm := grownCap_le_maxLen w q 0 e (by unfold maxLen; omega)
          unfold maxLen at hcm
          have n1 : ¬ ((q : Int) * i.bytes > 281474976710656) := by rw [i5]; omega
          have n3 : ¬ (q = 0) := by omega
          have n2 : ¬ (281474976710656 < Builtin.nextslicecap q 0 * i.bytes) := by
            rw [nextslicecap_zero hq, i5]
            have : ((q * b : Nat) : Int) ≤ 140737488355328 := by rw [Int.natCast_mul]; exact h2
            omega
          have n4 : ¬ (9223372036854775807 < (q : Int)) := by omega
          have hrun : (Builtin.append_ #[t, t2] ty #[.slice none 0 0, .int .i64 q]).run P w = .ok (.slice (some ⟨w.heap.size, 0, none⟩) q (grownCap w q 0 e))
              (w.drew.alloc (.cells (Builtin.zeroCells z.cells q ++ Builtin.zeroCells z.cells (grownCap w q 0 e - q)) e)) := by
            have n5 : ¬ (zs.length = 0) := by omega
            have n6 : ¬ ((q : Int) < 0) := by omega
            simp [Builtin.append_, run_underlying hu, run_underlying hi64, sizeOf, typeInfo, zeroValue, i1, i2, i3, asInt, asIntOf, hw, n1, n2, n3, n4, n6, Question.forced, Builtin.firstCells, newRow, grownCap]
            intro hx; exact absurd hx (by have : 0 < q * zs.length := Nat.mul_pos hq h0; omega)
          refine ⟨_, _, hrun, ?_⟩
          have hsz : (Builtin.zeroCells z.cells q ++ Builtin.zeroCells z.cells (grownCap w q 0 e - q)).size = grownCap w q 0 e * zs.length := by
            simp only [Array.size_append, size_zeroCells, i4, ← Nat.add_mul]
            congr 1; omega
          have e1 : ∀ x, x < q * zs.length → (Builtin.zeroCells z.cells q ++ Builtin.zeroCells z.cells (grownCap w q 0 e - q)).getD x undef = (madeCells z.cells (q * zs.length)).getD x undef := fun x hx => by
            rw [Array.getD_eq_getD_getElem?, Array.getElem?_append_left (by rw [size_zeroCells, i4]; exact hx), ← Array.getD_eq_getD_getElem?]
            unfold Builtin.zeroCells madeCells
            rw [i4]
          generalize (Builtin.zeroCells z.cells q ++ Builtin.zeroCells z.cells (grownCap w q 0 e - q)) = A at *
          refine Out.new (w1 := w.drew) hst h0 (rows := List.replicate q zs) (fun row hr => by rw [(List.mem_replicate.1 hr).2]) (by rw [hsz]; simp; exact Nat.mul_le_mul_right _ hge) (fun i' j row c hi' hj => ?_) ⟨rfl, rfl, rfl, rfl⟩
            (.sl n 0 q ⟨w.heap.size, 0, A.size, zs.length⟩ _ _ (by simp [Own.put]) hge (by omega) fun _ => ⟨by simp, by simp [hsz]⟩) h4
          have hil := (List.getElem?_eq_some_iff.1 hi').1
          have hrow := (List.mem_replicate.1 (List.mem_of_getElem? hi')).2
          subst hrow
          have hjl := (List.getElem?_eq_some_iff.1 hj).1
          simp at hil
          have hx1 : (i' + 1) * row.length ≤ q * row.length := Nat.mul_le_mul_right _ hil
          rw [Nat.succ_mul] at hx1
          rw [e1 _ (by omega)]
          refine made_get i4 i7 (by omega) ?_
          have : (i' * row.length + j) % row.length = j := by rw [Nat.mul_comm, Nat.mul_add_mod, Nat.mod_eq_of_lt hjl]
          rw [this]; exact hj
      · exact h.elim
    · -- rows
      rename_i zs b e' hz hb ht2
      obtain ⟨rfl, h0, h⟩ := h
      split at h
      · rename_i news hn
        obtain ⟨hsc, h⟩ := h
        obtain ⟨i, z, i1, i2, i3, i4, i5, i6, i7⟩ := zero_info (own := own) (M := M) hz hb
        obtain ⟨xa, cap, rfl, x1, x2, x3, x4⟩ := arows_sound hst h0 hx hn
        have hvals : ∃ vals : List Value, vals.length = news.length * zs.length ∧ (0 < news.length → ∃ ad, xa = some ad ∧ ∀ j u, vals[j]? = some u → w.cell? (ad.add j) = some u) ∧
            ∀ (i j : Nat) (row : List AVal) (c : AVal), news[i]? = some row → row[j]? = some c → VR own M c (vals.getD (i * zs.length + j) undef) := by
          rcases Nat.eq_zero_or_pos news.length with hn0 | hn0
          · have : news = [] := List.eq_nil_of_length_eq_zero hn0
            subst this
            exact ⟨[], by simp, fun h => by simp at h, fun i j row c h => by simp at h⟩
          · obtain ⟨bb, oo, rfl, hc⟩ := x4 hn0
            obtain ⟨vals, v1, v2, v3⟩ := rows_cells (own := own) (M := M) (w := w) news h0 x3 hc
            exact ⟨vals, v1, fun _ => ⟨_, rfl, v2⟩, v3⟩
        obtain ⟨vals, v1, v2, v3⟩ := hvals
        split at h
        · obtain ⟨b1, b2, b3⟩ := h
          cases hd
          exact append_fresh hst none hu i1 i2 i3 i4 h0 x3 v1 v3 v2 (by rw [i5]; exact b1) b2 b3
        · obtain ⟨b1, b2, b3⟩ := h
          cases hd
          exact append_fresh hst _ hu i1 i2 i3 i4 h0 x3 v1 v3 v2 (by rw [i5]; exact b1) b2 b3
        · split at h
          · rename_i k rows hη
            obtain ⟨rfl, b2, b3, b4, b5⟩ := h
            refine append_own hst hη hd b2 hu i1 i2 i3 i4 x3 v1 v3 v2 (fun y hy => ?_) (by rw [i5]; exact b3) b4 b5
            obtain ⟨q, hq⟩ := List.mem_iff_getElem?.1 hy
            have hql := (List.getElem?_eq_some_iff.1 hq).1
            rw [v1] at hql
            have hi' : q / zs.length < news.length := Nat.div_lt_of_lt_mul (by rw [Nat.mul_comm]; exact hql)
            have hrow := x3 _ (List.getElem_mem hi')
            have hj' : q % zs.length < news[q / zs.length].length := by rw [hrow]; exact Nat.mod_lt _ h0
            have hvr := v3 _ _ _ _ (List.getElem?_eq_getElem hi') (List.getElem?_eq_getElem hj')
            have e1 : q / zs.length * zs.length + q % zs.length = q := by rw [Nat.mul_comm, Nat.div_add_mod]
            rw [e1, List.getD_eq_getElem?_getD, hq] at hvr
            exact hvr.oneCell (hsc _ (List.getElem_mem hi') _ (List.getElem_mem hj'))
          · exact h.elim
        · split at h
          · rename_i k rows hη
            obtain ⟨rfl, b2, b3, b5⟩ := h
            refine append_room hst hη hd b2 b3 hu i1 i3 x3 v1 v3 v2 (fun y hy => ?_) b5
            obtain ⟨q, hq⟩ := List.mem_iff_getElem?.1 hy
            have hql := (List.getElem?_eq_some_iff.1 hq).1
            rw [v1] at hql
            have hi' : q / zs.length < news.length := Nat.div_lt_of_lt_mul (by rw [Nat.mul_comm]; exact hql)
            have hrow := x3 _ (List.getElem_mem hi')
            have hj' : q % zs.length < news[q / zs.length].length := by rw [hrow]; exact Nat.mod_lt _ h0
            have hvr := v3 _ _ _ _ (List.getElem?_eq_getElem hi') (List.getElem?_eq_getElem hj')
            have e1 : q / zs.length * zs.length + q % zs.length = q := by rw [Nat.mul_comm, Nat.div_add_mod]
            rw [e1, List.getD_eq_getElem?_getD, hq] at hvr
            exact hvr.oneCell (hsc _ (List.getElem_mem hi') _ (List.getElem_mem hj'))
          · exact h.elim
        · exact h.elim
      · exact h.elim
    · exact h.elim
  · exact h.elim

theorem aclear_sound (hst : St own M η n w) {t ty : TypeId} {x : AVal} {u : Value} (hx : VR own M x u) {η' : AHeap} (h : aclear P t x η = some η') :
    ∃ w', (Builtin.clear_ #[t] ty #[u]).run P w = .ok (.tuple #[]) w' ∧ St own M η' n w' ∧ Fr (OB own η) w w' ∧ ∀ b, OB own η' b → OB own η b := by
  unfold aclear at h
  split at h
  · rename_i e r o m c hte
    have hu := telem_run hte
    split at h
    · rename_i zs k rows hz hη
      split at h
      · rename_i hh
        obtain ⟨rfl, h1, h2⟩ := hh
        cases h
        obtain ⟨z, z1, z3, z2, z4, z5⟩ := zero_run (own := own) (M := M) hz w
        cases hx with
        | slc _ _ _ _ p a cap hp hn hcc hm hc =>
        rcases Nat.eq_zero_or_pos m with h0 | h0
        · subst h0
          have e : upd η r (some (.cells zs.length (rows.take o ++ List.replicate 0 zs ++ rows.drop (o + 0)))) = η := by
            simp only [List.replicate_zero, List.append_nil, Nat.add_zero, List.take_append_drop]
            funext q
            by_cases hq : q = r
            · subst hq; rw [upd_eq, hη]
            · rw [upd_ne hq]
          rw [e]
          refine ⟨w, ?_, hst, Fr.refl _ _, fun b hb => hb⟩
          unfold Builtin.clear_
          cases a <;> simp [run_underlying hu]
        · obtain ⟨ha, hfit⟩ := hc (by omega)
          subst ha
          obtain ⟨p', g1, g2⟩ := hst.obj r _ hη
          rw [hp] at g1; cases g1
          have hk0 : 0 < zs.length := g2.2.1
          have hlen : (Builtin.zeroCells z.cells m).toList.length = m * zs.length := by simp [size_zeroCells, z3]
          have hget : ∀ (i j : Nat) (row : List AVal) (c : AVal), (List.replicate m zs)[i]? = some row → row[j]? = some c → VR own M c ((Builtin.zeroCells z.cells m).toList.getD (i * zs.length + j) Go.undef) := fun i j row c hi hj => by
            have hil := (List.getElem?_eq_some_iff.1 hi).1
            simp at hil
            have hrow := (List.mem_replicate.1 (List.mem_of_getElem? hi)).2
            subst hrow
            have hjl := (List.getElem?_eq_some_iff.1 hj).1
            have hx1 : (i + 1) * row.length ≤ m * row.length := Nat.mul_le_mul_right _ hil
            rw [Nat.succ_mul] at hx1
            have e1 : (Builtin.zeroCells z.cells m).toList.getD (i * row.length + j) Go.undef = (madeCells z.cells (m * row.length)).getD (i * row.length + j) Go.undef := by
              rw [List.getD_eq_getElem?_getD, Array.getElem?_toList, ← Array.getD_eq_getD_getElem?]
              unfold Builtin.zeroCells madeCells
              rw [z3]
            rw [e1]
            refine made_get z3 z4 (by omega) ?_
            have : (i * row.length + j) % row.length = j := by rw [Nat.mul_comm, Nat.mul_add_mod, Nat.mod_eq_of_lt hjl]
            rw [this]; exact hj
          obtain ⟨w', k1, k2, k3⟩ := store_rows (P := P) hst (o := o) hη hp (news := List.replicate m zs) (A := (Builtin.zeroCells z.cells m).toList) (by simpa using h1) (fun row hr => by rw [(List.mem_replicate.1 hr).2]) (by simpa using h0) (by simpa using hlen) (fun y hy => by
              obtain ⟨q, hq⟩ := List.mem_iff_getElem?.1 hy
              have hql := (List.getElem?_eq_some_iff.1 hq).1
              rw [hlen] at hql
              have hqi : q / zs.length < m := by rw [Nat.div_lt_iff_lt_mul hk0]; exact hql
              have hj : zs[q % zs.length]? = some (zs[q % zs.length]'(Nat.mod_lt _ hk0)) := List.getElem?_eq_getElem _
              have := hget (q / zs.length) (q % zs.length) zs _ (by simp [hqi]) hj
              have e1 : q / zs.length * zs.length + q % zs.length = q := by rw [Nat.mul_comm, Nat.div_add_mod]
              rw [e1, List.getD_eq_getElem?_getD, hq] at this
              exact this.oneCell (List.all_eq_true.1 h2 _ (List.getElem_mem _))) hget
          refine ⟨w', ?_, by simpa using k2, k3, fun b hb => OB.turn hη hb⟩
          unfold Builtin.clear_
          simp only [List.getElem?_toArray, List.getElem?_cons_zero, Sem.run_bind, run_underlying hu, Result.andThen_ok]
          obtain ⟨m', rfl⟩ : ∃ m', m = m' + 1 := ⟨m - 1, by omega⟩
          simp only [Sem.run_bind, z1, Result.andThen_ok, k1, Sem.run_pure]
      · cases h
    · cases h
  · cases h

/-- a new map -/
theorem makeMap_sound (hst : St own M η n w) {t : TypeId} (hK : K (.mp n) (upd η n (some (.map []))) (n + 1)) : ∃ y w', (Instr.makeMap t none).run P w = .ok y w' ∧ Out own M η n w K y w' := by
  have hfn := hst.fresh n (Nat.le_refl _)
  have hle := Own.le_put hfn ⟨w.heap.size, 0, 1, 1⟩
  have hold : ∀ b, b < w.heap.size → (w.alloc (.map #[] 0)).heap[b]? = w.heap[b]? := fun b hb => Go.RowKit.Below.heap_alloc _ _ _ hb
  refine ⟨.map (some w.heap.size), w.alloc (.map #[] 0), ?_, .mp n, _, n + 1, own.put n ⟨w.heap.size, 0, 1, 1⟩, M, hK, Nat.le_succ _, hst.add (p := ⟨w.heap.size, 0, 1, 1⟩) ?_ (fun _ r q o hr hq hs => ?_) (fun b hb => hold b (OB.lt hst hb)) (fun b a hM => hold b (hst.mem_lt hM)), .mp n ⟨w.heap.size, 0, 1, 1⟩ (by simp [Own.put]), hle, Mem.le_refl _, Fr.alloc _ _ _, fun b hb => ?_, fun b hb => Or.inl hb⟩
  · unfold Instr.makeMap
    simp only [Sem.run_bind, run_newObj, Result.andThen_ok, Sem.run_pure]
    first | rfl | (simp; done)
  · refine ⟨by simp, ?_, #[], 0, ?_, rfl, by simp, fun i e x hi => by simp at hi⟩
    · cases hM : M w.heap.size with
      | none => rfl
      | some a => have := hst.mem_lt hM; omega
    · show (w.heap.push _)[w.heap.size]? = _
      simp
  · obtain ⟨q', g1, g2⟩ := hst.obj r o hr
    rw [hq] at g1; cases g1
    have := g2.lt hs
    simp only; omega
  · rcases OB.add hfn hb with h | h
    · exact Or.inl h
    · exact Or.inr (by rw [h]; exact Nat.le_refl _)
theorem achg_sound (hst : St own M η n w) {o : Oper} {a : Act} {ρ : Operand → AVal} (hρ : ∀ x, VR own M (ρ x) (a.eval x)) (h : achg P o ρ η n K) {next : Act → World → Prop} {Q : Exit → Act → World → Prop}
    (hnext : ∀ u w', Out own M η n w K u w' → next (a.put o.dst u) w') : o.wp P a w next Q := by
  have val : ∀ (s : Sem Value), (∃ y w', s.run P w = .ok y w' ∧ Out own M η n w K y w') → (execOp a.eval o = do pure (.value (← s))) → o.wp P a w next Q := fun s ⟨y, w', k1, k2⟩ e => by
    unfold Oper.wp
    rw [e]
    simp only [Sem.run_bind, k1, Result.andThen_ok, Sem.run_pure]
    exact hnext _ _ k2
  unfold achg at h
  cases hop : o.op <;> rw [hop] at h <;> simp only at h
  case alloc t =>
    split at h
    · rename_i cs hz
      obtain ⟨z, z1, z2, z3, z4, z5⟩ := zero_run (own := own) (M := M) hz w
      have hlen : 0 < cs.length := List.length_pos_iff.2 h.1
      refine val _ ⟨_, _, ?_, Out.new (w1 := w) (arr := z.cells) (T := t) hst hlen (rows := [cs]) (by simp) (by simp; omega) (fun i j row c hi hj => ?_) ⟨rfl, rfl, rfl, rfl⟩ (.ptr n 0 0 ⟨w.heap.size, 0, z.cells.size, cs.length⟩ (by simp [Own.put])) h.2⟩ (by unfold execOp; rw [hop])
      · unfold Instr.alloc newVar newRow
        simp only [Sem.run_bind, z1, Result.andThen_ok, Sem.run_pure, run_newObj, Nat.zero_mul, Nat.add_zero]
        rfl
      · cases i with
        | zero => simp at hi; subst hi; simpa using z4 j c hj
        | succ i => simp at hi
    · exact h.elim
  case box t x =>
    split at h
    · rename_i z hz
      obtain ⟨h1, h2, h3, h4⟩ := h
      obtain ⟨c1, c2⟩ := vr_cells (hρ x) h2
      refine val _ ⟨_, _, ?_, Out.new (w1 := w) (arr := (a.eval x).cells) (T := t) hst h3 (rows := [acells (ρ x)]) (by simpa using h1) (by simp; omega) (fun i j row c hi hj => ?_) ⟨rfl, rfl, rfl, rfl⟩ (.ptr n 0 0 ⟨w.heap.size, 0, (a.eval x).cells.size, z⟩ (by simp [Own.put])) h4⟩ (by unfold execOp; rw [hop])
      · unfold Instr.box newVar newRow
        simp only [Sem.run_bind, Result.andThen_ok, Sem.run_pure, run_newObj, Nat.zero_mul, Nat.add_zero]
        rfl
      · cases i with
        | zero => simp at hi; subst hi; simpa using c2 j c hj
        | succ i => simp at hi
    · exact h.elim
  case buildSlice t len parts =>
    split at h
    · rename_i e hte
      have hu := telem_run hte
      split at h
      · rename_i zs hz
        split at h
        · rename_i cs hf
          obtain ⟨h0, h1, h2⟩ := h
          obtain ⟨z, z1, z2, z3, z4, z5⟩ := zero_run (own := own) (M := M) hz w
          have hs := tsize_run z5 w
          have hrl : (List.replicate len zs).flatten.length = len * zs.length := by simp
          obtain ⟨B, k1, k2, k3, k4⟩ := fill_sound (own := own) (M := M) (place := fun i => some (i * zs.length, zs.length)) (parts.toList.map fun p => (p.1, ρ p.2)) (parts.map fun p => (p.1, a.eval p.2)).toList (List.replicate len zs).flatten (madeCells z.cells (len * zs.length)) cs
            (by rw [← hf]; congr 1; simp) (by simp) (fun i p q hp hq => by
              rw [List.getElem?_map] at hp
              rw [Array.getElem?_toList, Array.getElem?_map] at hq
              cases hx : parts[i]? with
              | none => rw [hx] at hq; simp at hq
              | some x =>
                rw [Array.getElem?_toList, hx] at hp
                rw [hx] at hq
                simp at hp hq; subst hp hq
                exact ⟨rfl, hρ x.2⟩) (by rw [hrl]; simp [madeCells]) (fun c hc => by
              obtain ⟨l, hl, hcl⟩ := List.mem_flatten.1 hc
              rw [(List.mem_replicate.1 hl).2] at hcl
              exact z3 c hcl) (fun q c hq => by
              obtain ⟨q1, q2⟩ := rep_get len q c hq
              exact made_get z2 z4 q1 q2)
          have hcl : cs.length = len * zs.length := by
            have : ∀ (parts : List (Nat × List AVal)) (c0 out : List AVal), afillP (fun i => some (i * zs.length, zs.length)) c0 parts = some out → out.length = c0.length := by
              intro parts
              induction parts with
              | nil => intro c0 out h; simp [afillP] at h; rw [h]
              | cons p ps ih =>
                intro c0 out h
                simp only [afillP] at h
                split at h
                · rename_i hh; rw [ih _ _ h]; simp; omega
                · cases h
            rw [this _ _ _ hf, hrl]
          obtain ⟨c1, c2, c3⟩ := chunk_get len cs hcl
          refine val _ ⟨_, _, ?_, Out.new (w1 := w) (arr := B) (T := e) hst h0 (rows := chunk zs.length len cs) c2 (by rw [c1]; omega) (fun i j row c hi hj => k4 _ c (c3 i j row c hi hj)) ⟨rfl, rfl, rfl, rfl⟩
            (.sl n 0 len ⟨w.heap.size, 0, B.size, zs.length⟩ (some ⟨w.heap.size, 0, none⟩) len (by simp [Own.put]) (Nat.le_refl _) (by have : len * 1 ≤ len * zs.length := Nat.mul_le_mul_left len h0; omega) fun _ => ⟨by simp, by simp; omega⟩) h2⟩ (by unfold execOp; rw [hop])
          have hpl : (madeCells z.cells (len * zs.length)) = (Array.range (len * zs.length)).map (z.cells[· % z.cells.size]!) := rfl
          rw [hpl] at k1
          unfold Instr.buildSlice underlying newRow
          have n1 : ¬ (16777216 < len * zs.length) := by omega
          by_cases hl0 : len * zs.length = 0
          · simp [hu, hs, hl0, Array.range_zero'] at k1 ⊢
            simp [k1]
          · simp [hu, hs, n1, hl0, z1] at k1 ⊢
            simp [k1]
        · exact h.elim
      · exact h.elim
    · exact h.elim
  case makeSlice t l c =>
    split at h
    · rename_i e kl l' kc c' hte el ec
      have hu := telem_run hte
      split at h
      · rename_i zs b hz hb
        obtain ⟨h0, h1, h2, h3, h4, h5⟩ := h
        obtain ⟨z, z1, z2, z3, z4, z5⟩ := zero_run (own := own) (M := M) hz w
        have hl := hρ l; have hc := hρ c
        rw [el] at hl; rw [ec] at hc
        generalize hlv : a.eval l = lv at hl; generalize hcv : a.eval c = cv at hc
        cases hl; cases hc
        unfold tbytes at hb
        cases hi : P.info? e with
        | none => rw [hi] at hb; simp at hb
        | some i =>
          rw [hi] at hb; simp at hb
          unfold tsize at z5; rw [hi] at z5; simp at z5
          unfold zeroValue typeInfo at z1
          simp only [Sem.run_bind, run_program, Result.andThen_ok, hi, Sem.run_pure] at z1
          cases hiz : i.zero with
          | none => rw [hiz] at z1; simp at z1
          | some zv =>
            rw [hiz] at z1; simp at z1
            subst z1
            have hrun := run_make (P := P) w t e i zv hu hi hiz kl kc l' c' h1 h2 (by rw [hb]; exact h3) h4
            have hsz : (madeCells zv.cells (c'.toNat * i.size)).size = c'.toNat * zs.length := by rw [z5]; simp [madeCells]
            refine val _ ⟨_, _, ?_, Out.new (w1 := w) (arr := madeCells zv.cells (c'.toNat * i.size)) (T := e) hst h0 (rows := List.replicate l'.toNat zs) (fun row hr => by rw [(List.mem_replicate.1 hr).2]) (by rw [hsz]; simp; exact Nat.mul_le_mul_right _ (by omega)) (fun i' j row c hi' hj => ?_) ⟨rfl, rfl, rfl, rfl⟩
              (.sl n 0 l'.toNat ⟨w.heap.size, 0, (madeCells zv.cells (c'.toNat * i.size)).size, zs.length⟩ (some ⟨w.heap.size, 0, none⟩) c'.toNat (by simp [Own.put]) (by omega) (by omega) fun _ => ⟨by simp, by simp [hsz]⟩) h5⟩ (by unfold execOp; rw [hop])
            · rw [hlv, hcv]; exact hrun
            · have hil := (List.getElem?_eq_some_iff.1 hi').1
              have hrow := (List.mem_replicate.1 (List.mem_of_getElem? hi')).2
              subst hrow
              have hjl := (List.getElem?_eq_some_iff.1 hj).1
              simp at hil
              have hx1 : (i' + 1) * row.length ≤ c'.toNat * row.length := Nat.mul_le_mul_right _ (by omega)
              rw [Nat.succ_mul] at hx1
              refine made_get z2 z4 (by rw [z5]; omega) ?_
              have : (i' * row.length + j) % row.length = j := by rw [Nat.mul_comm, Nat.mul_add_mod, Nat.mod_eq_of_lt hjl]
              rw [this]; exact hj
      · exact h.elim
    · exact h.elim
  case makeMap t rs =>
    cases rs with
    | some x => exact h.elim
    | none =>
      obtain ⟨y, w', k1, k2⟩ := makeMap_sound (P := P) (t := t) hst h
      exact val (Instr.makeMap t none) ⟨y, w', k1, k2⟩ (by unfold execOp; rw [hop]; rfl)
  case range t x =>
    obtain ⟨v, w', c, η', n', own', M', h1, h2, h3, h4, h5, h6, h7, h8, h9, h10⟩ := arange_sound (P := P) hst (hρ x) h
    exact val _ ⟨v, w', h1, c, η', n', own', M', h2, h3, h4, h5, h6, h7, h8, h9, fun b hb => Or.inl (h10 b hb)⟩ (by unfold execOp; rw [hop])
  case next x str =>
    obtain ⟨v, w', c, η', h1, h2, h3, h4, h5, h6⟩ := anext_sound (P := P) (t := o.type) hst (hρ x) h
    exact val _ ⟨v, w', h1, c, η', n, own, M, h2, Nat.le_refl _, h3, h4, Own.le_refl _, Mem.le_refl _, h5, fun b hb => Or.inl (h6 b hb), fun b hb => Or.inl hb⟩ (by unfold execOp; rw [hop])
  case entry x =>
    obtain ⟨v, c, h1, h2, h3⟩ := aentry_sound (P := P) hst (hρ x) h
    exact val _ ⟨v, w, h1, c, η, n, own, M, h2, Nat.le_refl _, hst, h3, Own.le_refl _, Mem.le_refl _, Fr.refl _ _, fun b hb => Or.inl hb, fun b hb => Or.inl hb⟩ (by unfold execOp; rw [hop])
  case insert t m k x =>
    split at h
    · rename_i η' hs
      obtain ⟨w', k1, k2, k3, k4⟩ := insert_sound hst (hρ m) (hρ k) (hρ x) hs
      unfold Oper.wp execOp
      rw [hop]
      simp only [Sem.run_bind, k1, Result.andThen_ok, Sem.run_pure]
      exact hnext _ _ (Out.undef hst h k2 k3 k4)
    · exact h.elim
  case mapUpdate t m k x =>
    split at h
    · rename_i η' hs
      obtain ⟨w', k1, k2, k3, k4⟩ := insert_sound hst (hρ m) (hρ k) (hρ x) hs
      unfold Oper.wp execOp
      rw [hop]
      simp only [Sem.run_bind, k1, Result.andThen_ok, Sem.run_pure]
      exact hnext _ _ (Out.undef hst h k2 k3 k4)
    · exact h.elim
  case store t p x =>
    split at h
    · rename_i η' hs
      obtain ⟨w', k1, k2, k3, k4⟩ := astore_sound hst (hρ p) (hρ x) hs
      unfold Oper.wp execOp
      rw [hop]
      simp only [Sem.run_bind, k1, Result.andThen_ok, Sem.run_pure]
      exact hnext _ _ (Out.undef hst h k2 k3 k4)
    · exact h.elim
  case binOp op t x y ty =>
    have nil : ∀ (K' : Bool → Prop) (op' : BinOp), (op' = .eql ∨ op' = .neq) → o.op = .binOp op' t x y ty → (∀ b, K' b → K (.bool (if op' = .eql then b else !b)) η n) → (match P.underlying t, ρ y with
      | some (.slice _), .nils => anil (ρ x) K'
      | _, _ => False) → o.wp P a w next Q := fun K' op' ho' hop' hK h => by
      split at h
      · rename_i e hu hy
        have hx := hρ x; have hy' := hρ y
        rw [hy] at hy'
        obtain ⟨ad, m, c, e1, h1⟩ := anil_sound hx h
        have e2 : a.eval y = .slice none 0 0 := by generalize a.eval y = v at hy'; cases hy'; rfl
        have hdep : ∃ d, Op.maxDepth = d + 1 := ⟨9999, rfl⟩
        obtain ⟨d, hd⟩ := hdep
        have heq : (Op.equal t (.slice ad m c) (.slice none 0 0)).run P w = .ok ad.isNone w := by
          unfold Op.equal
          rw [hd]
          unfold Op.equalIn underlying
          simp only [Sem.run_bind, run_program, Result.andThen_ok, hu, Sem.run_pure]
          cases ad <;> rfl
        have hg : (eqGuard op' t x y (.slice ad m c) (.slice none 0 0)).run P w = .ok () w := guard_plain t x y _ _ rfl
        refine val _ ⟨.bool (if op' = .eql then ad.isNone else !ad.isNone), w, ?_, .bool (if op' = .eql then ad.isNone else !ad.isNone), η, n, own, M, hK _ h1, Nat.le_refl _, hst, .bool _, Own.le_refl _, Mem.le_refl _, Fr.refl _ _, fun b hb => Or.inl hb, fun b hb => Or.inl hb⟩ (by unfold execOp; rw [hop'])
        rw [e1, e2]
        simp only [Sem.run_bind, hg, Result.andThen_ok]
        exact binOp_eq ho' rfl heq
      · exact h.elim
    cases op <;> simp only at h <;> try exact h.elim
    · exact nil _ .eql (Or.inl rfl) hop (fun b hb => hb) h
    · exact nil _ .neq (Or.inr rfl) hop (fun b hb => hb) h
  case call c =>
    obtain ⟨callee, args, argTypes⟩ := c
    simp only at h
    have toA : ∀ {α : Type} {l : Array α} {m : List α}, l.toList = m → l = m.toArray := fun {α l m} e => by rw [← e]
    cases callee with
    | builtin b =>
      simp only at h
      split at h
      · rename_i d x t t2 ea et
        have ea := toA ea; have et := toA et; subst ea et
        refine val (Builtin.append_ #[t, t2] o.type #[a.eval d, a.eval x]) ?_ ?_
        · exact aappend_sound hst (hρ d) (hρ x) h
        · unfold execOp
          rw [hop]
          unfold resolve invoke builtin
          simp only [List.map_toArray, List.map_cons, List.map_nil, pure_bind]
      · rename_i d x t t2 ea et
        have ea := toA ea; have et := toA et; subst ea et
        refine val (Builtin.copy_ #[t, t2] o.type #[a.eval d, a.eval x]) ?_ ?_
        · exact acopy_sound hst (hρ d) (hρ x) h
        · unfold execOp
          rw [hop]
          unfold resolve invoke builtin
          simp only [List.map_toArray, List.map_cons, List.map_nil, pure_bind]
      · rename_i x t ea et
        have ea := toA ea; have et := toA et; subst ea et
        split at h
        · rename_i η' hs
          obtain ⟨w', k1, k2, k3, k4⟩ := aclear_sound (P := P) (ty := o.type) hst (hρ x) hs
          refine val (Builtin.clear_ #[t] o.type #[a.eval x]) ⟨_, w', k1, Out.undef hst h k2 k3 k4⟩ ?_
          unfold execOp
          rw [hop]
          unfold resolve invoke builtin
          simp only [List.map_toArray, List.map_cons, List.map_nil, pure_bind]
        · exact h.elim
      · rename_i m k t t2 ea et
        have ea := toA ea; have et := toA et; subst ea et
        split at h
        · rename_i η' hs
          obtain ⟨w', k1, k2, k3, k4⟩ := delete_sound (P := P) (t' := o.type) hst #[t, t2] rfl (hρ m) (hρ k) hs
          refine val (Builtin.delete_ #[t, t2] o.type #[a.eval m, a.eval k]) ⟨_, w', k1, Out.undef hst h k2 k3 k4⟩ ?_
          unfold execOp
          rw [hop]
          unfold resolve invoke builtin
          simp only [List.map_toArray, List.map_cons, List.map_nil, pure_bind]
        · exact h.elim
      · exact h.elim
    | value f =>
      simp only at h
      split at h
      · rename_i fid first caps ef
        obtain ⟨h1, h2⟩ := h
        have hf := hρ f
        rw [ef] at hf
        generalize hfv : a.eval f = fv at hf
        cases hf with
        | func _ _ _ F C hF hC hFc hCc =>
          obtain ⟨g1, g2⟩ := eval_map hρ args
          cases hfn : P.funcs[fid]? with
          | none => rw [hfn] at h1; simp at h1
          | some fn =>
            rw [hfn] at h1
            simp only [Option.any_some, Bool.and_eq_true, Bool.not_eq_true'] at h1
            have hrun : (execOp a.eval o).run P w = .ok (.enter fid (F ++ args.map a.eval ++ C)) w := by
              unfold execOp
              rw [hop]
              unfold resolve Deferred.ofValue invoke callFunc
              simp only [hfv, Sem.run_bind, run_program, Result.andThen_ok, Sem.run_pure, hfn, h1.2, Bool.false_eq_true, if_false]
              have : fn.body.isNone = false := by cases hb : fn.body <;> simp_all
              simp only [this, Bool.false_eq_true, if_false, Sem.run_pure]
            unfold Oper.wp
            rw [hrun]
            refine (h2 own M w (F ++ args.map a.eval ++ C) hst (by simp [hF, hC]) fun i c hi => ?_).mono fun e w' hh => ?_
            · rw [Array.getD_eq_getD_getElem?]
              rcases Nat.lt_or_ge i (first.length + args.size) with q1 | q1
              · rw [List.getElem?_append_left (by simp; omega)] at hi
                rw [Array.getElem?_append_left (by simp; omega)]
                rcases Nat.lt_or_ge i first.length with q2 | q2
                · rw [List.getElem?_append_left q2] at hi
                  rw [Array.getElem?_append_left (by omega), ← Array.getD_eq_getD_getElem?]
                  exact hFc i c hi
                · rw [List.getElem?_append_right q2] at hi
                  rw [Array.getElem?_append_right (by omega), ← Array.getD_eq_getD_getElem?, hF]
                  exact g2 _ c hi
              · rw [List.getElem?_append_right (by simp; omega)] at hi
                rw [Array.getElem?_append_right (by simp; omega), ← Array.getD_eq_getD_getElem?]
                have := hCc _ c hi
                simpa [hF] using this
            · obtain ⟨u, rfl, ho⟩ := hh
              exact hnext u w' ho
      · exact h.elim
    | invoke r m => exact h.elim
end
end Go.Proofs.YtbomkomipaipmaaGreat
namespace Go.Proofs.YtbomkomipaipmaaGreat

/-- the wide fence, in a round or not -/
def FR (rd : Option Nat) : Fence := { Fence.wide with round := rd }
theorem FR.callsIn {rd : Option Nat} {m : Nat} {P : Program} {f : FuncId} {args : Array Value} {w : World} {R : Ending → World → Prop} (h : Calls P f args w R) : CallsIn (FR rd) m P f args w R := (callsIn_wide.2 h : CallsIn Fence.wide m P f args w R)
theorem FR.calls {rd : Option Nat} {m : Nat} {P : Program} {f : FuncId} {args : Array Value} {w : World} {R : Ending → World → Prop} (h : CallsIn (FR rd) m P f args w R) : Calls P f args w R := callsIn_wide.1 (h : CallsIn Fence.wide m P f args w R)
theorem FR.stepsIn {rd : Option Nat} {P : Program} {m m' : Machine} (h : Steps P m m') : StepsIn (Machine.fenced P (FR rd)) P m m' := (stepsIn_wide.2 h : StepsIn (Machine.fenced P Fence.wide) P m m')
theorem FR.rowsIn {rd : Option Nat} {m : Nat} {P : Program} {row : String} {args : Array Value} {w : World} {R : Value → World → Prop} (h : Rows P row args w R) : RowsIn (FR rd) m P row args w R :=
  fun c cs _ => let ⟨v, w', r, s⟩ := h c cs; ⟨v, w', r, FR.stepsIn s⟩
theorem wp_free {rd : Option Nat} {m : Nat} {P : Program} {o : Oper} {a : Act} {w : World} {next : Act → World → Prop} {Q : Exit → Act → World → Prop} (hd : ∀ c, o.op ≠ .defer c) (h : o.wp P a w next Q) : o.wpIn (FR rd) m P a w next Q := by
  refine ⟨fun _ _ => trivial, ?_⟩
  rw [Oper.semAt_eq _ _ _ hd]
  unfold Oper.wp at h
  generalize (execOp a.eval o).run P w = r at h
  unfold Oper.upon at h
  unfold Oper.uponIn
  split at h
  · exact h
  · exact h
  · exact h
  · exact ⟨fun h => by simp [FR, Fence.wide] at h, FR.callsIn h⟩
  · exact ⟨fun h => by simp [FR, Fence.wide] at h, FR.rowsIn h⟩
  · exact h
  · exact h.elim

section
variable (P : Program)
/-- yield's contract -/
def YAC (y : Nat) (args : List AVal) (η : AHeap) (n : Nat) (K : AVal → AHeap → Nat → Prop) : Prop :=
  ∀ (rd : Option Nat) (m : Nat) (own : Own) (M : Mem) (w : World) (vals : Array Value) (p : Spot), St own M η n w → own y = some p → vals.size = args.length → (∀ (i : Nat) c, args[i]? = some c → VR own M c (vals.getD i undef)) →
    ∃ r : Loop, w.heap[p.b]? = some (.loop r) ∧ vals.size = r.params.size ∧ RoundIn (FR rd) m P p.b r.fn ((r.params.zip vals).foldl (fun t (q, a) => t.setIfInBounds q a) r.tmps) r.assign r.body w fun e w' => ∃ u, e = .returned u ∧ Out own M η n w K u w'
def ayld (o : Oper) (ρ : Operand → AVal) : Option (Nat × List AVal) :=
  match o.op with
  | .call c => match c.callee with
    | .value f => match ρ f with
      | .yld y => some (y, c.args.toList.map ρ)
      | _ => none
    | _ => none
  | _ => none
/-- one operation -/
def astep (o : Oper) (K : AState → Prop) (s : AState) : Prop :=
  match aval P o (aev s.fr) s.η with
  | some v => K (s.put o.dst v)
  | none => match ayld o (aev s.fr) with
    | some (y, args) => YAC P y args s.η s.n fun v η' n' => K ({ s with η := η', n := n' }.put o.dst v)
    | none => achg P o (aev s.fr) s.η s.n fun v η' n' => K ({ s with η := η', n := n' }.put o.dst v)
/-- its guard -/
def aguard (ops : Array Oper) (o : Oper) (s : AState) (yes no : Prop) : Prop :=
  match o.guard with
  | none => yes
  | some (j, b) => match (ops[j]?).bind (·.dst) with
    | some d => match s.fr d with
      | .bool t => ((t == b) = true → yes) ∧ ((t == b) = false → no)
      | .tup [] => no
      | _ => False
    | none => False
def aseq (ops : Array Oper) : List Oper → (AState → Prop) → AState → Prop
  | [], K, s => K s
  | o :: rest, K, s => aguard ops o s (astep P o (fun s' => aseq ops rest K s') s) (aseq ops rest K (s.put o.dst (.tup [])))
end

/-- where a function began -/
structure Kap where
  own : Own
  M : Mem
  w : World
  D : Nat → Prop
  n : Nat
  z : Nat

/-- the marks of the ranges over functions -/
def DF (z : Nat) : List Deferred → World → Prop
  | [], _ => True
  | d :: ds, w => ∃ D, z ≤ D ∧ d.target = .collected D ∧ w.heap[D]? = some (.deferred (some [])) ∧ (∀ d' ∈ ds, d'.target ≠ .collected D) ∧ DF z ds w
theorem DF.keep {z : Nat} {w w' : World} (h : ∀ D : Nat, w.heap[D]? = some (.deferred (some [])) → w'.heap[D]? = some (.deferred (some []))) : ∀ {ds : List Deferred}, DF z ds w → DF z ds w'
  | [], _ => trivial
  | _ :: _, ⟨D, h0, h1, h2, h3, h4⟩ => ⟨D, h0, h1, h D h2, h3, h4.keep h⟩
theorem OB.nodef {own : Own} {M : Mem} {η : AHeap} {n : Nat} {w : World} (hst : St own M η n w) {b : Nat} (h : OB own η b) (x : Option (List Deferred)) : w.heap[b]? ≠ some (.deferred x) := by
  obtain ⟨r, p, o, h1, h2, h3, rfl⟩ := h
  obtain ⟨p', g1, g2⟩ := hst.obj r o h1
  rw [h2] at g1; cases g1
  intro e
  cases o with
  | cells k rows => obtain ⟨_, _, _, _, h5, _⟩ := g2; obtain ⟨_, arr, T, h6, _⟩ := h5 h3; rw [e] at h6; cases h6
  | map es => obtain ⟨_, _, E, clk, h1, _⟩ := g2; rw [e] at h1; cases h1
  | loop pend ps as bd fr nt => obtain ⟨_, _, r, h1, _⟩ := g2; rw [e] at h1; cases h1
  | mapR E clk es => obtain ⟨_, _, h1, _⟩ := g2; rw [e] at h1; cases h1
  | iter m seen =>
    obtain ⟨_, _, _, h1⟩ := g2
    cases m with
    | none => obtain ⟨_, _, _, h1⟩ := h1; rw [e] at h1; cases h1
    | some x => obtain ⟨_, _, _, h1⟩ := h1; rw [e] at h1; cases h1
theorem DF.frame {z : Nat} {own : Own} {M : Mem} {η : AHeap} {n : Nat} {w w' : World} (hst : St own M η n w) (hf : Fr (OB own η) w w') {ds : List Deferred} (h : DF z ds w) : DF z ds w' :=
  h.keep fun D hD => (hf.block D (blk_lt' hD) fun hb => OB.nodef hst hb _ hD).trans hD

structure Rel (κ : Kap) (s : AState) (a : Act) (w : World) (own : Own) (M : Mem) : Prop where
  st : St own M s.η s.n w
  fr : ∀ t, VR own M (s.fr t) (a.tmps.getD t undef)
  nt : a.tmps.size = s.nt
  df : DF κ.z a.defers w
  le : κ.own.le own
  mle : κ.M.le M
  frm : Fr κ.D κ.w w
  ob : (∀ b, OB own s.η b → κ.D b ∨ κ.w.heap.size ≤ b) ∧ ∀ b, M b ≠ none → κ.M b ≠ none ∨ κ.D b ∨ κ.w.heap.size ≤ b
  n : κ.n ≤ s.n
def RelE (κ : Kap) (s : AState) (a : Act) (w : World) : Prop := ∃ own M, Rel κ s a w own M

theorem put_eval {s : AState} {a : Act} {own : Own} {M : Mem} {d : Option Tmp} {v : AVal} {u : Value} (h : ∀ t, VR own M (s.fr t) (a.tmps.getD t undef)) (hn : a.tmps.size = s.nt) (hv : VR own M v u) :
    (∀ t, VR own M ((s.put d v).fr t) ((a.put d u).tmps.getD t undef)) ∧ (a.put d u).tmps.size = (s.put d v).nt ∧ (a.put d u).defers = a.defers ∧ (s.put d v).η = s.η ∧ (s.put d v).n = s.n := by
  cases d with
  | none => exact ⟨h, hn, rfl, rfl, rfl⟩
  | some d =>
    unfold AState.put Act.put
    simp only
    by_cases hd : d < s.nt
    · rw [if_pos hd]
      refine ⟨fun t => ?_, by simpa using hn, by simp, rfl, rfl⟩
      by_cases ht : t = d
      · subst ht
        show VR own M (setf s.fr t v t) _
        rw [setf_eq]
        have : (a.tmps.setIfInBounds t u).getD t undef = u := by simp [Array.getD_eq_getD_getElem?, hn, hd]
        rw [this]; exact hv
      · show VR own M (setf s.fr d v t) _
        rw [setf_ne ht]
        have : (a.tmps.setIfInBounds d u).getD t undef = a.tmps.getD t undef := by
          rw [Array.getD_eq_getD_getElem?, Array.getD_eq_getD_getElem?, Array.getElem?_setIfInBounds, if_neg (by omega)]
        rw [this]; exact h t
    · rw [if_neg hd]
      refine ⟨fun t => ?_, by simpa using hn, by simp, rfl, rfl⟩
      have : a.tmps.setIfInBounds d u = a.tmps := by
        have hd' : s.nt ≤ d := Nat.le_of_not_lt hd
        rw [Array.setIfInBounds_eq_of_size_le]; omega
      rw [this]; exact h t

section
variable {P : Program} {κ : Kap} {s : AState} {a : Act} {w : World}

theorem Rel.put {own : Own} {M : Mem} (h : Rel κ s a w own M) (d : Option Tmp) {v : AVal} {u : Value} (hv : VR own M v u) : Rel κ (s.put d v) (a.put d u) w own M := by
  obtain ⟨h1, h2, h3, h4, h5⟩ := put_eval (d := d) h.fr h.nt hv
  exact ⟨by rw [h4, h5]; exact h.st, h1, h2, by rw [h3]; exact h.df, h.le, h.mle, h.frm, by rw [h4]; exact h.ob, by rw [h5]; exact h.n⟩

theorem Rel.out {own : Own} {M : Mem} (h : Rel κ s a w own M) {K : AVal → AHeap → Nat → Prop} {u : Value} {w' : World} (ho : Out own M s.η s.n w K u w') (d : Option Tmp) : ∃ v η' n', K v η' n' ∧ RelE κ ({ s with η := η', n := n' }.put d v) (a.put d u) w' := by
  obtain ⟨v, η', n', own', M', h1, h2, h3, h4, h5, h6, h7, h8⟩ := ho
  refine ⟨v, η', n', h1, own', M', Rel.put (s := { s with η := η', n := n' }) ⟨h3, fun t => (h.fr t).mono h5 h6, h.nt, h.df.frame h.st h7, Own.le_trans h.le h5, Mem.le_trans h.mle h6, h.frm.trans h7 fun x hx hb => ?_, ⟨fun b hb => ?_, fun b hb => ?_⟩, Nat.le_trans h.n h2⟩ d h4⟩
  · rcases h.ob.1 x hb with g | g
    · exact g
    · omega
  · rcases h8.1 b hb with g | g
    · exact h.ob.1 b g
    · exact Or.inr (Nat.le_trans h.frm.size g)
  · rcases h8.2 b hb with g | g | g
    · exact h.ob.2 b g
    · exact Or.inr (h.ob.1 b g)
    · exact Or.inr (Or.inr (Nat.le_trans h.frm.size g))

theorem astep_sound (h : RelE κ s a w) {o : Oper} {K : AState → Prop} (hs : astep P o K s) {next : Act → World → Prop} {Q : Exit → Act → World → Prop} (hn : ∀ s' u w', K s' → RelE κ s' (a.put o.dst u) w' → next (a.put o.dst u) w') {rd : Option Nat} {m : Nat} : o.wpIn (FR rd) m P a w next Q := by
  obtain ⟨own, M, h⟩ := h
  unfold astep at hs
  split at hs
  · rename_i v hv
    obtain ⟨u, k1, k2⟩ := aval_sound h.st (aev_sound h.fr) hv
    refine wp_free (fun c hc => ?_) ?_
    · rename_i hv; unfold aval at hv; rw [hc] at hv; cases hv
    unfold Oper.wp
    rw [k1]
    exact hn _ u w hs ⟨own, M, h.put o.dst k2⟩
  · split at hs
    · rename_i y args hy
      unfold ayld at hy
      split at hy
      · rename_i c hc
        split at hy
        · rename_i f hf
          split at hy
          · rename_i y' hy'
            simp only [Option.some.injEq, Prod.mk.injEq] at hy
            obtain ⟨rfl, rfl⟩ := hy
            obtain ⟨callee, cargs, ats⟩ := c
            simp only at hf
            subst hf
            have hfv := aev_sound h.fr f
            rw [hy'] at hfv
            generalize hev : a.eval f = fv at hfv
            cases hfv with
            | yld _ p hp =>
            obtain ⟨g1, g2⟩ := eval_map (aev_sound h.fr) cargs
            obtain ⟨r, h1, h2, h3⟩ := hs rd (m - 1) own M w (cargs.map a.eval) p h.st hp (by simp) fun i c hi => g2 i c hi
            refine ⟨fun _ _ => trivial, ?_⟩
            rw [Oper.semAt_eq _ _ _ (by simp [hc])]
            have hrun : (execOp a.eval o).run P w = .ok (.round p.b r.fn ((r.params.zip (cargs.map a.eval)).foldl (fun t (q, a) => t.setIfInBounds q a) r.tmps) r.assign r.body) w := by
              unfold execOp
              rw [hc]
              unfold resolve Deferred.ofValue invoke callFunc
              simp only [hev, Sem.run_bind, Result.andThen_ok, Sem.run_pure]
              have hg : (Instr.getLoop p.b).run P w = .ok r w := by
                unfold Instr.getLoop
                have : (getObj p.b).run P w = .ok (.loop r) w := by simp [getObj, Sem.run, h1]
                simp only [Sem.run_bind, this, Result.andThen_ok, Sem.run_pure]
              unfold Instr.yield
              simp only [Sem.run_bind, hg, Result.andThen_ok, Array.empty_append]
              rw [if_neg (by simpa using h2)]
              simp only [Sem.run_pure]
            rw [hrun]
            refine ⟨fun h => by simp [FR, Fence.wide] at h, h3.mono fun e w' => ?_⟩
            rintro ⟨u, rfl, ho⟩
            obtain ⟨v, η', n', k1, k2⟩ := h.out ho o.dst
            exact hn _ u w' k1 k2
          · cases hy
        · cases hy
      · cases hy
    · refine wp_free (fun c hc => ?_) ?_
      · unfold achg at hs; rw [hc] at hs; exact hs
      refine achg_sound h.st (aev_sound h.fr) hs fun u w' ho => ?_
      obtain ⟨v, η', n', k1, k2⟩ := h.out ho o.dst
      exact hn _ u w' k1 k2

theorem aguard_sound (h : RelE κ s a w) {ops : Array Oper} {o : Oper} {yes no : Prop} (hg : aguard ops o s yes no) : (Region.wanted o (yielded ops a.tmps) = true ∧ yes) ∨ (Region.wanted o (yielded ops a.tmps) = false ∧ no) := by
  obtain ⟨own, M, h⟩ := h
  unfold aguard at hg
  unfold Region.wanted
  split at hg
  · rename_i e; rw [e]; exact Or.inl ⟨rfl, hg⟩
  · rename_i j b e
    rw [e]
    simp only
    split at hg
    · rename_i d hd
      split at hg
      · rename_i t ht
        have hv := h.fr d
        rw [ht] at hv
        have hy : yielded ops a.tmps j = some t := by
          unfold yielded
          rw [hd]
          simp only [Option.bind_some]
          cases hx : a.tmps[d]? with
          | none =>
            rw [Array.getD_eq_getD_getElem?, hx] at hv
            simp [undef] at hv
            cases hv
          | some x =>
            rw [Array.getD_eq_getD_getElem?, hx] at hv
            simp at hv
            cases hv
            rfl
        rw [hy]
        cases hb : (t == b) with
        | true => exact Or.inl ⟨by simpa using hb, hg.1 hb⟩
        | false => exact Or.inr ⟨by simpa using hb, hg.2 hb⟩
      · rename_i ht
        have hv := h.fr d
        rw [ht] at hv
        have hy : yielded ops a.tmps j = none := by
          unfold yielded
          rw [hd]
          simp only [Option.bind_some]
          cases hx : a.tmps[d]? with
          | none => rfl
          | some x =>
            rw [Array.getD_eq_getD_getElem?, hx] at hv
            simp only [Option.getD_some] at hv
            cases hv
            rfl
        rw [hy]
        exact Or.inr ⟨rfl, hg⟩
      · exact hg.elim
    · exact hg.elim

theorem vr_skip {own : Own} {M : Mem} : VR own M (.tup []) Go.undef := .tup [] #[] rfl fun i c h => by simp at h
theorem aseq_sound {rd : Option Nat} {mm : Nat} {ops : Array Oper} {K : AState → Prop} {Q : Exit → Act → World → Prop} (hQ : ∀ s a w, K s → RelE κ s a w → Q .normal a w) : ∀ (m k : Nat) (s : AState) (a : Act) (w : World), k + m = ops.size → RelE κ s a w → aseq P ops (ops.toList.drop k) K s →
    wpOpsIn (FR rd) mm P ops Q (List.range' k m) a w
  | 0, k, s, a, w, hk, h, hs => by
    rw [List.drop_of_length_le (by simp; omega)] at hs
    exact hQ _ _ _ hs h
  | m + 1, k, s, a, w, hk, h, hs => by
    have hkl : k < ops.toList.length := by simp; omega
    rw [List.drop_eq_getElem_cons hkl] at hs
    simp only [aseq] at hs
    rw [List.range'_succ]
    have ho : ops[k]? = some ops.toList[k] := by rw [← Array.getElem?_toList]; exact List.getElem?_eq_getElem hkl
    unfold wpOpsIn
    rw [ho]
    simp only
    rcases aguard_sound h hs with ⟨g1, g2⟩ | ⟨g1, g2⟩
    · rw [if_pos g1]
      refine astep_sound h g2 fun s' u w' hK hR => ?_
      exact aseq_sound hQ m (k + 1) s' _ w' (by omega) hR hK
    · rw [if_neg (by rw [g1]; simp)]
      obtain ⟨own, M, h⟩ := h
      exact ⟨fun _ _ => trivial, aseq_sound hQ m (k + 1) _ _ w (by omega) ⟨own, M, h.put _ vr_skip⟩ g2⟩
end
end Go.Proofs.YtbomkomipaipmaaGreat
namespace Go.Proofs.YtbomkomipaipmaaGreat

/-- from one state to another that says less -/
def Gh (s s' : AState) : Prop := ∀ κ a w, RelE κ s a w → RelE κ s' a w

def Lift (κ : Kap) (Q : Exit → AState → Prop) : Exit → Act → World → Prop := fun e a w => ∃ s, Q e s ∧ RelE κ s a w

section
variable (P : Program)
def thenP (K : AState → Prop) (Q : Exit → AState → Prop) : Exit → AState → Prop
  | .normal, s => K s
  | e, s => Q e s
def inBlockP (id : Nat) (Q : Exit → AState → Prop) : Exit → AState → Prop
  | .exit id', s => if id' = id then Q .normal s else Q (.exit id') s
  | e, s => Q e s
def LoopP (body : (Exit → AState → Prop) → AState → Prop) (Q : Exit → AState → Prop) (s : AState) : Prop :=
  ∃ (ι : Type) (st : ι → AState) (μ : ι → Nat) (x0 : ι), Gh s (st x0) ∧ ∀ x, body (thenP (fun s' => ∃ x', Gh s' (st x') ∧ μ x' < μ x) Q) (st x)
/-- a region that draws its order: to be shown by itself -/
def DrawP (id : Nat) (ops : Array Oper) (Q : Exit → AState → Prop) (s : AState) : Prop :=
  ∀ κ a w, RelE κ s a w → (Code.region id ops true).wp P (Lift κ Q) a w
/-- a range over a function -/
def afterP (Q : Exit → AState → Prop) (pend : Option Code) (s : AState) : Prop :=
  match pend with
  | none => Q .normal s
  | some .ret => Q .ret s
  | some (.exit id) => Q (.exit id) s
  | _ => False
def RangeP (g : Operand) (ps : Array Tmp) (assign body : Code) (Q : Exit → AState → Prop) (s : AState) : Prop :=
  match aev s.fr g with
  | .func gf first caps => (P.funcs[gf]?.any fun fn => fn.body.isSome && !(fn.name == "runtime.NumGoroutine")) = true ∧
      AC P gf (first ++ [.yld s.n] ++ caps) (upd s.η s.n (some (.loop none ps assign body s.fr s.nt))) (s.n + 1) fun _ η' n' =>
        ∃ pend, η' s.n = some (.loop pend ps assign body s.fr s.nt) ∧ afterP Q pend ⟨s.fr, s.nt, upd η' s.n none, n'⟩
  | _ => False
/-- no range over a function, nothing drawn -/
def plainR : Code → Bool
  | .region _ _ draw => !draw
  | .seq x y | .cond _ x y => plainR x && plainR y
  | .block _ c | .loop c => plainR c
  | .rangeFunc .. => false
  | _ => true
def awp : Code → (Exit → AState → Prop) → AState → Prop
  | .skip, Q, s => Q .normal s
  | .region id ops draw, Q, s => if draw then DrawP P id ops Q s else aseq P ops ops.toList (Q .normal) s
  | .seq x y, Q, s => awp x (thenP (fun s' => awp y Q s') Q) s
  | .cond c x y, Q, s => match aev s.fr c with
    | .bool t => (t = true → awp x Q s) ∧ (t = false → awp y Q s)
    | _ => False
  | .block id c, Q, s => awp c (inBlockP id Q) s
  | .loop c, Q, s => LoopP (fun Q' s' => awp c Q' s') Q s
  | .exit id, Q, s => Q (.exit id) s
  | .ret, Q, s => Q .ret s
  | .rangeFunc g ps as bd, Q, s => RangeP P g ps as bd Q s
  | _, _, _ => False
end

section
variable {P : Program} {κ : Kap}

theorem least {p : Nat → Prop} (h : ∃ n, p n) : ∃ n, p n ∧ ∀ m, p m → n ≤ m := by
  obtain ⟨n, hn⟩ := h
  induction n using Nat.strongRecOn with
  | _ n ih =>
    by_cases hx : ∃ m, m < n ∧ p m
    · obtain ⟨m, h1, h2⟩ := hx; exact ih m h1 h2
    · exact ⟨n, hn, fun m hm => by
        rcases Nat.lt_or_ge m n with g | g
        · exact absurd ⟨m, g, hm⟩ hx
        · exact g⟩
open Classical in
theorem wpIn_loop_on {F : Fence} {nn : Nat} {c : Code} {Q : Exit → Act → World → Prop} {ι : Type} {R : ι → Act → World → Prop} {μ : ι → Nat} {a : Act} {w : World} (h0 : ∃ x, R x a w)
    (round : ∀ x a w, R x a w → c.wpIn F nn P (Exit.then (fun a' w' => ∃ x', R x' a' w' ∧ μ x' < μ x) Q) a w) : (Code.loop c).wpIn F nn P Q a w := by
  have hex : ∀ a w, (∃ x, R x a w) → ∃ n, ∃ x, R x a w ∧ μ x = n := fun a w ⟨x, h⟩ => ⟨μ x, x, h, rfl⟩
  let m : Act → World → Nat := fun a w => if h : ∃ x, R x a w then Classical.choose (least (hex a w h)) else 0
  refine wpIn_loop (fun a w => ∃ x, R x a w) m h0 fun a w hI => ?_
  have hm : m a w = Classical.choose (least (hex a w hI)) := dif_pos hI
  obtain ⟨x, hx, hxm⟩ := (Classical.choose_spec (least (hex a w hI))).1
  refine wpIn_mono (round x a w hx) fun e a' w' hq => ?_
  cases e with
  | normal =>
    obtain ⟨x', h1, h2⟩ := hq
    have hI' : ∃ x, R x a' w' := ⟨x', h1⟩
    refine ⟨hI', ?_⟩
    have hm' : m a' w' = Classical.choose (least (hex a' w' hI')) := dif_pos hI'
    have := (Classical.choose_spec (least (hex a' w' hI'))).2 _ ⟨x', h1, rfl⟩
    omega
  | _ => exact hq

/-- the loop's record is laid -/
theorem enter_st {own : Own} {M : Mem} {s : AState} {w : World} {a : Act} (hst : St own M s.η s.n w) (hfr : ∀ t, VR own M (s.fr t) (a.tmps.getD t undef)) (hnt : a.tmps.size = s.nt) (ps : Array Tmp) (as bd : Code) (fn : FuncId) :
    St (own.put s.n ⟨w.heap.size + 1, 0, 1, 1⟩) M (upd s.η s.n (some (.loop none ps as bd s.fr s.nt))) (s.n + 1)
      ((w.alloc (.deferred (some []))).alloc (.loop { state := .ready, pending := none, fn, tmps := a.tmps, params := ps, assign := as, body := bd, defers := w.heap.size })) ∧
    Fr (OB own s.η) w ((w.alloc (.deferred (some []))).alloc (.loop { state := .ready, pending := none, fn, tmps := a.tmps, params := ps, assign := as, body := bd, defers := w.heap.size })) ∧
    (∀ x, OB (own.put s.n ⟨w.heap.size + 1, 0, 1, 1⟩) (upd s.η s.n (some (.loop none ps as bd s.fr s.nt))) x → OB own s.η x ∨ w.heap.size ≤ x) ∧
    ((w.alloc (.deferred (some []))).alloc (.loop { state := .ready, pending := none, fn, tmps := a.tmps, params := ps, assign := as, body := bd, defers := w.heap.size })).heap[w.heap.size]? = some (.deferred (some [])) := by
  have hold : ∀ o x, x < w.heap.size → (w.alloc o).heap[x]? = w.heap[x]? := fun o x hx => Go.RowKit.Below.heap_alloc _ _ _ hx
  have h1 : St own M s.η s.n (w.alloc (.deferred (some []))) := hst.world (fun b hb => hold _ b (OB.lt hst hb)) (fun b a hM => hold _ b (hst.mem_lt hM))
  have esz : (w.alloc (.deferred (some []))).heap.size = w.heap.size + 1 := by simp
  have hle := Own.le_put (hst.fresh s.n (Nat.le_refl _)) ⟨w.heap.size + 1, 0, 1, 1⟩
  have h2 := h1.fresh1 (o := .loop none ps as bd s.fr s.nt) (b := .loop { state := .ready, pending := none, fn, tmps := a.tmps, params := ps, assign := as, body := bd, defers := w.heap.size }) (by
    rw [esz]
    refine ⟨by simp, by rw [← esz]; exact noMem_size h1, { state := .ready, pending := none, fn, tmps := a.tmps, params := ps, assign := as, body := bd, defers := w.heap.size }, ?_, rfl, rfl, rfl, rfl, rfl, hnt, fun t => (hfr t).mono hle (Mem.le_refl _)⟩
    show ((w.alloc (.deferred (some []))).heap.push _)[w.heap.size + 1]? = _
    rw [Array.getElem?_push, if_pos esz.symm])
  rw [esz] at h2
  obtain ⟨k1, k2, k3⟩ := h2
  refine ⟨k1, (Fr.alloc _ w _).trans k2 fun x _ h => h, fun x hx => (k3 x hx).imp _root_.id fun h => by omega, ?_⟩
  have : (w.alloc (.deferred (some []))).heap[w.heap.size]? = some (.deferred (some [])) := by show (w.heap.push _)[w.heap.size]? = _; simp
  rw [Go.RowKit.Below.heap_alloc _ _ _ (by rw [esz]; omega)]
  exact this
theorem putObj_ne (w : World) {b c : Nat} (o : Obj) (h : b ≠ c) : (w.putObj c o).heap[b]? = w.heap[b]? := by simp [World.putObj, Array.getElem?_setIfInBounds_ne (Ne.symm h)]
/-- an object is hidden, its block turned -/
theorem St.hide {own : Own} {M : Mem} {η : AHeap} {n : Nat} {w : World} (hst : St own M η n w) {y : Nat} {o : AObj} {p : Spot} (hy : η y = some o) (hp : own y = some p) (hs : p.s < p.e) (x : Obj) :
    St own M (upd η y none) n (w.putObj p.b x) ∧ (∀ b, OB own (upd η y none) b → OB own η b ∧ b ≠ p.b) := by
  obtain ⟨p', g1, g2⟩ := hst.obj y o hy
  rw [hp] at g1; cases g1
  have hle : (upd η y none).le η := fun r o hr => by
    by_cases e : r = y
    · subst e; rw [upd_eq] at hr; cases hr
    · rwa [upd_ne e] at hr
  have hob : ∀ b, OB own (upd η y none) b → OB own η b ∧ b ≠ p.b := fun b hb => by
    refine ⟨OB.less hle hb, ?_⟩
    obtain ⟨r, q, o', h1, h2, h3, rfl⟩ := hb
    have hr : r ≠ y := fun e => by subst e; rw [upd_eq] at h1; cases h1
    rw [upd_ne hr] at h1
    exact hst.inj r y q p o' o hr h1 hy h2 hp h3 hs
  refine ⟨(hst.less hle (Nat.le_refl _)).world (fun b hb => putObj_ne _ _ (hob b hb).2) fun b a hM => putObj_ne _ _ fun e => ?_, hob⟩
  subst e
  rw [g2.noMem hs] at hM; cases hM

theorem range_sound {m : Nat} {g : Operand} {ps : Array Tmp} {as bd : Code} {Q : Exit → AState → Prop} {s : AState} (h : RangeP P g ps as bd Q s) {a : Act} {w : World} (hz0 : κ.z ≤ κ.w.heap.size) (hr : RelE κ s a w) : (Code.rangeFunc g ps as bd).wpIn (FR none) m P (Lift κ Q) a w := by
  obtain ⟨own, M, hR⟩ := hr
  have hz : κ.z ≤ w.heap.size := Nat.le_trans hz0 hR.frm.size
  unfold RangeP at h
  split at h
  rotate_left
  · exact h.elim
  rename_i gf first caps hg
  obtain ⟨hb, hac⟩ := h
  have hgv := aev_sound hR.fr g
  rw [hg] at hgv
  generalize hev : a.eval g = gv at hgv
  cases hgv with
  | func _ _ _ FA CA hF hC hFc hCc =>
  refine wpIn_rangeFunc fun fn _ => ?_
  obtain ⟨s1, s2, s3, s4⟩ := enter_st hR.st hR.fr hR.nt ps as bd fn
  generalize hW : (w.alloc (.deferred (some []))).alloc (.loop { state := .ready, pending := none, fn, tmps := a.tmps, params := ps, assign := as, body := bd, defers := w.heap.size }) = W1 at s1 s2 s3 s4
  have hle := Own.le_put (hR.st.fresh s.n (Nat.le_refl _)) ⟨w.heap.size + 1, 0, 1, 1⟩
  have hown : own.put s.n ⟨w.heap.size + 1, 0, 1, 1⟩ s.n = some ⟨w.heap.size + 1, 0, 1, 1⟩ := by simp [Own.put]
  obtain ⟨fnr, hfn⟩ : ∃ fnr, P.funcs[gf]? = some fnr := by
    cases hh : P.funcs[gf]? with
    | none => rw [hh] at hb; simp at hb
    | some x => exact ⟨x, rfl⟩
  rw [hfn] at hb
  simp only [Option.any_some, Bool.and_eq_true, Bool.not_eq_true'] at hb
  have hcall := hac _ _ W1 (FA ++ #[.func (.yield (w.heap.size + 1)) #[] #[]] ++ CA) s1 (by simp [hF, hC]; omega) fun i c hi => by
    rw [Array.getD_eq_getD_getElem?]
    rcases Nat.lt_or_ge i (first.length + 1) with q1 | q1
    · rw [List.getElem?_append_left (by simp; omega)] at hi
      rw [Array.getElem?_append_left (by simp; omega)]
      rcases Nat.lt_or_ge i first.length with q2 | q2
      · rw [List.getElem?_append_left q2] at hi
        rw [Array.getElem?_append_left (by omega), ← Array.getD_eq_getD_getElem?]
        exact (hFc i c hi).mono hle (Mem.le_refl _)
      · rw [List.getElem?_append_right q2] at hi
        rw [Array.getElem?_append_right (by omega), hF]
        have : i - first.length = 0 := by omega
        rw [this] at hi ⊢
        simp at hi; subst hi
        exact .yld s.n ⟨w.heap.size + 1, 0, 1, 1⟩ hown
    · rw [List.getElem?_append_right (by simp; omega)] at hi
      rw [Array.getElem?_append_right (by simp; omega), ← Array.getD_eq_getD_getElem?]
      have := hCc _ c hi
      simpa [hF] using this.mono hle (Mem.le_refl _)
  refine ⟨w.heap.size + 1, [{ target := .collected w.heap.size, args := #[] }], W1, { target := .fn (.func gf) CA, args := FA ++ #[.func (.yield (w.heap.size + 1)) #[] #[]] }, W1, gf, FA ++ #[.func (.yield (w.heap.size + 1)) #[] #[]] ++ CA, W1, ?_, ?_, fun _ _ => trivial, ?_, fun h => by simp [FR, Fence.wide] at h, ?_⟩
  · rw [← hW]; exact run_enterLoop_outer _ _ _ _ _
  · simp only [resolve, hev]
    simp [go_sem, Deferred.ofValue]
  · unfold invoke callFunc
    simp only [Sem.run_bind, run_program, Result.andThen_ok, hfn, hb.2, Bool.false_eq_true, if_false]
    have : fnr.body.isNone = false := by cases hx : fnr.body <;> simp_all
    simp only [this, Bool.false_eq_true, if_false, Sem.run_pure]
  refine FR.callsIn ?_
  refine Calls.mono hcall ?_
  rintro e w3 ⟨u, rfl, v, η', n', own', M', ⟨pend, hy, hQ⟩, a1, a2, a3, a4, a5, a6, a7⟩
  have hp' : own' s.n = some ⟨w.heap.size + 1, 0, 1, 1⟩ := a4 _ _ hown
  obtain ⟨q, g1, g2, g3, r, g4, g5, g6, g7, g8, g9, g10, g11⟩ := a2.obj s.n _ hy
  rw [hp'] at g1; cases g1
  have hnb : r.state ≠ .busy := by rw [g5]; split <;> simp
  have hend := run_endLoop (P := P) g4 hnb
  obtain ⟨h1, h2⟩ := a2.hide hy hp' g2 (.loop { r with state := .exhausted })
  have hD1 : w3.heap[w.heap.size]? = some (.deferred (some [])) := (a6.block _ (blk_lt' s4) fun hb => OB.nodef s1 hb _ s4).trans s4
  have key : Rel κ ⟨s.fr, s.nt, upd η' s.n none, n'⟩ { a with defers := [{ target := .collected w.heap.size, args := #[] }] ++ a.defers } (w3.putObj (w.heap.size + 1) (.loop { r with state := .exhausted })) own' M' := by
    refine ⟨h1, fun t => (hR.fr t).mono (Own.le_trans hle a4) a5, hR.nt, ?_, Own.le_trans hR.le (Own.le_trans hle a4), Mem.le_trans hR.mle a5, ?_, ⟨fun b hb => ?_, fun b hb => ?_⟩, Nat.le_trans hR.n (show s.n ≤ n' by omega)⟩
    · refine ⟨w.heap.size, hz, rfl, (putObj_ne _ _ (by omega)).trans hD1, fun d' hd' e => ?_, ?_⟩
      · have : ∀ ds : List Deferred, DF κ.z ds w → d' ∈ ds → d'.target ≠ .collected w.heap.size := fun ds => by
          induction ds with
          | nil => intro _ h; cases h
          | cons d ds ih =>
            intro ⟨D, _, k1, k2, k3, k4⟩ h e
            rcases List.mem_cons.1 h with rfl | h
            · rw [k1] at e; cases e
              have := blk_lt' k2; omega
            · exact ih k4 h e
        exact this _ hR.df hd' e
      · refine DF.keep (fun D hD => ?_) (DF.frame s1 a6 (DF.frame hR.st s2 hR.df))
        refine (putObj_ne _ _ fun e => ?_).trans hD
        rw [e, g4] at hD; cases hD
    · refine (hR.frm.trans (s2.trans a6 fun x hx hb => (s3 x hb).resolve_right (by omega)) fun x hx hb => (hR.ob.1 x hb).resolve_right (by omega)).trans (D' := fun b => b = w.heap.size + 1) ⟨rfl, rfl, rfl, by simp [World.putObj], fun b _ hb => putObj_ne _ _ hb⟩ fun x hx hb => ?_
      have := hR.frm.size
      omega
    · rcases a7.1 b (h2 b hb).1 with g | g
      · rcases s3 b g with g | g
        · exact hR.ob.1 b g
        · exact Or.inr (Nat.le_trans hR.frm.size g)
      · exact Or.inr (Nat.le_trans hR.frm.size (Nat.le_trans s2.size g))
    · rcases a7.2 b hb with g | g | g
      · exact hR.ob.2 b g
      · rcases s3 b g with g | g
        · exact Or.inr (hR.ob.1 b g)
        · exact Or.inr (Or.inr (Nat.le_trans hR.frm.size g))
      · exact Or.inr (Or.inr (Nat.le_trans hR.frm.size (Nat.le_trans s2.size g)))
  generalize w3.putObj (w.heap.size + 1) (.loop { r with state := .exhausted }) = w4 at key hend
  refine ⟨_, _, hend, ?_⟩
  rw [g6]
  unfold afterP at hQ
  split at hQ
  · exact ⟨_, hQ, own', M', key⟩
  · exact wpIn_ret ⟨_, hQ, own', M', key⟩
  · exact wpIn_exit ⟨_, hQ, own', M', key⟩
  · exact hQ.elim

theorem awp_sound {m : Nat} : ∀ (c : Code) (Q : Exit → AState → Prop) (s : AState), awp P c Q s → ∀ rd : Option Nat, (rd = none ∨ plainR c = true) → ∀ κ : Kap, κ.z ≤ κ.w.heap.size → ∀ a w, RelE κ s a w → c.wpIn (FR rd) m P (Lift κ Q) a w
  | .skip, Q, s, h, rd, hc, κ, hz, a, w, hr => wpIn_skip ⟨s, h, hr⟩
  | .region id ops draw, Q, s, h, rd, hc, κ, hz, a, w, hr => by
    simp only [awp] at h
    cases draw with
    | true =>
      have : rd = none := hc.resolve_right (by simp [plainR])
      subst this
      exact wpIn_wide.2 (h κ a w hr)
    | false =>
      refine wpIn_region ?_
      have := aseq_sound (P := P) (κ := κ) (ops := ops) (K := Q .normal) (Q := Lift κ Q) (rd := rd) (mm := m) (fun s a w hK hR => ⟨s, hK, hR⟩) ops.size 0 s a w (by omega) hr (by simpa using h)
      rwa [List.range_eq_range']
  | .seq x y, Q, s, h, rd, hc, κ, hz, a, w, hr => by
    simp only [awp] at h
    have hc1 : rd = none ∨ plainR x = true := hc.imp _root_.id fun h => by simp [plainR] at h; exact h.1
    have hc2 : rd = none ∨ plainR y = true := hc.imp _root_.id fun h => by simp [plainR] at h; exact h.2
    refine wpIn_seq (wpIn_mono (awp_sound x _ s h rd hc1 κ hz a w hr) fun e a' w' hq => ?_)
    obtain ⟨s', h1, h2⟩ := hq
    cases e with
    | normal => exact awp_sound y Q s' h1 rd hc2 κ hz a' w' h2
    | _ => exact ⟨s', h1, h2⟩
  | .cond c x y, Q, s, h, rd, hc, κ, hz, a, w, hr => by
    simp only [awp] at h
    have hc1 : rd = none ∨ plainR x = true := hc.imp _root_.id fun h => by simp [plainR] at h; exact h.1
    have hc2 : rd = none ∨ plainR y = true := hc.imp _root_.id fun h => by simp [plainR] at h; exact h.2
    obtain ⟨own, M, hR⟩ := hr
    have hv := aev_sound hR.fr c
    split at h
    · rename_i t ht
      rw [ht] at hv
      generalize hev : a.eval c = u at hv
      cases hv
      refine wpIn_cond_split hev (fun ht => ?_) (fun ht => ?_)
      · exact awp_sound x Q s (h.1 ht) rd hc1 κ hz a w ⟨own, M, hR⟩
      · exact awp_sound y Q s (h.2 ht) rd hc2 κ hz a w ⟨own, M, hR⟩
    · exact h.elim
  | .block id c, Q, s, h, rd, hc, κ, hz, a, w, hr => by
    simp only [awp] at h
    refine wpIn_block (wpIn_mono (awp_sound c _ s h rd (hc.imp _root_.id fun h => by simpa [plainR] using h) κ hz a w hr) fun e a' w' hq => ?_)
    obtain ⟨s', h1, h2⟩ := hq
    cases e with
    | exit id' =>
      simp only [inBlockP] at h1
      simp only [Exit.inBlock]
      by_cases hid : id' = id
      · rw [if_pos hid] at h1 ⊢; exact ⟨s', h1, h2⟩
      · rw [if_neg hid] at h1 ⊢; exact ⟨s', h1, h2⟩
    | _ => exact ⟨s', h1, h2⟩
  | .loop c, Q, s, h, rd, hc, κ, hz, a, w, hr => by
    simp only [awp] at h
    obtain ⟨ι, st, μ, x0, h0, h1⟩ := h
    refine wpIn_loop_on (R := fun x a w => RelE κ (st x) a w) (μ := μ) ⟨x0, h0 κ a w hr⟩ fun x a w hr => wpIn_mono (awp_sound c _ (st x) (h1 x) rd (hc.imp _root_.id fun h => by simpa [plainR] using h) κ hz a w hr) fun e a' w' hq => ?_
    obtain ⟨s', k1, k2⟩ := hq
    cases e with
    | normal =>
      obtain ⟨x', g1, g2⟩ := k1
      exact ⟨x', g1 κ a' w' k2, g2⟩
    | _ => exact ⟨s', k1, k2⟩
  | .exit id, Q, s, h, rd, hc, κ, hz, a, w, hr => wpIn_exit ⟨s, h, hr⟩
  | .ret, Q, s, h, rd, hc, κ, hz, a, w, hr => wpIn_ret ⟨s, h, hr⟩
  | .rangeFunc g ps as bd, Q, s, h, rd, hc, κ, hz, a, w, hr => by
    have : rd = none := hc.resolve_right (by simp [plainR])
    subst this
    exact range_sound (by simpa only [awp] using h) hz hr
  | .scope .., Q, s, h, rd, hc, κ, hz, a, w, hr => by simp only [awp] at h
  | .label .., Q, s, h, rd, hc, κ, hz, a, w, hr => by simp only [awp] at h
  | .goto .., Q, s, h, rd, hc, κ, hz, a, w, hr => by simp only [awp] at h
  | .refuse .., Q, s, h, rd, hc, κ, hz, a, w, hr => by simp only [awp] at h

/-- what a function hands back: a value, several, or what lies in its named results -/
def resV (P : Program) (s : AState) : ResultVar → Option AVal
  | .tmp t => some (s.fr t)
  | .cell t ty => aload P ty (s.fr t) s.η
def ares (P : Program) (fn : Func) (s : AState) : Option AVal :=
  match fn.results.toList with
  | [r] => resV P s r
  | rs => (rs.mapM (resV P s)).map .tup
def bodyQ (P : Program) (fn : Func) (K : AVal → AHeap → Nat → Prop) : Exit → AState → Prop
  | .normal, s | .ret, s => match ares P fn s with
    | some v => ∃ η' n', η'.le s.η ∧ s.n ≤ n' ∧ K v η' n'
    | none => False
  | _, _ => False
def args0 (args : List AVal) : Nat → AVal := fun t => args.getD t .undef

def resRun (tmps : Array Value) : ResultVar → Sem Value
  | .tmp t => pure (tmps.getD t undef)
  | .cell a t => do loadVar t (← asAddr (tmps.getD a undef))

theorem cell_run {own : Own} {M : Mem} {η : AHeap} {w : World} {ty : TypeId} {p v : AVal} {x u : Value} (hp : VR own M p x) (h : (Instr.loadAt ty x).run P w = .ok u w) (hv : aload P ty p η = some v) : (do loadVar ty (← asAddr x) : Sem Value).run P w = .ok u w := by
  unfold aload at hv
  unfold Instr.loadAt Instr.sureAddr at h
  cases hp <;> first | (exfalso; revert hv; cases tsh P ty <;> simp; done) | (simp only [pure_bind] at h; unfold asAddr; simp only [pure_bind]; exact h)
theorem resV_sound {s : AState} {a : Act} {w : World} {own : Own} {M : Mem} (h : Rel κ s a w own M) {r : ResultVar} {v : AVal} (hv : resV P s r = some v) : ∃ u, (resRun a.tmps r).run P w = .ok u w ∧ VR own M v u := by
  cases r with
  | tmp t => cases hv; exact ⟨_, rfl, h.fr t⟩
  | cell t ty =>
    obtain ⟨u, k1, k2⟩ := aload_sound h.st (h.fr t) hv
    refine ⟨u, ?_, k2⟩
    exact cell_run (h.fr t) k1 hv

theorem list_results {s : AState} {a : Act} {w : World} {own : Own} {M : Mem} (h : Rel κ s a w own M) : ∀ (rs : List ResultVar) (vs : List AVal), rs.mapM (resV P s) = some vs → ∃ us : List Value, (rs.mapM (resRun a.tmps)).run P w = .ok us w ∧ us.length = vs.length ∧ rs.length = vs.length ∧
    ∀ (i : Nat) c, vs[i]? = some c → VR own M c (us.getD i undef)
  | [], vs, hv => by
    simp at hv; subst hv; exact ⟨[], by simp, rfl, rfl, fun i c h => by simp at h⟩
  | r :: rs, vs, hv => by
    simp only [List.mapM_cons] at hv ⊢
    cases h1 : resV P s r with
    | none => rw [h1] at hv; simp at hv
    | some v =>
      cases h2 : rs.mapM (resV P s) with
      | none => rw [h1, h2] at hv; simp at hv
      | some rest =>
        rw [h1, h2] at hv
        simp at hv; subst hv
        obtain ⟨u, k1, k2⟩ := resV_sound h h1
        obtain ⟨us, g1, g2, g3, g4⟩ := list_results h rs rest h2
        refine ⟨u :: us, ?_, by simp [g2], by simp [g3], fun i c hi => ?_⟩
        · simp only [Sem.run_bind, k1, Result.andThen_ok, g1, Sem.run_pure]
        · cases i with
          | zero => simp at hi; subst hi; simpa using k2
          | succ i => simpa using g4 i c (by simpa using hi)

theorem ares_sound {fn : Func} {s : AState} {a : Act} {w : World} {own : Own} {M : Mem} (h : Rel κ s a w own M) {v : AVal} (hv : ares P fn s = some v) : ∃ u, (results fn a.tmps).run P w = .ok u w ∧ VR own M v u := by
  have hres : results fn a.tmps = ((fn.results.mapM (resRun a.tmps)) >>= fun vs => pure (if h : vs.size = 1 then vs[0] else .tuple vs)) := by
    unfold results
    congr 1
  rw [hres]
  unfold ares at hv
  have key : ∀ vs, fn.results.toList.mapM (resV P s) = some vs → ∃ us : List Value, (fn.results.mapM (resRun a.tmps)).run P w = .ok us.toArray w ∧ us.length = vs.length ∧ fn.results.toList.length = vs.length ∧ ∀ (i : Nat) c, vs[i]? = some c → VR own M c (us.getD i undef) := fun vs hvs => by
    obtain ⟨us, k1, k2, k3, k4⟩ := list_results h fn.results.toList vs hvs
    refine ⟨us, ?_, k2, k3, k4⟩
    rw [Array.mapM_eq_mapM_toList]
    simp only [Sem.run_map, k1, Result.andThen_ok]
  split at hv
  · rename_i r hr
    obtain ⟨us, k1, k2, k3, k4⟩ := key [v] (by rw [hr]; simp [hv])
    obtain ⟨u, hu⟩ := List.length_eq_one_iff.1 k2
    subst hu
    refine ⟨u, ?_, by simpa using k4 0 v rfl⟩
    simp only [Sem.run_bind, k1, Result.andThen_ok, Sem.run_pure]
    try simp
  · rename_i rs hrs
    cases hvs : fn.results.toList.mapM (resV P s) with
    | none => rw [hvs] at hv; simp at hv
    | some vs =>
      rw [hvs] at hv; simp at hv; subst hv
      obtain ⟨us, k1, k2, k3, k4⟩ := key vs hvs
      refine ⟨.tuple us.toArray, ?_, .tup vs _ (by simp [k2]) fun i c hi => ?_⟩
      · simp only [Sem.run_bind, k1, Result.andThen_ok, Sem.run_pure]
        have : ¬ us.toArray.size = 1 := fun e => by
          simp at e
          obtain ⟨r, hr⟩ := List.length_eq_one_iff.1 (by rw [k3, ← k2, e] : fn.results.toList.length = 1)
          exact hrs r hr
        rw [dif_neg this]
      · have := k4 i c hi
        simpa [Array.getD_eq_getD_getElem?, List.getD_eq_getElem?_getD] using this

/-- an object is seen again -/
theorem St.unhide {own : Own} {M : Mem} {η : AHeap} {n : Nat} {w : World} (hst : St own M η n w) {y : Nat} {o : AObj} {p : Spot} (hp : own y = some p) (hnb : ¬ OB own η p.b) (hM : M p.b = none) {x : Obj} (hor : OR own M (w.putObj p.b x) p o) :
    St own M (upd η y (some o)) n (w.putObj p.b x) := by
  have hb : ∀ b, OB own η b → (w.putObj p.b x).heap[b]? = w.heap[b]? := fun b hb => putObj_ne _ _ fun e => hnb (e ▸ hb)
  refine ⟨hst.fresh, fun r o' hr => ?_, fun r r' q q' o1 o2 hne hr hr' hq hq' hs hs' => ?_, fun b a hb => ?_⟩
  · by_cases e : r = y
    · subst e; rw [upd_eq] at hr; cases hr; exact ⟨p, hp, hor⟩
    · rw [upd_ne e] at hr
      obtain ⟨q, g1, g2⟩ := hst.obj r o' hr
      exact ⟨q, g1, g2.keep (Own.le_refl _) (Mem.le_refl _) (fun hs => hb _ ⟨r, q, o', hr, g1, hs, rfl⟩) fun hs => g2.noMem hs⟩
  · by_cases e : r = y
    · have e' : r' ≠ y := fun e2 => hne (e.trans e2.symm)
      rw [upd_ne e'] at hr'
      subst e
      rw [hp] at hq; cases hq
      exact fun e3 => hnb ⟨r', q', o2, hr', hq', hs', e3.symm⟩
    · rw [upd_ne e] at hr
      by_cases e' : r' = y
      · subst e'
        rw [hp] at hq'; cases hq'
        exact fun e3 => hnb ⟨r, q, o1, hr, hq, hs, e3⟩
      · rw [upd_ne e'] at hr'
        exact hst.inj r r' q q' o1 o2 hne hr hr' hq hq' hs hs'
  · obtain ⟨T, z, g⟩ := hst.mem b a hb
    exact ⟨T, z, (putObj_ne _ _ fun e => by subst e; rw [hM] at hb; cases hb).trans g⟩

/-- yield's arguments in their temporaries -/
def setPs (nt : Nat) : List Tmp → List AVal → (Nat → AVal) → Nat → AVal
  | q :: qs, a :: as, fr => setPs nt qs as (if q < nt then setf fr q a else fr)
  | _, _, fr => fr
theorem setPs_sound {own : Own} {M : Mem} {nt : Nat} : ∀ (qs : List Tmp) (args : List AVal) (vals : List Value) (fr : Nat → AVal) (tmps : Array Value), args.length = vals.length → (∀ (i : Nat) c, args[i]? = some c → VR own M c (vals.getD i undef)) → tmps.size = nt → (∀ t, VR own M (fr t) (tmps.getD t undef)) →
    ((qs.zip vals).foldl (fun t (x : Tmp × Value) => t.setIfInBounds x.1 x.2) tmps).size = nt ∧ ∀ t, VR own M (setPs nt qs args fr t) (((qs.zip vals).foldl (fun t (x : Tmp × Value) => t.setIfInBounds x.1 x.2) tmps).getD t undef)
  | [], args, vals, fr, tmps, _, _, hn, hf => by simp only [List.zip_nil_left, List.foldl_nil, setPs]; exact ⟨hn, hf⟩
  | q :: qs, [], [], fr, tmps, _, _, hn, hf => by simp only [List.zip_nil_right, List.foldl_nil, setPs]; exact ⟨hn, hf⟩
  | q :: qs, a :: as, v :: vs, fr, tmps, hl, hv, hn, hf => by
    simp only [List.zip_cons_cons, List.foldl_cons, setPs]
    refine setPs_sound qs as vs _ _ (by simpa using hl) (fun i c hi => by simpa using hv (i + 1) c (by simpa using hi)) (by simpa using hn) fun t => ?_
    have h0 := hv 0 a rfl
    simp only [List.getD_cons_zero] at h0
    by_cases hq : q < nt
    · rw [if_pos hq]
      by_cases ht : t = q
      · subst ht
        rw [setf_eq]
        have : (tmps.setIfInBounds t v).getD t undef = v := by simp [Array.getD_eq_getD_getElem?, hn, hq]
        rw [this]; exact h0
      · rw [setf_ne ht]
        have : (tmps.setIfInBounds q v).getD t undef = tmps.getD t undef := by
          rw [Array.getD_eq_getD_getElem?, Array.getD_eq_getD_getElem?, Array.getElem?_setIfInBounds, if_neg (by omega)]
        rw [this]; exact hf t
    · rw [if_neg hq]
      have hq' : nt ≤ q := Nat.le_of_not_lt hq
      have : tmps.setIfInBounds q v = tmps := by rw [Array.setIfInBounds_eq_of_size_le]; rw [hn]; exact hq'
      rw [this]; exact hf t
  | q :: qs, a :: as, [], fr, tmps, hl, _, _, _ => by simp at hl
  | q :: qs, [], v :: vs, fr, tmps, hl, _, _, _ => by simp at hl
/-- a round's end -/
def roundQ (y : Nat) (ps : Array Tmp) (as bd : Code) (fr : Nat → AVal) (nt : Nat) (K : AVal → AHeap → Nat → Prop) : Exit → AState → Prop
  | .normal, s => ∃ η' n', η'.le s.η ∧ s.n ≤ n' ∧ K (.bool true) (upd η' y (some (.loop none ps as bd fr nt))) n'
  | .ret, s => ∃ η' n', η'.le s.η ∧ s.n ≤ n' ∧ K (.bool false) (upd η' y (some (.loop (some .ret) ps as bd fr nt))) n'
  | .exit id, s => ∃ η' n', η'.le s.η ∧ s.n ≤ n' ∧ K (.bool false) (upd η' y (some (.loop (some (.exit id)) ps as bd fr nt))) n'
  | _, _ => False
theorem YAC.round {y : Nat} {ps : Array Tmp} {as bd : Code} {fr : Nat → AVal} {nt : Nat} {args : List AVal} {η : AHeap} {n : Nat} {K : AVal → AHeap → Nat → Prop} (hη : η y = some (.loop none ps as bd fr nt)) (hl : args.length = ps.size) (h1 : plainR as = true) (h2 : plainR bd = true)
    (h : awp P as (thenP (fun s => awp P bd (roundQ y ps as bd fr nt K) s) fun _ _ => False) ⟨setPs nt ps.toList args fr, nt, upd η y none, n⟩) : YAC P y args η n K := by
  intro rd m own M w vals p hst hp hsz hv
  obtain ⟨p', g1, g2, g3, r, g4, g5, g6, g7, g8, g9, g10, g11⟩ := hst.obj y _ hη
  rw [hp] at g1; cases g1
  obtain ⟨rs, rp, rf, rt, rps, ras, rbd, rdf⟩ := r
  simp only [Option.isNone_none, if_true] at g5 g6 g7 g8 g9 g10 g11
  subst g5 g6 g7 g8 g9
  refine ⟨_, g4, by simp only; omega, ?_⟩
  have hplt := blk_lt' g4
  have hle : (upd η y none).le η := fun r o hr => by
    by_cases e : r = y
    · subst e; rw [upd_eq] at hr; cases hr
    · rwa [upd_ne e] at hr
  have hD : ¬ OB own (upd η y none) p.b := by
    rintro ⟨r, q, o', k1, k2, k3, k4⟩
    have hr : r ≠ y := fun e => by subst e; rw [upd_eq] at k1; cases k1
    rw [upd_ne hr] at k1
    exact hst.inj r y q p o' _ hr k1 hη k2 hp k3 g2 k4
  have hob : OB own η p.b := ⟨y, p, _, hη, hp, g2, rfl⟩
  have hst0 : St own M (upd η y none) n w := hst.less hle (Nat.le_refl _)
  obtain ⟨q1, q2⟩ := setPs_sound (own := own) (M := M) (nt := nt) rps.toList args vals.toList fr rt (by simp; omega) (fun i c hi => by
    have := hv i c hi
    simpa [Array.getD_eq_getD_getElem?, List.getD_eq_getElem?_getD] using this) g10 g11
  have ef : (rps.zip vals).foldl (fun t (x : Tmp × Value) => t.setIfInBounds x.1 x.2) rt = (rps.toList.zip vals.toList).foldl (fun t (x : Tmp × Value) => t.setIfInBounds x.1 x.2) rt := by
    rw [← Array.foldl_toList, Array.toList_zip]
  have hw1 := awp_sound (P := P) (m := m) ras _ _ h (some p.b) (Or.inr h1) ⟨own, M, w, OB own (upd η y none), n, 0⟩ (Nat.zero_le _) { tmps := (rps.toList.zip vals.toList).foldl (fun t (x : Tmp × Value) => t.setIfInBounds x.1 x.2) rt, defers := [] } w
    ⟨own, M, hst0, q2, q1, trivial, Own.le_refl _, Mem.le_refl _, Fr.refl _ _, ⟨fun b hb => Or.inl hb, fun b hb => Or.inl hb⟩, Nat.le_refl _⟩
  refine roundIn_of_wpIn (F := FR rd) trivial ?_
  simp only
  rw [show (Array.foldl (fun t (x : Nat × Value) => t.setIfInBounds x.1 x.2) rt (rps.zip vals)) = _ from ef]
  refine wpIn_mono (hw1 : ras.wpIn ((FR rd).inRound p.b) m P _ _ _) fun e a1 w1 hq => ?_
  obtain ⟨s1, k1, own1, M1, hR1⟩ := hq
  cases e with
  | normal =>
    have hb1 : w1.heap[p.b]? = some (.loop { state := .ready, pending := none, fn := rf, tmps := rt, params := rps, assign := ras, body := rbd, defers := rdf }) := (hR1.frm.block _ hplt hD).trans g4
    have hnb1 : ¬ OB own1 s1.η p.b := fun hb => (hR1.ob.1 _ hb).elim hD fun h => by have : w.heap.size ≤ p.b := h; omega
    have hM1 : M1 p.b = none := by
      cases hM : M1 p.b with
      | none => rfl
      | some x =>
        rcases hR1.ob.2 p.b (by rw [hM]; simp) with k | k | k
        · exact absurd g3 k
        · exact absurd k hD
        · have : w.heap.size ≤ p.b := k; omega
    refine ⟨_, run_beginRound hb1 rfl, ?_⟩
    generalize hW2 : w1.putObj p.b _ = w2
    have hne2 : ∀ b, b ≠ p.b → w2.heap[b]? = w1.heap[b]? := fun b hb => by rw [← hW2]; exact putObj_ne _ _ hb
    have hsz2 : w2.heap.size = w1.heap.size := by rw [← hW2]; simp [World.putObj]
    have hst2 : St own1 M1 s1.η s1.n w2 := hR1.st.world (fun b hb => hne2 b fun e => hnb1 (e ▸ hb)) fun b a hM => hne2 b fun e => by subst e; rw [hM1] at hM; cases hM
    have hw2 := awp_sound (P := P) (m := m) rbd _ _ k1 (some p.b) (Or.inr h2) ⟨own1, M1, w2, OB own1 s1.η, s1.n, 0⟩ (Nat.zero_le _) a1 w2
      ⟨own1, M1, hst2, hR1.fr, hR1.nt, hR1.df.keep fun D hD' => (hne2 D fun e => by rw [e, hb1] at hD'; cases hD').trans hD', Own.le_refl _, Mem.le_refl _, Fr.refl _ _, ⟨fun b hb => Or.inl hb, fun b hb => Or.inl hb⟩, Nat.le_refl _⟩
    have hb2 : w2.heap[p.b]? = some (.loop { state := .busy, pending := none, fn := rf, tmps := rt, params := rps, assign := ras, body := rbd, defers := rdf }) := by
      rw [← hW2]; simp [World.putObj, blk_lt' hb1]
    refine wpIn_mono (hw2 : rbd.wpIn ((FR rd).inRound p.b) m P _ _ _) fun e a3 w3 hq => ?_
    obtain ⟨s3, k3, own3, M3, hR3⟩ := hq
    have hplt2 := blk_lt' hb2
    have hb3 : w3.heap[p.b]? = some (.loop { state := .busy, pending := none, fn := rf, tmps := rt, params := rps, assign := ras, body := rbd, defers := rdf }) := (hR3.frm.block _ hplt2 hnb1).trans hb2
    have hnb3 : ¬ OB own3 s3.η p.b := fun hb => (hR3.ob.1 _ hb).elim hnb1 fun h => by have : w2.heap.size ≤ p.b := h; omega
    have hM3 : M3 p.b = none := by
      cases hM : M3 p.b with
      | none => rfl
      | some x =>
        rcases hR3.ob.2 p.b (by rw [hM]; simp) with k | k | k
        · exact absurd hM1 k
        · exact absurd k hnb1
        · have : w2.heap.size ≤ p.b := k; omega
    have hown : own.le own3 := Own.le_trans hR1.le hR3.le
    have hmem : M.le M3 := Mem.le_trans hR1.mle hR3.mle
    have fin : ∀ (jump : Option Code), (∃ η' n', η'.le s3.η ∧ s3.n ≤ n' ∧ K (.bool jump.isNone) (upd η' y (some (.loop jump rps ras rbd fr nt))) n') →
        ∃ v w', (Instr.endRound p.b jump).run P w3 = .ok v w' ∧ ∃ u, Ending.returned v = .returned u ∧ Out own M η n w K u w' := fun jump ⟨η', n', c1, c2, c3⟩ => by
      refine ⟨_, _, run_endRound jump hb3, _, rfl, .bool jump.isNone, _, n', own3, M3, c3, ?_, ?_, .bool _, hown, hmem, ?_, ⟨fun b hb => ?_, fun b hb => ?_⟩⟩
      · have := hR1.n; have := hR3.n; simp only at *; omega
      · refine (hR3.st.less c1 c2).unhide (hown _ _ hp) (fun hb => hnb3 (OB.less c1 hb)) hM3 ⟨g2, hM3, { state := if jump.isNone then .ready else .done, pending := jump, fn := rf, tmps := rt, params := rps, assign := ras, body := rbd, defers := rdf }, ?_, rfl, rfl, rfl, rfl, rfl, g10, fun t => (g11 t).mono hown hmem⟩
        simp [World.putObj, blk_lt' hb3]
      · refine ((hR1.frm.weaken fun b hb => OB.less hle hb).trans (D' := fun b => b = p.b ∨ OB own1 s1.η b) (c := w3) ?_ fun x hx hb => ?_).trans (D' := fun b => b = p.b) ⟨rfl, rfl, rfl, by simp [World.putObj], fun b _ hb => putObj_ne _ _ hb⟩ fun x hx hb => hb ▸ hob
        · have f1 : Fr (fun b => b = p.b) w1 w2 := by rw [← hW2]; exact ⟨rfl, rfl, rfl, by simp [World.putObj], fun b _ hb => putObj_ne _ _ hb⟩
          exact (f1.weaken fun b hb => Or.inl hb).trans hR3.frm fun x _ hb => Or.inr hb
        · rcases hb with rfl | hb
          · exact hob
          · exact (hR1.ob.1 x hb).elim (fun h => OB.less hle h) fun h => by have : w.heap.size ≤ x := h; omega
      · obtain ⟨r', q', o', j1, j2, j3, j4⟩ := hb
        by_cases e : r' = y
        · subst e
          rw [hown _ _ hp] at j2; cases j2
          exact Or.inl (j4 ▸ hob)
        · rw [upd_ne e] at j1
          rcases hR3.ob.1 b ⟨r', q', o', c1 _ _ j1, j2, j3, j4⟩ with h | h
          · exact (hR1.ob.1 b h).imp (fun h => OB.less hle h) _root_.id
          · have h' : w2.heap.size ≤ b := h
            have := hR1.frm.size
            simp only at this
            exact Or.inr (by omega)
      · rcases hR3.ob.2 b hb with h | h | h
        · rcases hR1.ob.2 b h with h | h | h
          · exact Or.inl h
          · exact Or.inr (Or.inl (OB.less hle h))
          · exact Or.inr (Or.inr h)
        · exact Or.inr ((hR1.ob.1 b h).imp (fun h => OB.less hle h) _root_.id)
        · have h' : w2.heap.size ≤ b := h
          have := hR1.frm.size
          simp only at this
          exact Or.inr (Or.inr (by omega))
    cases e with
    | normal => exact fin none k3
    | ret => exact fin (some .ret) k3
    | exit id => exact fin (some (.exit id)) k3
    | goto l => exact k3.elim
    | panic ch => exact k3.elim
    | outgrown => exact k3.elim
  | _ => exact k1.elim

/-- the marks taken -/
structure Shut (z : Nat) (w w' : World) : Prop where
  os : w'.os = w.os
  tape : w'.tape = w.tape
  output : w'.output = w.output
  size : w'.heap.size = w.heap.size
  block : ∀ b, (b < z ∨ ∀ x, w.heap[b]? ≠ some (Obj.deferred x)) → w'.heap[b]? = w.heap[b]?
theorem leavesM {m z : Nat} {fn : Func} {tmps : Array Value} {R : Ending → World → Prop} : ∀ (ds : List Deferred) (w : World), DF z ds w → (∀ w', Shut z w w' → ∃ v, (results fn tmps).run P w' = .ok v w' ∧ R (.returned v) w') → LeavesInM (FR none) m P fn tmps R ds .returning w
  | [], w, _, h => h w ⟨rfl, rfl, rfl, rfl, fun _ _ => rfl⟩
  | d :: ds, w, ⟨D, h0, h1, h2, h3, h4⟩, h => by
    refine ⟨by simp, Or.inl ⟨D, _, h1, run_takeDeferred h2, ?_⟩⟩
    have hne : ∀ b, b ≠ D → (w.putObj D (.deferred none)).heap[b]? = w.heap[b]? := fun b hb => putObj_ne _ _ hb
    have hdf : DF z ds (w.putObj D (.deferred none)) := by
      have key : ∀ ds : List Deferred, DF z ds w → (∀ d' ∈ ds, d'.target ≠ .collected D) → DF z ds (w.putObj D (.deferred none)) := fun ds => by
        induction ds with
        | nil => intro _ _; trivial
        | cons d ds ih =>
          intro ⟨E, k0, k1, k2, k3, k4⟩ hd
          have hE : E ≠ D := fun e => hd d (by simp) (e ▸ k1)
          exact ⟨E, k0, k1, (hne E hE).trans k2, k3, ih k4 fun d' h => hd d' (by simp [h])⟩
      exact key ds h4 h3
    refine leavesM ds _ hdf fun w' hs => h w' ⟨hs.os, hs.tape, hs.output, hs.size.trans (by simp [World.putObj]), fun b hb => ?_⟩
    have hbD : b ≠ D := fun e => hb.elim (fun h => by omega) fun h => h _ (e ▸ h2)
    rw [hs.block b (hb.imp _root_.id fun h x => by rw [hne b hbD]; exact h x), hne b hbD]
/-- A contract, from the body. -/
theorem AC.of_body {f : FuncId} {fn : Func} {c : Code} {args : List AVal} {η : AHeap} {n : Nat} {K : AVal → AHeap → Nat → Prop} (hf : P.funcs[f]? = some fn) (hb : fn.body = some c) (hn : args.length ≤ fn.ntmps)
    (h : awp P c (bodyQ P fn K) ⟨args0 args, fn.ntmps, η, n⟩) : AC P f args η n K := by
  intro own M w vals hst hsz hv
  refine FR.calls (rd := none) (m := 0) (callsIn_of_wp_marks hf hb trivial ?_)
  have hr : RelE ⟨own, M, w, OB own η, n, w.heap.size⟩ ⟨args0 args, fn.ntmps, η, n⟩ { tmps := vals ++ Array.replicate (fn.ntmps - vals.size) undef, defers := [] } w := by
    refine ⟨own, M, hst, fun t => ?_, by simp; omega, trivial, Own.le_refl _, Mem.le_refl _, Fr.refl _ _, ⟨fun b hb => Or.inl hb, fun b hb => Or.inl hb⟩, Nat.le_refl _⟩
    simp only [args0]
    rcases Nat.lt_or_ge t args.length with g | g
    · rw [List.getD_eq_getElem?_getD, List.getElem?_eq_getElem g]
      have := hv t _ (List.getElem?_eq_getElem g)
      rw [Array.getD_eq_getD_getElem?, Array.getElem?_append_left (by omega), ← Array.getD_eq_getD_getElem?]
      exact this
    · rw [List.getD_eq_getElem?_getD, List.getElem?_eq_none g]
      exact .undef _
  refine wpIn_mono (awp_sound c _ _ h none (Or.inl rfl) _ (Nat.le_refl _) _ _ hr) fun e a w' hq => ?_
  obtain ⟨s, h1, own', M', hR⟩ := hq
  have fin : (∃ v, ares P fn s = some v ∧ ∃ η' n', η'.le s.η ∧ s.n ≤ n' ∧ K v η' n') → LeavesInM (FR none) 0 P fn a.tmps (fun e w' => ∃ u, e = .returned u ∧ Out own M η n w K u w') a.defers .returning w' := fun ⟨v, hv, η', n', k1, k2, k3⟩ => by
    refine leavesM _ _ hR.df fun w2 hs => ?_
    have hR2 : Rel ⟨own, M, w, OB own η, n, w.heap.size⟩ s { a with defers := [] } w2 own' M' :=
      ⟨hR.st.world (fun b hb => hs.block b (Or.inr (OB.nodef hR.st hb))) (fun b arr hb => by
        obtain ⟨T, z, g⟩ := hR.st.mem b arr hb
        exact hs.block b (Or.inr fun x e => by rw [g] at e; cases e)), hR.fr, hR.nt, trivial, hR.le, hR.mle,
        ⟨hs.os.trans hR.frm.os, hs.tape.trans hR.frm.tape, hs.output.trans hR.frm.output, by rw [hs.size]; exact hR.frm.size, fun b hb hd => by
          rw [hs.block b (Or.inl hb), hR.frm.block b hb hd]⟩, hR.ob, hR.n⟩
    obtain ⟨u, g1, g2⟩ := ares_sound hR2 hv
    exact ⟨u, g1, u, rfl, v, η', n', own', M', k3, Nat.le_trans hR.n k2, hR2.st.less k1 k2, g2, hR.le, hR.mle, hR2.frm, fun b hb => hR.ob.1 b (OB.less k1 hb), hR.ob.2⟩
  cases e with
  | normal =>
    simp only [bodyQ] at h1
    split at h1
    · exact fin ⟨_, by assumption, h1⟩
    · exact h1.elim
  | ret =>
    simp only [bodyQ] at h1
    split at h1
    · exact fin ⟨_, by assumption, h1⟩
    · exact h1.elim
  | _ => exact h1.elim
end
end Go.Proofs.YtbomkomipaipmaaGreat
namespace Go.Proofs.YtbomkomipaipmaaGreat

/-- whatever a type speaks of, simp leaves alone -/
inductive Tag.{u} {α : Sort u} (x : α) : Type
  | mk

section
variable (P : Program)
/-- a test: both ways -/
def CondP (t : Bool) (X Y : Prop) (_ : Tag X) (_ : Tag Y) : Prop := (t = true → X) ∧ (t = false → Y)
def optK (o : Option AVal) (K : AVal → Prop) (f : Prop) (_ : Tag K) (_ : Tag f) : Prop := match o with
  | some v => K v
  | none => f
def boolK (v : AVal) (X Y : Prop) (_ : Tag X) (_ : Tag Y) : Prop := match v with
  | .bool t => CondP t X Y .mk .mk
  | _ => False
def putK (s : AState) (d : Option Tmp) (v : AVal) (K : AState → Prop) (_ : Tag K) : Prop := K (s.put d v)
def heapK (o : Option AHeap) (K : AHeap → Prop) (_ : Tag K) : Prop := match o with
  | some h => K h
  | none => False
def ACK (f : FuncId) (args : List AVal) (η : AHeap) (n : Nat) (K : AVal → AHeap → Nat → Prop) (_ : Tag K) : Prop := AC P f args η n K
def wpK (c : Code) (s : AState) (Q : Exit → AState → Prop) (_ : Tag c) (_ : Tag Q) : Prop := awp P c Q s
def seqK (ops : Array Oper) (l : List Oper) (s : AState) (K : AState → Prop) (_ : Tag ops) (_ : Tag l) (_ : Tag K) : Prop := aseq P ops l K s
def stepK (o : Oper) (s : AState) (K : AState → Prop) (_ : Tag o) (_ : Tag K) : Prop := astep P o K s
/-- a test that may have been passed over -/
def tstK (v : AVal) (b : Bool) (yes no : Prop) (_ : Tag yes) (_ : Tag no) : Prop := match v with
  | .bool t => CondP t (if b then yes else no) (if b then no else yes) .mk .mk
  | .tup [] => no
  | _ => False
def guardK (v : Option Tmp) (fr : Nat → AVal) (b : Bool) (yes no : Prop) (_ : Tag yes) (_ : Tag no) : Prop := match v with
  | some d => tstK (fr d) b yes no .mk .mk
  | none => False
def loopK (c : Code) (s : AState) (Q : Exit → AState → Prop) (_ : Tag c) (_ : Tag Q) : Prop := LoopP (fun Q' s' => awp P c Q' s') Q s
def drawK (id : Nat) (ops : Array Oper) (s : AState) (Q : Exit → AState → Prop) (_ : Tag ops) (_ : Tag Q) : Prop := DrawP P id ops Q s
def HB (f : FuncId) : Bool := (P.funcs[f]?).any fun fn => fn.body.isSome && !(fn.name == "runtime.NumGoroutine")
def callK (v : AVal) (args : List AVal) (η : AHeap) (n : Nat) (K : AVal → AHeap → Nat → Prop) (_ : Tag K) : Prop := match v with
  | .func fid first caps => HB P fid = true ∧ AC P fid (first ++ args ++ caps) η n K
  | .yld y => YAC P y args η n K
  | _ => False
/-- a call of yield -/
def YACK (y : Nat) (args : List AVal) (η : AHeap) (n : Nat) (K : AVal → AHeap → Nat → Prop) (_ : Tag K) : Prop := YAC P y args η n K
/-- a range over a function -/
def rangeFK (v : AVal) (ps : Array Tmp) (as bd : Code) (s : AState) (Q : Exit → AState → Prop) (_ : Tag as) (_ : Tag bd) (_ : Tag Q) : Prop :=
  match v with
  | .func gf first caps => HB P gf = true ∧ AC P gf (first ++ [.yld s.n] ++ caps) (upd s.η s.n (some (.loop none ps as bd s.fr s.nt))) (s.n + 1) fun _ η' n' =>
        ∃ pend, η' s.n = some (.loop pend ps as bd s.fr s.nt) ∧ afterP Q pend ⟨s.fr, s.nt, upd η' s.n none, n'⟩
  | _ => False
def rangeK (t : TypeId) (x : AVal) (η : AHeap) (n : Nat) (K : AVal → AHeap → Nat → Prop) (_ : Tag K) : Prop := arange P t x η n K
def nextK (x : AVal) (str : Bool) (η : AHeap) (n : Nat) (K : AVal → AHeap → Nat → Prop) (_ : Tag K) : Prop := anext x str η n K
def entryK (x : AVal) (η : AHeap) (n : Nat) (K : AVal → AHeap → Nat → Prop) (_ : Tag K) : Prop := aentry x η n K
def nilcmp (op : BinOp) (t : TypeId) (x y : AVal) (K : AVal → Prop) (_ : Tag K) : Prop :=
  match op with
  | .eql => match P.underlying t, y with
    | some (.slice _), .nils => anil x fun b => K (.bool b)
    | _, _ => False
  | .neq => match P.underlying t, y with
    | some (.slice _), .nils => anil x fun b => K (.bool !b)
    | _, _ => False
  | _ => False
def zeroK (o : Option (List AVal)) (K : List AVal → Prop) (_ : Tag K) : Prop := match o with
  | some h => K h
  | none => False
def boxK (o : Option Nat) (cs : List AVal) (K : List AVal → Nat → Prop) (_ : Tag K) : Prop := match o with
  | some z => (decide (cs.length = z) && (cs.all AVal.sc && decide (0 < z))) = true ∧ K cs z
  | none => False
def rowsK (o : Option (List (List AVal))) (K : List (List AVal) → Prop) (_ : Tag K) : Prop := match o with
  | some h => K h
  | none => False
def appK (t t2 : TypeId) (x y : AVal) (η : AHeap) (n : Nat) (K : AVal → AHeap → Nat → Prop) (_ : Tag K) : Prop := aappend P t t2 x y η n K
def cpyK (t t2 : TypeId) (x y : AVal) (η : AHeap) (n : Nat) (K : AVal → AHeap → Nat → Prop) (_ : Tag K) : Prop := acopy P t t2 x y η n K
def makeK (l c : AVal) (t : TypeId) (η : AHeap) (n : Nat) (K : AVal → AHeap → Nat → Prop) (_ : Tag K) : Prop := match telem P t, l, c with
    | some e, .int _ l, .int _ c => match tzero P e, tbytes P e with
      | some zs, some b => 0 < zs.length ∧ 0 ≤ l ∧ l ≤ c ∧ b * c ≤ 281474976710656 ∧ c ≤ 9223372036854775807 ∧ K (.sl n 0 l.toNat) (upd η n (some (.cells zs.length (List.replicate l.toNat zs)))) (n + 1)
      | _, _ => False
    | _, _, _ => False
def resK (o : Option AVal) (s : AState) (K : AVal → AHeap → Nat → Prop) (_ : Tag K) : Prop := match o with
  | some v => ∃ η' n', η'.le s.η ∧ s.n ≤ n' ∧ K v η' n'
  | none => False
end

section
variable {P : Program}
@[simp] theorem CondP_true (X Y : Prop) (g : Tag X) (g' : Tag Y) : CondP true X Y g g' = X := by simp [CondP]
@[simp] theorem CondP_false (X Y : Prop) (g : Tag X) (g' : Tag Y) : CondP false X Y g g' = Y := by simp [CondP]
theorem CondP.intro {t : Bool} {X Y : Prop} {g : Tag X} {g' : Tag Y} (h1 : t = true → X) (h2 : t = false → Y) : CondP t X Y g g' := ⟨h1, h2⟩
theorem CondP.dec {p : Prop} [Decidable p] {X Y : Prop} {g : Tag X} {g' : Tag Y} (h1 : p → X) (h2 : ¬p → Y) : CondP (decide p) X Y g g' := ⟨fun h => h1 (by simpa using h), fun h => h2 (by simpa using h)⟩
theorem CondP.ndec {p : Prop} [Decidable p] {X Y : Prop} {g : Tag X} {g' : Tag Y} (h1 : p → Y) (h2 : ¬p → X) : CondP (!decide p) X Y g g' := ⟨fun h => h2 (by simpa using h), fun h => h1 (by simpa using h)⟩
@[simp] theorem optK_some (v : AVal) (K : AVal → Prop) (f : Prop) (g : Tag K) (g' : Tag f) : optK (some v) K f g g' = K v := _root_.id rfl
@[simp] theorem optK_none (K : AVal → Prop) (f : Prop) (g : Tag K) (g' : Tag f) : optK none K f g g' = f := _root_.id rfl
@[simp] theorem boolK_bool (t : Bool) (X Y : Prop) (g : Tag X) (g' : Tag Y) : boolK (.bool t) X Y g g' = CondP t X Y g g' := _root_.id rfl
@[simp] theorem putK_some (fr : Nat → AVal) (nt : Nat) (η : AHeap) (n : Nat) (d : Tmp) (v : AVal) (K : AState → Prop) (g : Tag K) (h : d < nt) : putK ⟨fr, nt, η, n⟩ (some d) v K g = K ⟨setf fr d v, nt, η, n⟩ := by
  unfold putK AState.put; simp only; rw [if_pos h]
@[simp] theorem putK_none (s : AState) (v : AVal) (K : AState → Prop) (g : Tag K) : putK s none v K g = K s := _root_.id rfl
@[simp] theorem heapK_some (h : AHeap) (K : AHeap → Prop) (g : Tag K) : heapK (some h) K g = K h := _root_.id rfl
@[simp] theorem callK_func (f : FuncId) (a b args : List AVal) (η : AHeap) (n : Nat) (K : AVal → AHeap → Nat → Prop) (g : Tag K) (h : HB P f = true) : callK P (.func f a b) args η n K g = ACK P f (a ++ args ++ b) η n K g := by
  unfold callK ACK; simp [h]
@[simp] theorem callK_yld (y : Nat) (args : List AVal) (η : AHeap) (n : Nat) (K : AVal → AHeap → Nat → Prop) (g : Tag K) : callK P (.yld y) args η n K g = YACK P y args η n K .mk := _root_.id rfl
theorem YACK.use {y : Nat} {args : List AVal} {η : AHeap} {n : Nat} {K K' : AVal → AHeap → Nat → Prop} {g : Tag K} (h : YAC P y args η n K') (hk : ∀ v η' n', K' v η' n' → K v η' n') : YACK P y args η n K g := by
  intro rd m own M w vals p h1 h2 h3 h4
  obtain ⟨r, k1, k2, k3⟩ := h rd m own M w vals p h1 h2 h3 h4
  exact ⟨r, k1, k2, k3.mono fun e w' ⟨u, e1, v, η', n', own', M', g1, g2⟩ => ⟨u, e1, v, η', n', own', M', hk _ _ _ g1, g2⟩⟩
@[simp] theorem rangeFK_func (gf : FuncId) (first caps : List AVal) (ps : Array Tmp) (as bd : Code) (fr : Nat → AVal) (nt : Nat) (η : AHeap) (n : Nat) (Q : Exit → AState → Prop) (g1 : Tag as) (g2 : Tag bd) (g3 : Tag Q) (h : HB P gf = true) :
    rangeFK P (.func gf first caps) ps as bd ⟨fr, nt, η, n⟩ Q g1 g2 g3 = ACK P gf (first ++ [.yld n] ++ caps) (upd η n (some (.loop none ps as bd fr nt))) (n + 1) (fun _ η' n' => ∃ pend, η' n = some (.loop pend ps as bd fr nt) ∧ afterP Q pend ⟨fr, nt, upd η' n none, n'⟩) .mk := by
  unfold rangeFK ACK; simp [h]
@[simp] theorem zeroK_some (h : List AVal) (K : List AVal → Prop) (g : Tag K) : zeroK (some h) K g = K h := _root_.id rfl
@[simp] theorem boxK_some (z : Nat) (cs : List AVal) (K : List AVal → Nat → Prop) (g : Tag K) (h : (decide (cs.length = z) && (cs.all AVal.sc && decide (0 < z))) = true) : boxK (some z) cs K g = K cs z := by unfold boxK; simp only [h, true_and]
@[simp] theorem rowsK_some (h : List (List AVal)) (K : List (List AVal) → Prop) (g : Tag K) : rowsK (some h) K g = K h := _root_.id rfl
theorem ACK.use {f : FuncId} {args : List AVal} {η : AHeap} {n : Nat} {K K' : AVal → AHeap → Nat → Prop} {g : Tag K} (h : AC P f args η n K') (hk : ∀ v η' n', K' v η' n' → K v η' n') : ACK P f args η n K g := h.mono hk
theorem resK.same {v : AVal} {fr : Nat → AVal} {nt : Nat} {η : AHeap} {n n' : Nat} {K : AVal → AHeap → Nat → Prop} {g : Tag K} (h : K v η n') (hn : n ≤ n') : resK (some v) ⟨fr, nt, η, n⟩ K g := ⟨η, n', fun _ _ h => h, hn, h⟩
theorem resK.of {v : AVal} {fr : Nat → AVal} {nt : Nat} {η η' : AHeap} {n : Nat} {K : AVal → AHeap → Nat → Prop} {g : Tag K} (hη : η'.le η) (n' : Nat) (hn : n ≤ n') (h : K v η' n') : resK (some v) ⟨fr, nt, η, n⟩ K g := ⟨η', n', hη, hn, h⟩
theorem AHeap.le_rfl (η : AHeap) : η.le η := fun _ _ h => h
theorem le_upd {η η' : AHeap} {n : Nat} {o : Option AObj} (h : η'.le η) (hn : η' n = none) : η'.le (upd η n o) := fun r o' hr => by
  by_cases e : r = n
  · subst e; rw [hn] at hr; cases hr
  · rw [upd_ne e]; exact h r o' hr

@[simp ↓] theorem thenP_normal (K : AState → Prop) (Q : Exit → AState → Prop) (s : AState) : thenP K Q .normal s = K s := _root_.id rfl
@[simp ↓] theorem thenP_ret (K : AState → Prop) (Q : Exit → AState → Prop) (s : AState) : thenP K Q .ret s = Q .ret s := _root_.id rfl
@[simp ↓] theorem thenP_exit (K : AState → Prop) (Q : Exit → AState → Prop) (i : Nat) (s : AState) : thenP K Q (.exit i) s = Q (.exit i) s := _root_.id rfl
@[simp ↓] theorem inBlockP_normal (i : Nat) (Q : Exit → AState → Prop) (s : AState) : inBlockP i Q .normal s = Q .normal s := _root_.id rfl
@[simp ↓] theorem inBlockP_ret (i : Nat) (Q : Exit → AState → Prop) (s : AState) : inBlockP i Q .ret s = Q .ret s := _root_.id rfl
@[simp ↓] theorem inBlockP_exit (i j : Nat) (Q : Exit → AState → Prop) (s : AState) : inBlockP i Q (.exit j) s = if j = i then Q .normal s else Q (.exit j) s := _root_.id rfl
@[simp ↓] theorem bodyQ_ret (fn : Func) (K : AVal → AHeap → Nat → Prop) (s : AState) : bodyQ P fn K .ret s = resK (ares P fn s) s K .mk := _root_.id rfl
@[simp ↓] theorem bodyQ_normal (fn : Func) (K : AVal → AHeap → Nat → Prop) (s : AState) : bodyQ P fn K .normal s = resK (ares P fn s) s K .mk := _root_.id rfl

variable (Q : Exit → AState → Prop) (s : AState) (gQ : Tag Q)
@[simp] theorem awp_skip (g : Tag Code.skip) : wpK P .skip s Q g gQ = Q .normal s := _root_.id rfl
@[simp] theorem awp_region (id : Nat) (ops : List Oper) (g : Tag (Code.region id ops.toArray false)) : wpK P (.region id ops.toArray false) s Q g gQ = seqK P ops.toArray ops s (Q .normal) .mk .mk .mk := _root_.id rfl
@[simp] theorem awp_draw (id : Nat) (ops : Array Oper) (g : Tag (Code.region id ops true)) : wpK P (.region id ops true) s Q g gQ = drawK P id ops s Q .mk .mk := _root_.id rfl
@[simp] theorem awp_seq (x y : Code) (g : Tag (Code.seq x y)) : wpK P (.seq x y) s Q g gQ = wpK P x s (thenP (fun s' => wpK P y s' Q .mk .mk) Q) .mk .mk := _root_.id rfl
@[simp] theorem awp_cond (c : Operand) (x y : Code) (g : Tag (Code.cond c x y)) : wpK P (.cond c x y) s Q g gQ = boolK (aev s.fr c) (wpK P x s Q .mk .mk) (wpK P y s Q .mk .mk) .mk .mk := by
  unfold wpK
  simp only [awp]; unfold boolK; split <;> simp_all [CondP]
@[simp] theorem awp_block (id : Nat) (c : Code) (g : Tag (Code.block id c)) : wpK P (.block id c) s Q g gQ = wpK P c s (inBlockP id Q) .mk .mk := _root_.id rfl
@[simp] theorem awp_loop (c : Code) (g : Tag (Code.loop c)) : wpK P (.loop c) s Q g gQ = loopK P c s Q .mk .mk := _root_.id rfl
@[simp] theorem awp_rangeFunc (x : Operand) (ps : Array Tmp) (as bd : Code) (g : Tag (Code.rangeFunc x ps as bd)) : wpK P (.rangeFunc x ps as bd) s Q g gQ = rangeFK P (aev s.fr x) ps as bd s Q .mk .mk .mk := _root_.id rfl
@[simp] theorem awp_exit (id : Nat) (g : Tag (Code.exit id)) : wpK P (.exit id) s Q g gQ = Q (.exit id) s := _root_.id rfl
@[simp] theorem awp_ret (g : Tag Code.ret) : wpK P .ret s Q g gQ = Q .ret s := _root_.id rfl

variable (K : AState → Prop) (gK : Tag K) (ops : Array Oper) (gops : Tag ops)
@[simp] theorem aseq_nil (g : Tag ([] : List Oper)) : seqK P ops [] s K gops g gK = K s := _root_.id rfl
@[simp] theorem aseq_none (d : Option Tmp) (op : Op) (t : TypeId) (p : String) (a : Array Edge) (l : List Oper) (g : Tag (⟨d, op, t, p, a, none⟩ :: l)) : seqK P ops (⟨d, op, t, p, a, none⟩ :: l) s K gops g gK =
    stepK P ⟨d, op, t, p, a, none⟩ s (fun s' => seqK P ops l s' K .mk .mk .mk) .mk .mk := _root_.id rfl
def dstOf (ops : Array Oper) (j : Nat) (_ : Tag ops) : Option Tmp := (ops[j]?).bind (·.dst)
@[simp] theorem dstOf_zero (o : Oper) (l : List Oper) (g : Tag (o :: l).toArray) : dstOf (o :: l).toArray 0 g = o.dst := by simp [dstOf]
@[simp] theorem dstOf_lit (o : Oper) (l : List Oper) (j : Nat) [h : NeZero j] (g : Tag (o :: l).toArray) : dstOf (o :: l).toArray j g = dstOf l.toArray (j - 1) .mk := by
  obtain ⟨j, rfl⟩ : ∃ k, j = k + 1 := ⟨j - 1, by have := h.out; omega⟩
  simp [dstOf]
@[simp] theorem aseq_some (d : Option Tmp) (op : Op) (t : TypeId) (p : String) (a : Array Edge) (j : Nat) (b : Bool) (l : List Oper) (g : Tag (⟨d, op, t, p, a, some (j, b)⟩ :: l)) : seqK P ops (⟨d, op, t, p, a, some (j, b)⟩ :: l) s K gops g gK =
    guardK (dstOf ops j .mk) s.fr b (stepK P ⟨d, op, t, p, a, some (j, b)⟩ s (fun s' => seqK P ops l s' K .mk .mk .mk) .mk .mk) (putK s d (.tup []) (fun s' => seqK P ops l s' K .mk .mk .mk) .mk) .mk .mk := by
  unfold seqK guardK dstOf
  simp only [aseq]
  unfold aguard
  simp only
  cases (ops[j]?).bind (·.dst) with
  | none => rfl
  | some d =>
    simp only
    unfold tstK
    cases s.fr d with
    | bool t => cases b <;> cases t <;> simp [stepK, putK, CondP]
    | tup l => cases l <;> rfl
    | _ => rfl
@[simp] theorem guardK_some (d : Tmp) (fr : Nat → AVal) (b : Bool) (yes no : Prop) (g : Tag yes) (g' : Tag no) : guardK (some d) fr b yes no g g' = tstK (fr d) b yes no g g' := _root_.id rfl
@[simp] theorem tstK_true (t : Bool) (yes no : Prop) (g : Tag yes) (g' : Tag no) : tstK (.bool t) true yes no g g' = CondP t yes no g g' := _root_.id rfl
@[simp] theorem tstK_false (t : Bool) (yes no : Prop) (g : Tag yes) (g' : Tag no) : tstK (.bool t) false yes no g g' = CondP t no yes g' g := _root_.id rfl
@[simp] theorem tstK_skip (b : Bool) (yes no : Prop) (g : Tag yes) (g' : Tag no) : tstK (.tup []) b yes no g g' = no := _root_.id rfl

@[simp] theorem setf_apply (fr : Nat → AVal) (d t : Nat) (v : AVal) : setf fr d v t = if t = d then v else fr t := rfl
def argsF : Nat → List AVal → Nat → AVal
  | _, [] => fun _ => .undef
  | k, a :: l => setf (argsF (k + 1) l) k a
theorem args0_eq (l : List AVal) : args0 l = argsF 0 l := by
  have : ∀ (l : List AVal) (k t : Nat), argsF k l (k + t) = l.getD t .undef := by
    intro l
    induction l with
    | nil => intro k t; simp [argsF]
    | cons a l ih =>
      intro k t
      cases t with
      | zero => simp [argsF, setf]
      | succ t =>
        have h := ih (k + 1) t
        have e : k + (t + 1) = k + 1 + t := by omega
        simp only [argsF, setf]
        rw [if_neg (by omega), e, h]; simp
  funext t
  have h := this l 0 t
  rw [Nat.zero_add] at h
  exact h.symm
@[simp] theorem argsF_nil (k t : Nat) : argsF k [] t = .undef := rfl
@[simp] theorem argsF_cons (k : Nat) (a : AVal) (l : List AVal) : argsF k (a :: l) = setf (argsF (k + 1) l) k a := rfl
@[simp] theorem aev_tmp (fr : Nat → AVal) (t : Tmp) : aev fr (.tmp t) = fr t := rfl
@[simp] theorem aev_const (fr : Nat → AVal) (v : Value) : aev fr (.const v) = abs v := rfl
@[simp] theorem aev_func (fr : Nat → AVal) (f : FuncId) : aev fr (.func f) = .func f [] [] := rfl
@[simp] theorem abs_int (k : IntKind) (n : Int) : abs (.int k n) = .int k n := rfl
@[simp] theorem abs_bool (b : Bool) : abs (.bool b) = .bool b := rfl
@[simp] theorem abs_str (b : ByteArray) : abs (.string b) = .str b := rfl
@[simp] theorem abs_nilp : abs (.pointer none) = .nilp := rfl
@[simp] theorem abs_nils : abs (.slice none 0 0) = .nils := rfl
@[simp] theorem abs_nilm : abs (.map none) = .nilm := rfl
@[simp] theorem abs_nilf : abs .nilFunc = .nilf := rfl
/-- Into a body. -/
theorem AC.enter {f : FuncId} {fn : Func} {c : Code} {args : List AVal} {η : AHeap} {n m : Nat} {K : AVal → AHeap → Nat → Prop} (hf : P.funcs[f]? = some fn) (hb : fn.body = some c) (hm : fn.ntmps = m) (hn : args.length ≤ m)
    (h : wpK P c ⟨argsF 0 args, m, η, n⟩ (bodyQ P fn K) .mk .mk) : AC P f args η n K := by
  subst hm
  rw [← args0_eq] at h
  exact AC.of_body hf hb hn h
end
end Go.Proofs.YtbomkomipaipmaaGreat
