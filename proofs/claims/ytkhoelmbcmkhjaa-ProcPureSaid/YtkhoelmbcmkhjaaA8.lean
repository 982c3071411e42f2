/- Abstract Go, 8: append; all that makes or writes. -/
import Derived.Test.YtkhoelmbcmkhjaaA7
namespace Go.Proofs.Ytkhoelmbcmkhjaa

section
variable {P : Program} {own : Own} {M : Mem} {η : AHeap} {n : Nat} {w : World} {K : AVal → AHeap → Nat → Prop}

/-- rows that lie in memory, as one list of cells -/
theorem rows_cells {k b o : Nat} {w : World} : ∀ (rows : List (List AVal)), 0 < k → (∀ row ∈ rows, row.length = k) →
    (∀ (i j : Nat) (row : List AVal) (c : AVal), rows[i]? = some row → row[j]? = some c → ∃ v, w.cell? ⟨b, o + i * k + j, none⟩ = some v ∧ VR own M c v) →
    ∃ news : List Value, news.length = rows.length * k ∧ (∀ j u, news[j]? = some u → w.cell? ((⟨b, o, none⟩ : Addr).add j) = some u) ∧
      ∀ (i j : Nat) (row : List AVal) (c : AVal), rows[i]? = some row → row[j]? = some c → VR own M c (news.getD (i * k + j) undef) := by
  intro rows hk hr hc
  have hfl : rows.flatten.length = rows.length * k := by
    rw [List.length_flatten]
    clear hc
    induction rows with
    | nil => simp
    | cons r rs ih => simp only [List.map_cons, List.sum_cons, List.length_cons, Nat.succ_mul, hr r (by simp), ih (fun row h => hr row (by simp [h]))]; omega
  have hget : ∀ (rows : List (List AVal)), (∀ row ∈ rows, row.length = k) → ∀ q c, rows.flatten[q]? = some c → ∃ row, rows[q / k]? = some row ∧ row[q % k]? = some c := by
    intro rows
    induction rows with
    | nil => intro _ q c h; simp at h
    | cons r rs ih =>
      intro hr q c h
      have hrl := hr r (by simp)
      rw [List.flatten_cons] at h
      rcases Nat.lt_or_ge q k with g | g
      · rw [List.getElem?_append_left (by omega)] at h
        exact ⟨r, by rw [Nat.div_eq_of_lt g]; rfl, by rw [Nat.mod_eq_of_lt g]; exact h⟩
      · rw [List.getElem?_append_right (by omega), hrl] at h
        obtain ⟨row, h1, h2⟩ := ih (fun row hx => hr row (by simp [hx])) (q - k) c h
        refine ⟨row, ?_, ?_⟩
        · rw [Nat.div_eq_sub_div hk g]; simpa using h1
        · rw [Nat.mod_eq_sub_mod g]; exact h2
  obtain ⟨news, h1, h2⟩ := list_pick (fun q c v => w.cell? ⟨b, o + q, none⟩ = some v ∧ VR own M c v) rows.flatten (fun q c hq => by
    obtain ⟨row, g1, g2⟩ := hget rows hr q c hq
    obtain ⟨v, k1, k2⟩ := hc _ _ row c g1 g2
    have e : o + q / k * k + q % k = o + q := by rw [Nat.add_assoc, Nat.mul_comm, Nat.div_add_mod]
    rw [e] at k1
    exact ⟨v, k1, k2⟩)
  refine ⟨news, by rw [h1, hfl], fun j u hj => ?_, fun i j row c hi hj => ?_⟩
  · rw [add_plain]
    have hjl := (List.getElem?_eq_some_iff.1 hj).1
    obtain ⟨v, k1, k2, _⟩ := h2 j _ (List.getElem?_eq_getElem (by omega))
    rw [hj] at k1; cases k1; exact k2
  · have hjl := (List.getElem?_eq_some_iff.1 hj).1
    have hrl := hr row (List.mem_of_getElem? hi)
    have hq : rows.flatten[i * k + j]? = some c := by
      clear h1 h2 hc hfl
      induction rows generalizing i with
      | nil => simp at hi
      | cons r rs ih =>
        have hr0 := hr r (by simp)
        rw [List.flatten_cons]
        cases i with
        | zero =>
          simp at hi; subst hi
          rw [Nat.zero_mul, Nat.zero_add, List.getElem?_append_left hjl]; exact hj
        | succ i =>
          rw [Nat.succ_mul, List.getElem?_append_right (by omega)]
          have e : i * k + k + j - r.length = i * k + j := by omega
          rw [e]
          exact ih (fun row hx => hr row (by simp [hx])) i (by simpa using hi)
    obtain ⟨v, k1, _, k3⟩ := h2 _ c hq
    rw [List.getD_eq_getElem?_getD, k1]; exact k3

theorem chunk_get {z : Nat} : ∀ (len : Nat) (cs : List AVal), cs.length = len * z → (chunk z len cs).length = len ∧ (∀ row ∈ chunk z len cs, row.length = z) ∧
    ∀ (i j : Nat) (row : List AVal) (c : AVal), (chunk z len cs)[i]? = some row → row[j]? = some c → cs[i * z + j]? = some c
  | 0, cs, _ => ⟨rfl, by simp [chunk], fun i j row c h => by simp [chunk] at h⟩
  | len + 1, cs, h => by
    rw [Nat.succ_mul] at h
    obtain ⟨h1, h2, h3⟩ := chunk_get (z := z) len (cs.drop z) (by simp; omega)
    refine ⟨by simp [chunk, h1], fun row hr => ?_, fun i j row c hi hj => ?_⟩
    · simp only [chunk, List.mem_cons] at hr
      rcases hr with rfl | hr
      · simp; omega
      · exact h2 row hr
    · cases i with
      | zero =>
        simp [chunk] at hi; subst hi
        have := (List.getElem?_eq_some_iff.1 hj).1
        simp at this
        rw [List.getElem?_take, if_pos (by omega)] at hj
        simpa using hj
      | succ i =>
        have := h3 i j row c (by simpa [chunk] using hi) hj
        rw [List.getElem?_drop] at this
        rw [← this]; congr 1; rw [Nat.succ_mul]; omega
/-- a slice's rows lie in memory -/
theorem arows_sound (hst : St own M η n w) {k : Nat} {x : AVal} {u : Value} {rows : List (List AVal)} (hk : 0 < k) (hx : VR own M x u) (h : arows k x η = some rows) :
    ∃ a cap, u = .slice a rows.length cap ∧ rows.length ≤ cap ∧ cap ≤ 9223372036854775807 ∧ (∀ row ∈ rows, row.length = k) ∧
      (0 < rows.length → ∃ b o, a = some ⟨b, o, none⟩ ∧ ∀ (i j : Nat) (row : List AVal) (c : AVal), rows[i]? = some row → row[j]? = some c → ∃ v, w.cell? ⟨b, o + i * k + j, none⟩ = some v ∧ VR own M c v) := by
  unfold arows at h
  split at h
  · cases h; cases hx; exact ⟨_, _, rfl, by simp, by simp, by simp, fun h => by simp at h⟩
  · cases h; cases hx; exact ⟨_, _, rfl, by simp, by simp, by simp, fun h => by simp at h⟩
  · rename_i k' rs
    split at h
    · rename_i hh
      obtain ⟨rfl, _⟩ := hh
      cases h
      cases hx with
      | rs _ _ a cap b o arr hn hm hxl ha hb hkk hl hc =>
        refine ⟨a, cap, rfl, hn, hm, fun row hr => ?_, fun h0 => ⟨b, o, ha h0, fun i j row c hi hj => ?_⟩⟩
        · obtain ⟨i, hi⟩ := List.mem_iff_getElem?.1 hr
          exact hkk i row hi
        · obtain ⟨T, z, hh⟩ := hst.mem b arr (hb h0)
          have := hl i j row c hi hj
          exact ⟨_, by simp [World.cell?, hh, this, Array.getD_eq_getD_getElem?], hc i j row c hi hj⟩
    · cases h
  · rename_i r o m
    split at h
    · rename_i k' rs hη
      split at h
      · rename_i hh
        obtain ⟨rfl, hom⟩ := hh
        cases h
        cases hx with
        | sl _ _ _ p a cap hr hn hm hc =>
          obtain ⟨p', g1, g2⟩ := hst.obj r _ hη
          rw [hr] at g1; cases g1
          obtain ⟨e1, _, g3, _, _, g6⟩ := g2
          have hlen : ((rs.drop o).take m).length = m := by simp; omega
          rw [hlen]
          refine ⟨a, cap, rfl, hn, hm, fun row hrw => g3 row (List.mem_of_mem_drop (List.mem_of_mem_take hrw)), fun h0 => ?_⟩
          obtain ⟨ha, _⟩ := hc (by omega)
          refine ⟨p.b, p.s + o * k', by rw [ha, e1], fun i j row c hi hj => ?_⟩
          have hil := (List.getElem?_eq_some_iff.1 hi).1
          rw [hlen] at hil
          rw [List.getElem?_take, if_pos hil, List.getElem?_drop] at hi
          obtain ⟨v, k1, k2⟩ := g6 _ j row c hi hj
          refine ⟨v, ?_, k2⟩
          rw [← k1]; congr 2; rw [Nat.add_mul]; omega
      · cases h
    · cases h
  · rename_i r ii j n z
    split at h
    · rename_i k' rs hη
      split at h
      · rename_i row hrow
        split at h
        · rename_i hh
          obtain ⟨rfl, _, hjn⟩ := hh
          cases h
          cases hx with
          | arr _ _ _ _ _ p a cap hr hn hm hc =>
          obtain ⟨p', g1, g2⟩ := hst.obj r _ hη
          rw [hr] at g1; cases g1
          obtain ⟨e1, _, g3, _, _, g6⟩ := g2
          have hl : ((row.drop j).take (n * z)).length = n * z := by simp; omega
          obtain ⟨q1, q2, q3⟩ := chunk_get n _ hl
          rw [q1]
          refine ⟨some a, cap, rfl, hn, hm, q2, fun h0 => ?_⟩
          obtain ⟨ha, _⟩ := hc (by omega)
          refine ⟨p.b, p.s + ii * p.k + j, by rw [ha], fun i' j' row' c hi hj => ?_⟩
          have := q3 i' j' row' c hi hj
          have hlt := (List.getElem?_eq_some_iff.1 this).1
          rw [hl] at hlt
          rw [List.getElem?_take, if_pos hlt, List.getElem?_drop] at this
          obtain ⟨v, k1, k2⟩ := g6 ii _ row c hrow this
          refine ⟨v, ?_, k2⟩
          rw [← k1, e1]; congr 2; omega
        · cases h
      · cases h
    · cases h
  · cases h

theorem Out.undef {u : Value} {w' : World} {η' : AHeap} (_hst : St own M η n w) (hK : K .undef η' n) (h1 : St own M η' n w') (h2 : Fr (OB own η) w w') (h3 : ∀ b, OB own η' b → OB own η b) : Out own M η n w K u w' :=
  ⟨.undef, η', n, own, M, hK, Nat.le_refl _, h1, .undef u, Own.le_refl _, Mem.le_refl _, h2, fun b hb => Or.inl (h3 b hb), fun b hb => Or.inl hb⟩

theorem astore_sound (hst : St own M η n w) {t : TypeId} {p x : AVal} {u v : Value} {η' : AHeap} (hp : VR own M p u) (hx : VR own M x v) (h : astore P t p x η = some η') :
    ∃ w', (Instr.storeAt t u v).run P w = .ok () w' ∧ St own M η' n w' ∧ Fr (OB own η) w w' ∧ ∀ b, OB own η' b → OB own η b := by
  unfold astore at h
  split at h
  · rename_i r i j
    split at h
    · rename_i k rows z hη hz
      split at h
      · rename_i row hrow
        split at h
        · rename_i hh
          obtain ⟨h1, h2, h3, h0⟩ := hh
          cases h
          cases hp with
          | ptr _ _ _ p hr =>
            obtain ⟨c1, c2⟩ := vr_cells hx h2
            have hs := tsize_run hz w
            obtain ⟨w', k1, k2, k3⟩ := store_cells (P := P) hst (j := j) hη hr hrow (cs := acells x) (A := v.cells) (by omega) (by omega) c1 (fun y hy => by
              obtain ⟨q, hq⟩ := List.mem_iff_getElem?.1 hy
              have hql := (List.getElem?_eq_some_iff.1 hq).1
              simp only [Array.length_toList, c1] at hql
              have := c2 q _ (List.getElem?_eq_getElem hql)
              have e : v.cells.getD q undef = y := by rw [Array.getElem?_toList] at hq; simp [Array.getD_eq_getD_getElem?, hq]
              rw [e] at this
              exact this.oneCell (List.all_eq_true.1 h2 _ (List.getElem_mem _))) c2
            refine ⟨w', ?_, by rw [h1] at k2; exact k2, k3, fun b hb => OB.turn hη hb⟩
            unfold Instr.storeAt Instr.sureAddr storeVar
            simp only [Sem.run_bind, Sem.run_pure, Result.andThen_ok, hs]
            rw [if_neg (by omega)]
            exact k1
        · cases h
      · cases h
    · cases h
  · cases h

theorem append_zero (w : World) {t ty e : TypeId} {i : TypeInfo} (ht : P.underlying t = some (.slice e)) (hi : P.info? e = some i) (a x : Option Addr) (m cap c : Nat) (hc : m ≤ cap) :
    (Builtin.append_ #[t, t] ty #[.slice a m cap, .slice x 0 c]).run P w = .ok (.slice a m cap) w := by
  cases x <;> cases a <;> simp [Builtin.append_, run_underlying ht, sizeOf, typeInfo, hi, Builtin.lenOf, hc, Builtin.firstCells, loadCells, loadCellsFrom, storeCells]

/-- an append onto nothing -/
theorem append_fresh (hst : St own M η n w) {t ty e : TypeId} {i : TypeInfo} {z : Value} {k : Nat} {news : List (List AVal)} {x : Option Addr} {c : Nat} {vals : List Value} (a : Option Addr) (ht : P.underlying t = some (.slice e)) (hi : P.info? e = some i) (hz : i.zero = some z)
    (hk : i.size = k) (hzs : z.cells.size = k) (h0 : 0 < k) (hr : ∀ row ∈ news, row.length = k) (hl : vals.length = news.length * k) (hv : ∀ (i j : Nat) (row : List AVal) (c : AVal), news[i]? = some row → row[j]? = some c → VR own M c (vals.getD (i * k + j) undef))
    (hx : 0 < news.length → ∃ ad, x = some ad ∧ ∀ j u, vals[j]? = some u → w.cell? (ad.add j) = some u) (hb : news.length * i.bytes ≤ 140737488355328) (hm : news.length ≤ lenMax)
    (hK : K (.sl n 0 news.length) (upd η n (some (.cells k news))) (n + 1)) :
    ∃ y w', (Builtin.append_ #[t, t] ty #[.slice a 0 0, .slice x news.length c]).run P w = .ok y w' ∧ Out own M η n w K y w' := by
  unfold lenMax at hm
  rcases Nat.eq_zero_or_pos news.length with hn | hn
  · have hnil : news = [] := List.eq_nil_of_length_eq_zero hn
    subst hnil
    refine ⟨_, w, append_zero w ht hi a x 0 0 c (Nat.le_refl _), ?_⟩
    have hfn := hst.fresh n (Nat.le_refl _)
    refine ⟨.sl n 0 0, _, n + 1, own.put n ⟨0, 0, 0, k⟩, M, hK, Nat.le_succ _, hst.add ⟨rfl, h0, by simp, by simp, fun h => by simp at h, fun i j row c hi => by simp at hi⟩ (fun h => by simp at h) (fun _ _ => rfl) (fun _ _ _ => rfl),
      .sl n 0 0 _ a 0 (by simp [Own.put]; rfl) (Nat.le_refl _) (by omega) (fun h => by omega), Own.le_put hfn _, Mem.le_refl _, Fr.refl _ _, fun b hb => ?_, fun b hb => Or.inl hb⟩
    obtain ⟨r, p, o, h1, h2, h3, h4⟩ := hb
    by_cases e : r = n
    · subst e; simp only [Own.put, if_true, Option.some.injEq] at h2; subst h2; simp at h3
    · rw [upd_ne e] at h1; simp only [Own.put, if_neg e] at h2
      exact Or.inl ⟨r, p, o, h1, h2, h3, h4⟩
  · obtain ⟨ad, rfl, hcell⟩ := hx hn
    have hge := grownCap_ge w news.length 0 e
    have hcm := grownCap_le_maxLen w news.length 0 e (by unfold maxLen; omega)
    unfold maxLen at hcm
    have fin : Out own M η n w K (.slice (some ⟨w.heap.size, 0, none⟩) news.length (grownCap w news.length 0 e)) (w.drew.alloc (.cells (vals.toArray ++ Builtin.zeroCells z.cells (grownCap w news.length 0 e - news.length)) e)) := by
      have hsz : (vals.toArray ++ Builtin.zeroCells z.cells (grownCap w news.length 0 e - news.length)).size = grownCap w news.length 0 e * k := by
        simp only [Array.size_append, List.size_toArray, size_zeroCells, hzs, hl, ← Nat.add_mul]
        congr 1; omega
      have e1 : ∀ q, q < vals.length → (vals.toArray ++ Builtin.zeroCells z.cells (grownCap w news.length 0 e - news.length)).getD q undef = vals.getD q undef := fun q hq => by
        rw [Array.getD_eq_getD_getElem?, Array.getElem?_append_left (by simp; omega)]
        simp [List.getD_eq_getElem?_getD]
      generalize (vals.toArray ++ Builtin.zeroCells z.cells (grownCap w news.length 0 e - news.length)) = A at *
      refine Out.new (w1 := w.drew) hst h0 hr (by rw [hsz]; exact Nat.mul_le_mul_right k hge) (fun i j row c hi hj => ?_) ⟨rfl, rfl, rfl, rfl⟩ (.sl n 0 news.length ⟨w.heap.size, 0, A.size, k⟩ _ _ (by simp [Own.put]) hge (by omega) fun _ => ⟨by simp, by simp [hsz]⟩) hK
      have hil := (List.getElem?_eq_some_iff.1 hi).1
      have hjl := (List.getElem?_eq_some_iff.1 hj).1
      have hrl := hr row (List.mem_of_getElem? hi)
      have h1 : (i + 1) * k ≤ news.length * k := Nat.mul_le_mul_right k hil
      rw [Nat.succ_mul] at h1
      rw [e1 _ (by omega)]; exact hv i j row c hi hj
    cases a with
    | none =>
      exact ⟨_, _, run_append_nil w t ty e i z ht hi hz ad news.length c vals (by rw [hl, hk]) hcell hn (by omega) (by omega), fin⟩
    | some b =>
      have hg := run_append_grow (P := P) w t ty e i z ht hi hz b 0 0 [] (by simp) (fun j v h => by simp at h) ad news.length c vals (by rw [hl, hk]) hcell (by omega) (by simp; omega) (growslice_fits (by omega) (by simpa using hb))
      simp only [Nat.zero_add, Array.empty_append] at hg
      exact ⟨_, _, hg, fin⟩

theorem OB.weaken {K : AVal → AHeap → Nat → Prop} {η1 : AHeap} {u : Value} {w' : World} (hη : η1.le η) (h : Out own M η1 n w K u w') : Out own M η n w K u w' := by
  obtain ⟨v, η', n', own', M', h1, h2, h3, h4, h5, h6, h7, h8⟩ := h
  refine ⟨v, η', n', own', M', h1, h2, h3, h4, h5, h6, h7.weaken fun _ h => OB.less hη h, fun b hb => (h8.1 b hb).imp (OB.less hη) id, fun b hb => (h8.2 b hb).imp id fun h => h.imp (OB.less hη) id⟩

/-- an append onto one's own -/
theorem append_own (hst : St own M η n w) {t ty e : TypeId} {i : TypeInfo} {z : Value} {k r o m : Nat} {rows news : List (List AVal)} {u : Value} {xa : Option Addr} {c : Nat} {vals : List Value} (hη : η r = some (.cells k rows)) (hu : VR own M (.sl r o m) u)
    (hom : o + m ≤ rows.length) (ht : P.underlying t = some (.slice e)) (hi : P.info? e = some i) (hz : i.zero = some z)
    (hk : i.size = k) (hzs : z.cells.size = k) (hr : ∀ row ∈ news, row.length = k) (hl : vals.length = news.length * k) (hv : ∀ (i j : Nat) (row : List AVal) (c : AVal), news[i]? = some row → row[j]? = some c → VR own M c (vals.getD (i * k + j) undef))
    (hx : 0 < news.length → ∃ ad, xa = some ad ∧ ∀ j u, vals[j]? = some u → w.cell? (ad.add j) = some u) (h1 : ∀ v ∈ vals, v.oneCell' = true) (hb : (m + news.length) * i.bytes ≤ 140737488355328) (hm : m + news.length ≤ lenMax)
    (hK : K (.sl n 0 (m + news.length)) (upd (upd η r none) n (some (.cells k ((rows.drop o).take m ++ news)))) (n + 1)) :
    ∃ y w', (Builtin.append_ #[t, t] ty #[u, .slice xa news.length c]).run P w = .ok y w' ∧ Out own M η n w K y w' := by
  obtain ⟨p, g1, g2⟩ := hst.obj r _ hη
  obtain ⟨e1, h0, hrows, hle, hreal, hcell⟩ := g2
  have hη1 : (upd η r none).le η := fun x o h => by
    by_cases e : x = r
    · subst e; rw [upd_eq] at h; cases h
    · rwa [upd_ne e] at h
  have hst1 := hst.less hη1 (Nat.le_refl n)
  cases hu with
  | sl _ _ _ p' a cap hp hn hmx hc =>
    rw [g1] at hp; cases hp
    rcases Nat.eq_zero_or_pos cap with hcap | hcap
    · subst hcap
      obtain rfl : m = 0 := by omega
      simp only [List.take_zero, List.nil_append, Nat.zero_add] at hK hb hm
      obtain ⟨y, w', k1, k2⟩ := append_fresh (ty := ty) (c := c) hst1 a ht hi hz hk hzs h0 hr hl hv hx hb hm hK
      exact ⟨y, w', k1, OB.weaken hη1 k2⟩
    · obtain ⟨ha, hfit⟩ := hc hcap
      subst ha
      have hpe : p.s < p.e := by
        have : (o + cap) * p.k ≥ 1 * p.k := Nat.mul_le_mul_right _ (by omega)
        rw [e1] at this; rw [e1] at hfit; omega
      obtain ⟨hM, arr, T, hh, hea⟩ := hreal hpe
      have hT1 : ((rows.drop o).take m).length = m := by simp; omega
      have hTr : ∀ row ∈ (rows.drop o).take m, row.length = k := fun row h => hrows row (List.mem_of_mem_drop (List.mem_of_mem_take h))
      have hTi : ∀ (q : Nat) (row : List AVal), ((rows.drop o).take m)[q]? = some row → q < m ∧ rows[o + q]? = some row := fun q row h => by
        have := (List.getElem?_eq_some_iff.1 h).1
        rw [hT1] at this
        rw [List.getElem?_take, if_pos this, List.getElem?_drop] at h
        exact ⟨this, h⟩
      have hTc : ∀ (q j : Nat) (row : List AVal) (c : AVal), ((rows.drop o).take m)[q]? = some row → row[j]? = some c → ∃ v, w.cell? ⟨p.b, p.s + o * p.k + q * k + j, none⟩ = some v ∧ VR own M c v := fun q j row c hq hj => by
        obtain ⟨v, k1, k2⟩ := hcell _ j row c (hTi q row hq).2 hj
        exact ⟨v, by rw [← k1, e1]; congr 2; rw [Nat.add_mul]; omega, k2⟩
      have hall : ∀ row ∈ (rows.drop o).take m ++ news, row.length = k := fun row h => by
        rcases List.mem_append.1 h with h | h
        · exact hTr row h
        · exact hr row h
      rcases Nat.lt_or_ge cap (m + news.length) with hg | hg
      · -- it grows
        obtain ⟨olds, o1, o2, o3⟩ := rows_cells (own := own) (M := M) (w := w) (b := p.b) (o := p.s + o * p.k) _ h0 hTr hTc
        rw [hT1] at o1
        obtain ⟨ad, rfl, hcx⟩ := hx (by omega)
        unfold lenMax at hm
        have hrun := run_append_grow (P := P) w t ty e i z ht hi hz ⟨p.b, p.s + o * p.k, none⟩ m cap olds (by rw [o1, hk]) o2 ad news.length c vals (by rw [hl, hk]) hcx hg (by omega) (growslice_fits hg hb)
        refine ⟨_, _, hrun, OB.weaken hη1 ?_⟩
        have hge := grownCap_ge w (m + news.length) cap e
        have hcm := grownCap_le_maxLen w (m + news.length) cap e (by unfold maxLen; omega)
        unfold maxLen at hcm
        have hsz : (olds.toArray ++ vals.toArray ++ Builtin.zeroCells z.cells (grownCap w (m + news.length) cap e - (m + news.length))).size = grownCap w (m + news.length) cap e * k := by
          simp only [Array.size_append, List.size_toArray, size_zeroCells, hzs, hl, o1, ← Nat.add_mul]
          congr 1; omega
        have e2 : ∀ q, q < m * k + news.length * k → (olds.toArray ++ vals.toArray ++ Builtin.zeroCells z.cells (grownCap w (m + news.length) cap e - (m + news.length))).getD q undef = (olds ++ vals).getD q undef := fun q hq => by
          rw [Array.getD_eq_getD_getElem?, Array.getElem?_append_left (by simp; omega)]
          simp [List.getD_eq_getElem?_getD]
        generalize (olds.toArray ++ vals.toArray ++ Builtin.zeroCells z.cells (grownCap w (m + news.length) cap e - (m + news.length))) = A at *
        refine Out.new (w1 := w.drew) hst1 h0 hall (by rw [hsz, List.length_append, hT1]; exact Nat.mul_le_mul_right k hge) (fun q j row c hq hj => ?_) ⟨rfl, rfl, rfl, rfl⟩
          (.sl n 0 (m + news.length) ⟨w.heap.size, 0, A.size, k⟩ _ _ (by simp [Own.put]) hge (by omega) fun _ => ⟨by simp, by simp [hsz]⟩) hK
        have hil := (List.getElem?_eq_some_iff.1 hq).1
        rw [List.length_append, hT1] at hil
        have hjl := (List.getElem?_eq_some_iff.1 hj).1
        have hrl := hall row (List.mem_of_getElem? hq)
        have hx1 : (q + 1) * k ≤ (m + news.length) * k := Nat.mul_le_mul_right k hil
        rw [Nat.succ_mul, Nat.add_mul] at hx1
        rw [e2 _ (by omega), List.getD_eq_getElem?_getD]
        rcases Nat.lt_or_ge q m with hqm | hqm
        · have hx2 : (q + 1) * k ≤ m * k := Nat.mul_le_mul_right k hqm
          rw [Nat.succ_mul] at hx2
          rw [List.getElem?_append_left (by omega)] at hq ⊢
          rw [← List.getD_eq_getElem?_getD]
          exact o3 q j row c hq hj
        · have hx5 : m * k ≤ q * k := Nat.mul_le_mul_right k hqm
          rw [List.getElem?_append_right (by omega), hT1] at hq
          rw [List.getElem?_append_right (by omega), o1, ← List.getD_eq_getElem?_getD]
          have e3 : q * k + j - m * k = (q - m) * k + j := by
            rw [Nat.sub_mul]; omega
          rw [e3]; exact hv _ j row c hq hj
      · -- there is room
        have hlv : vals.length + m * k ≤ cap * k := by rw [hl, ← Nat.add_mul]; exact Nat.mul_le_mul_right k (by omega)
        have hfit' : p.s + o * k + cap * k ≤ p.e := by rw [e1, Nat.add_mul] at hfit; omega
        have hst' := run_storeCells_at P p.b (p.s + o * k + m * k) T vals 0 arr w hh (by omega) h1
        simp only [Nat.add_zero] at hst'
        have hrun : (Builtin.append_ #[t, t] ty #[.slice (some ⟨p.b, p.s + o * p.k, none⟩) m cap, .slice xa news.length c]).run P w = .ok (.slice (some ⟨p.b, p.s + o * p.k, none⟩) (m + news.length) cap)
            (w.setRow p.b (arr.toList.take (p.s + o * k + m * k) ++ vals ++ arr.toList.drop (p.s + o * k + m * k + vals.length)).toArray) := by
          have hf : (Builtin.firstCells i.size news.length (.slice xa news.length c)).run P w = .ok vals.toArray w := by
            rcases Nat.eq_zero_or_pos news.length with hn0 | hn0
            · have : vals = [] := List.eq_nil_of_length_eq_zero (by rw [hl, hn0]; simp)
              subst this
              rw [hn0]
              cases xa <;> simp [Builtin.firstCells, loadCells, loadCellsFrom]
            · obtain ⟨ad, rfl, hcx⟩ := hx hn0
              exact run_firstCells_some w i.size news.length ad news.length c vals (by rw [hl, hk]) hcx
          rw [hk] at hf
          simp [Builtin.append_, run_underlying ht, sizeOf, typeInfo, hi, Builtin.lenOf, hg, hf, add_plain, hk, e1]
          rw [hst']
          simp [List.append_assoc]
        refine ⟨_, _, hrun, ?_⟩
        have hheap := setRow_heap w p.b arr (arr.toList.take (p.s + o * k + m * k) ++ vals ++ arr.toList.drop (p.s + o * k + m * k + vals.length)).toArray T (0, 0) hh
        have hcap' : 0 < cap * k := Nat.mul_pos hcap h0
        have hfn := hst.fresh n (Nat.le_refl _)
        have hgetc : ∀ q, q < arr.size → (w.setRow p.b (arr.toList.take (p.s + o * k + m * k) ++ vals ++ arr.toList.drop (p.s + o * k + m * k + vals.length)).toArray).cell? ⟨p.b, q, none⟩ =
            some (if p.s + o * k + m * k ≤ q ∧ q < p.s + o * k + m * k + vals.length then vals.getD (q - (p.s + o * k + m * k)) undef else arr.toList.getD q undef) := fun q hq => by
          rw [World.cell?, hheap]
          simp only [Option.isSome_none, Bool.false_eq_true, if_false]
          rw [← getD_mid arr.toList vals (p.s + o * k + m * k) q undef (by simp; omega)]
          rw [List.getElem?_toArray, List.getD_eq_getElem?_getD, List.getElem?_eq_getElem]
          · rfl
          · simp only [List.length_append, List.length_take, List.length_drop, Array.length_toList]; omega
        have hother : ∀ b, b ≠ p.b → (w.setRow p.b (arr.toList.take (p.s + o * k + m * k) ++ vals ++ arr.toList.drop (p.s + o * k + m * k + vals.length)).toArray).heap[b]? = w.heap[b]? := fun b hb => setRow_other w p.b b _ hb
        have hdiff : ∀ b, OB own (upd η r none) b → b ≠ p.b := fun b hb => by
          obtain ⟨r', p', o', q1, q2, q3, q4⟩ := hb
          have hne : r' ≠ r := fun e => by subst e; rw [upd_eq] at q1; cases q1
          rw [upd_ne hne] at q1
          rw [← q4]
          exact hst.inj r' r p' p o' _ hne q1 hη q2 g1 q3 hpe
        refine ⟨_, _, n + 1, own.put n ⟨p.b, p.s + o * k, p.e, k⟩, M, hK, Nat.le_succ _, hst1.add ⟨rfl, h0, hall, ?_, fun _ => ⟨hM, _, T, hheap, ?_⟩, fun q j row c hq hj => ?_⟩ (fun _ r' q' o' hr' hq' hs' => hdiff _ ⟨r', q', o', hr', hq', hs', rfl⟩)
          (fun b hb => hother b (hdiff b hb)) (fun b a' hM' => hother b fun e => by subst e; rw [hM] at hM'; cases hM'),
          .sl n 0 (m + news.length) ⟨p.b, p.s + o * k, p.e, k⟩ _ cap (by simp [Own.put]) hg hmx fun _ => ⟨by simp [e1], by simp; omega⟩, Own.le_put hfn _, Mem.le_refl _, ?_, fun b hb => ?_, fun b hb => Or.inl hb⟩
        · have : (m + news.length) * k ≤ cap * k := Nat.mul_le_mul_right k hg
          simp only [List.length_append, hT1]; omega
        · simp only [List.size_toArray, List.length_append, List.length_take, List.length_drop, Array.length_toList]; omega
        · have hil := (List.getElem?_eq_some_iff.1 hq).1
          rw [List.length_append, hT1] at hil
          have hjl := (List.getElem?_eq_some_iff.1 hj).1
          have hrl := hall row (List.mem_of_getElem? hq)
          have hx1 : (q + 1) * k ≤ (m + news.length) * k := Nat.mul_le_mul_right k hil
          have hx3 : (m + news.length) * k ≤ cap * k := Nat.mul_le_mul_right k hg
          rw [Nat.succ_mul] at hx1
          refine ⟨_, hgetc (p.s + o * k + q * k + j) (by omega), ?_⟩
          have hle' := Own.le_put hfn ⟨p.b, p.s + o * k, p.e, k⟩
          rcases Nat.lt_or_ge q m with hqm | hqm
          · have hx2 : (q + 1) * k ≤ m * k := Nat.mul_le_mul_right k hqm
            rw [Nat.succ_mul] at hx2
            rw [if_neg (by omega)]
            rw [List.getElem?_append_left (by omega)] at hq
            obtain ⟨v, k1, k2⟩ := hTc q j row c hq hj
            have e3 : arr.toList.getD (p.s + o * k + q * k + j) undef = v := by
              rw [World.cell?, hh, e1] at k1
              simp at k1
              simp [List.getD_eq_getElem?_getD, k1]
            rw [e3]; exact k2.mono hle' (Mem.le_refl _)
          · rw [List.getElem?_append_right (by omega), hT1] at hq
            have hqi := (List.getElem?_eq_some_iff.1 hq).1
            have hx4 : (q - m + 1) * k ≤ news.length * k := Nat.mul_le_mul_right k hqi
            rw [Nat.succ_mul, Nat.sub_mul] at hx4
            have hx5 : m * k ≤ q * k := Nat.mul_le_mul_right k hqm
            rw [if_pos (by omega)]
            have e3 : p.s + o * k + q * k + j - (p.s + o * k + m * k) = (q - m) * k + j := by rw [Nat.sub_mul]; omega
            rw [e3]
            exact (hv _ j row c hq hj).mono hle' (Mem.le_refl _)
        · exact ⟨rfl, rfl, rfl, by simp [World.setRow], fun b hb hd => hother b fun e => hd ⟨r, p, _, hη, g1, hpe, e.symm⟩⟩
        · rcases OB.add hfn hb with h | h
          · exact Or.inl (OB.less hη1 h)
          · exact Or.inl ⟨r, p, _, hη, g1, hpe, h.symm⟩
/-- rows written over an object's -/
theorem store_rows (hst : St own M η n w) {r o k : Nat} {rows news : List (List AVal)} {p : Spot} {A : List Value} (hη : η r = some (.cells k rows)) (hp : own r = some p) (ho : o + news.length ≤ rows.length) (hn : ∀ row ∈ news, row.length = k) (h0 : 0 < news.length)
    (hA : A.length = news.length * k) (h1 : ∀ v ∈ A, v.oneCell' = true) (hc : ∀ (i j : Nat) (row : List AVal) (c : AVal), news[i]? = some row → row[j]? = some c → VR own M c (A.getD (i * k + j) Go.undef)) :
    ∃ w', (storeCells ⟨p.b, p.s + o * p.k, none⟩ A).run P w = .ok () w' ∧ St own M (upd η r (some (.cells k (rows.take o ++ news ++ rows.drop (o + news.length))))) n w' ∧ Fr (OB own η) w w' := by
  obtain ⟨p', g1, g2⟩ := hst.obj r _ hη
  rw [hp] at g1; cases g1
  obtain ⟨e1, hk, hrows, hle, hreal, hcell⟩ := g2
  have hik : (o + news.length) * k ≤ rows.length * k := Nat.mul_le_mul_right k ho
  rw [Nat.add_mul] at hik
  have hnk : 1 * k ≤ news.length * k := Nat.mul_le_mul_right k h0
  have hre : p.s < p.e := by omega
  obtain ⟨hM, arr, T, hh, hea⟩ := hreal hre
  have hrun := run_storeCells_at P p.b (p.s + o * p.k) T A 0 arr w hh (by rw [e1]; omega) h1
  simp only [Nat.add_zero] at hrun
  refine ⟨_, hrun, ?_, ?_⟩
  · refine hst.turn hη hp ?_ (fun b hb => setRow_other w p.b b _ hb) hre
    have hheap := setRow_heap w p.b arr (arr.toList.take (p.s + o * p.k) ++ A ++ arr.toList.drop (p.s + o * p.k + A.length)).toArray T (0, 0) hh
    have hrl : (rows.take o ++ news ++ rows.drop (o + news.length)).length = rows.length := by simp; omega
    have hmem : ∀ row ∈ (rows.take o ++ news ++ rows.drop (o + news.length)), row.length = k := fun row hr => by
      simp only [List.mem_append] at hr
      rcases hr with (hr | hr) | hr
      · exact hrows row (List.mem_of_mem_take hr)
      · exact hn row hr
      · exact hrows row (List.mem_of_mem_drop hr)
    refine ⟨e1, hk, hmem, by rw [hrl]; exact hle, fun _ => ⟨hM, _, T, hheap, ?_⟩, fun i' j' row' c hi' hj' => ?_⟩
    · simp only [List.size_toArray, List.length_append, List.length_take, List.length_drop, Array.length_toList]; omega
    · have hi'l : i' < rows.length := by
        have := (List.getElem?_eq_some_iff.1 hi').1; rw [hrl] at this; exact this
      have hik' : (i' + 1) * k ≤ rows.length * k := Nat.mul_le_mul_right k hi'l
      rw [Nat.succ_mul] at hik'
      have hrow'k : row'.length = k := hmem row' (List.mem_of_getElem? hi')
      have hj'l := (List.getElem?_eq_some_iff.1 hj').1
      have hq : p.s + i' * k + j' < arr.size := by omega
      have hget : (w.setRow p.b (arr.toList.take (p.s + o * p.k) ++ A ++ arr.toList.drop (p.s + o * p.k + A.length)).toArray).cell? ⟨p.b, p.s + i' * k + j', none⟩ =
          some (if p.s + o * k ≤ p.s + i' * k + j' ∧ p.s + i' * k + j' < p.s + o * k + A.length then A.getD (p.s + i' * k + j' - (p.s + o * k)) Go.undef else arr.toList.getD (p.s + i' * k + j') Go.undef) := by
        rw [World.cell?, hheap]
        simp only [Option.isSome_none, Bool.false_eq_true, if_false]
        rw [← getD_mid arr.toList A (p.s + o * k) _ Go.undef (by simp; omega), e1]
        rw [List.getElem?_toArray, List.getD_eq_getElem?_getD, List.getElem?_eq_getElem]
        · rfl
        · simp only [List.length_append, List.length_take, List.length_drop, Array.length_toList]; omega
      refine ⟨_, hget, ?_⟩
      by_cases hm : o ≤ i' ∧ i' < o + news.length
      · have hx : (i' - o + 1) * k ≤ news.length * k := Nat.mul_le_mul_right k (by omega)
        have hx2 : (i' - o) * k + o * k = i' * k := by rw [← Nat.add_mul]; congr 1; omega
        rw [Nat.succ_mul] at hx
        rw [if_pos (by rw [hA]; omega)]
        rw [List.append_assoc, List.getElem?_append_right (by simp; omega), List.getElem?_append_left (by simp; omega)] at hi'
        have e4 : i' - (rows.take o).length = i' - o := by simp; omega
        rw [e4] at hi'
        have := hc _ j' row' c hi' hj'
        have e3 : p.s + i' * k + j' - (p.s + o * k) = (i' - o) * k + j' := by omega
        rw [e3]; exact this
      · have hi'' : rows[i']? = some row' := by
          rcases Nat.lt_or_ge i' o with hlt | hge
          · rw [List.append_assoc, List.getElem?_append_left (by simp; omega), List.getElem?_take, if_pos hlt] at hi'
            exact hi'
          · rw [List.getElem?_append_right (by simp; omega), List.getElem?_drop] at hi'
            have e4 : o + news.length + (i' - (rows.take o ++ news).length) = i' := by simp; omega
            rw [e4] at hi'; exact hi'
        obtain ⟨v, k1, k2⟩ := hcell i' j' row' c hi'' hj'
        rw [if_neg (by
          rw [hA]
          rcases Nat.lt_or_ge i' o with h | h
          · have : (i' + 1) * k ≤ o * k := Nat.mul_le_mul_right k h
            rw [Nat.succ_mul] at this; omega
          · have : (o + news.length) * k ≤ i' * k := Nat.mul_le_mul_right k (by omega)
            rw [Nat.add_mul] at this; omega)]
        have e3 : arr.toList.getD (p.s + i' * k + j') Go.undef = v := by
          rw [World.cell?, hh] at k1
          simp at k1
          simp [List.getD_eq_getElem?_getD, k1]
        rw [e3]; exact k2
  · exact ⟨rfl, rfl, rfl, by simp [World.setRow], fun b hb hd => setRow_other w p.b b _ fun e => hd ⟨r, p, _, hη, hp, hre, e.symm⟩⟩

theorem arows_take {k : Nat} {news : List Value} {rows : List (List AVal)} {c : Nat} (hl : news.length = rows.length * k) (hc : c ≤ rows.length) (hr : ∀ row ∈ rows, row.length = k)
    (hv : ∀ (i j : Nat) (row : List AVal) (x : AVal), rows[i]? = some row → row[j]? = some x → VR own M x (news.getD (i * k + j) Go.undef)) :
    (news.take (c * k)).length = (rows.take c).length * k ∧ ∀ (i j : Nat) (row : List AVal) (x : AVal), (rows.take c)[i]? = some row → row[j]? = some x → VR own M x ((news.take (c * k)).getD (i * k + j) Go.undef) := by
  have hck : c * k ≤ rows.length * k := Nat.mul_le_mul_right k hc
  refine ⟨by simp only [List.length_take]; rw [Nat.min_eq_left (by omega), Nat.min_eq_left hc], fun i j row x hi hj => ?_⟩
  have hil := (List.getElem?_eq_some_iff.1 hi).1
  simp at hil
  rw [List.getElem?_take, if_pos (by omega)] at hi
  have hrl := hr row (List.mem_of_getElem? hi)
  have hjl := (List.getElem?_eq_some_iff.1 hj).1
  have hx : (i + 1) * k ≤ c * k := Nat.mul_le_mul_right k (by omega)
  rw [Nat.succ_mul] at hx
  have := hv i j row x hi hj
  rw [List.getD_eq_getElem?_getD, List.getElem?_take, if_pos (by omega), ← List.getD_eq_getElem?_getD]
  exact this

theorem acopy_sound (hst : St own M η n w) {t t2 ty : TypeId} {d x : AVal} {u v : Value} (hd : VR own M d u) (hx : VR own M x v) (h : acopy P t t2 d x η n K) :
    ∃ y w', (Builtin.copy_ #[t, t2] ty #[u, v]).run P w = .ok y w' ∧ Out own M η n w K y w' := by
  unfold acopy at h
  split at h
  · rename_i e hte
    have hu := telem_run hte
    split at h
    · rename_i z _ hz ht2
      obtain ⟨hz0, h⟩ := h
      have hs := tsize_run hz w
      split at h
      · rename_i news hnews
        obtain ⟨hsc, h⟩ := h
        obtain ⟨xa, xc, rfl, x1, x2, x3, x4⟩ := arows_sound hst hz0 hx hnews
        have same : K (.int .i64 0) η n → Out own M η n w K (goInt 0) w := fun hK => ⟨_, η, n, own, M, hK, Nat.le_refl _, hst, .int .i64 0, Own.le_refl _, Mem.le_refl _, Fr.refl _ _, fun b hb => Or.inl hb, fun b hb => Or.inl hb⟩
        have zero : ∀ (a : Option Addr) (m cap : Nat), min news.length m = 0 → (Builtin.copy_ #[t, t2] ty #[.slice a m cap, .slice xa news.length xc]).run P w = .ok (goInt 0) w := fun a m cap h0 => by
          have h0' : Nat.min news.length m = 0 := h0
          cases xa <;> cases a <;> simp [Builtin.copy_, run_underlying hu, hs, Builtin.lenOf, h0', Builtin.firstCells, loadCells, loadCellsFrom, storeCells]
        split at h
        · cases hd
          exact ⟨_, w, zero _ _ _ (by simp), same h⟩
        · cases hd
          exact ⟨_, w, zero _ _ _ (by simp), same h⟩
        · rename_i r o m
          split at h
          · rename_i k rows hη
            obtain ⟨rfl, hom, hK⟩ := h
            cases hd with
            | sl _ _ _ p a cap hr hn hm hc =>
            rcases Nat.eq_zero_or_pos (min news.length m) with h0 | h0
            · rw [h0] at hK
              have e : upd η r (some (.cells k (rows.take o ++ news.take 0 ++ rows.drop (o + 0)))) = η := by
                simp only [List.take_zero, List.append_nil, Nat.add_zero, List.take_append_drop]
                funext q
                by_cases hq : q = r
                · subst hq; rw [upd_eq, hη]
                · rw [upd_ne hq]
              rw [e] at hK
              exact ⟨_, w, zero _ _ _ h0, same hK⟩
            · obtain ⟨ha, hpe⟩ := hc (by omega)
              subst ha
              obtain ⟨b, o', rfl, hcell⟩ := x4 (by omega)
              obtain ⟨vals, v1, v2, v3⟩ := rows_cells (own := own) (M := M) (w := w) (b := b) (o := o') news hz0 x3 hcell
              obtain ⟨t1, t2'⟩ := arows_take (own := own) (M := M) (c := min news.length m) v1 (Nat.min_le_left _ _) x3 v3
              have hlen : (news.take (min news.length m)).length = min news.length m := by rw [List.length_take]; omega
              have one : ∀ y ∈ vals.take (min news.length m * k), y.oneCell' = true := fun y hy => by
                obtain ⟨q, hq⟩ := List.mem_iff_getElem?.1 hy
                have hql := (List.getElem?_eq_some_iff.1 hq).1
                rw [t1, hlen] at hql
                have hqi : q / k < min news.length m := by rw [Nat.div_lt_iff_lt_mul hz0]; exact hql
                have hi : (news.take (min news.length m))[q / k]? = some (news.take (min news.length m))[q / k] := List.getElem?_eq_getElem (by rw [hlen]; exact hqi)
                have hrow := List.mem_of_mem_take (List.mem_of_getElem? hi)
                have hj : ((news.take (min news.length m))[q / k]'(by rw [hlen]; exact hqi))[q % k]? = some (((news.take (min news.length m))[q / k]'(by rw [hlen]; exact hqi))[q % k]'(by rw [x3 _ hrow]; exact Nat.mod_lt _ hz0)) := List.getElem?_eq_getElem _
                have := t2' _ _ _ _ hi hj
                have e1 : q / k * k + q % k = q := by rw [Nat.mul_comm, Nat.div_add_mod]
                rw [e1, List.getD_eq_getElem?_getD, hq] at this
                exact this.oneCell (hsc _ hrow _ (List.mem_of_getElem? hj))
              obtain ⟨w', k1, k2, k3⟩ := store_rows (P := P) hst (o := o) hη hr (news := news.take (min news.length m)) (by rw [hlen]; omega) (fun row hx => x3 row (List.mem_of_mem_take hx)) (by rw [hlen]; exact h0) t1 one t2'
              rw [hlen] at k2
              refine ⟨goInt ((min news.length m : Nat) : Int), w', ?_, _, _, n, own, M, hK, Nat.le_refl _, k2, .int .i64 _, Own.le_refl _, Mem.le_refl _, k3, fun b hb => Or.inl (OB.turn hη hb), fun b hb => Or.inl hb⟩
              have hload : (loadCells ⟨b, o', none⟩ (Nat.min news.length m * k)).run P w = .ok (vals.take (min news.length m * k)).toArray w := by
                have hll : (vals.take (min news.length m * k)).length = min news.length m * k := by rw [t1, hlen]
                have := run_loadCells_list (P := P) w ⟨b, o', none⟩ (vals.take (min news.length m * k)) fun j v hj => v2 j v (by
                  have hjl := (List.getElem?_eq_some_iff.1 hj).1
                  rw [hll] at hjl
                  rwa [List.getElem?_take, if_pos hjl] at hj)
                rw [hll] at this
                exact this
              unfold Builtin.copy_
              simp only [List.getElem?_toArray, List.getElem?_cons_zero, List.getElem?_cons_succ, Sem.run_bind, run_underlying hu, Result.andThen_ok, Builtin.lenOf, Sem.run_pure, hs, Builtin.firstCells, hload]
              rw [k1]
              rfl
          · exact h.elim
        · exact h.elim
      · exact h.elim
    · exact h.elim
  · exact h.elim
end
end Go.Proofs.Ytkhoelmbcmkhjaa
