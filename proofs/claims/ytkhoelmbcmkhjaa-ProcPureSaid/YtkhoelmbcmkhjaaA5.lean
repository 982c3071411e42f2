/- Abstract Go, 5: slices, built values, operators; all of 'aval'. -/
import Derived.Test.YtkhoelmbcmkhjaaA4
namespace Go.Proofs.Ytkhoelmbcmkhjaa

section
variable {P : Program} {own : Own} {M : Mem} {η : AHeap} {n : Nat} {w : World}

def OptR (own : Own) (M : Mem) (a : Option AVal) (v : Option Value) : Prop := (∀ x, a = some x → ∃ u, v = some u ∧ VR own M x u) ∧ (a = none → v = none)

theorem aslice_sound (hst : St own M η n w) {t : TypeId} {x v : AVal} {lo hi mx : Option AVal} {u : Value} {lo' hi' mx' : Option Value} (hx : VR own M x u) (hlo : OptR own M lo lo') (hhi : OptR own M hi hi') (hmx : OptR own M mx mx')
    (h : asliceV P t x lo hi mx η = some v) : ∃ y, (Instr.sliceAt t u lo' hi' mx').run P w = .ok y w ∧ VR own M v y := by
  have bnd : ∀ (isS : Bool) (len cap l h : Nat), len ≤ cap → abnd lo hi len = some (l, h) → (Instr.sliceBounds isS len cap lo' hi' none).run P w = .ok (l, h, cap) w ∧ l ≤ h ∧ h ≤ len :=
    fun isS len cap l h hc hb => bound_run hlo.1 hhi.1 hlo.2 hhi.2 hc hb
  unfold asliceV at h
  split at h
  · cases h
  · rw [hmx.2 rfl]
    split at h
    · -- what is only read
      rename_i e k rows hte
      have hu := telem_run hte
      split at h
      · rename_i hz
        have hs := tsize_run hz w
        split at h
        · rename_i l hh hb
          cases h
          generalize hlen : rows.length = len at hb
          cases hx with
          | rs _ _ a cap b o arr hn hm hxl ha hbb hk hl hc =>
            rw [hlen] at hn
            obtain ⟨r1, r2, r3⟩ := bnd true len cap l hh hn hb
            refine ⟨.slice (if cap = l then a else a.map (·.add (l * k))) (hh - l) (cap - l), ?_, ?_⟩
            · rw [hlen]
              unfold Instr.sliceAt underlying
              simp only [Sem.run_bind, run_program, Result.andThen_ok, hu, Sem.run_pure]
              unfold Instr.slice underlying
              simp only [Sem.run_bind, run_program, Result.andThen_ok, hu, Sem.run_pure, r1, hs]
            · have e1 : hh - l = ((rows.take hh).drop l).length := by simp; omega
              have hget : ∀ (i : Nat) row, ((rows.take hh).drop l)[i]? = some row → rows[l + i]? = some row := fun i row hi => by
                have hil := (List.getElem?_eq_some_iff.1 hi).1
                simp at hil
                rw [List.getElem?_drop, List.getElem?_take, if_pos (by omega)] at hi
                exact hi
              rw [e1]
              refine .rs k _ _ (cap - l) b (o + l * k) arr (by simp; omega) (by omega) (by simp; unfold lenMax at *; omega) (fun h0 => ?_) (fun h0 => hbb (by simp at h0; omega)) (fun i row hi => hk _ row (hget i row hi)) (fun i j row c hi hj => ?_) (fun i j row c hi hj => ?_)
              · simp at h0
                rw [if_neg (by omega), ha (by omega)]
                simp [add_plain]
              · have := hl _ j row c (hget i row hi) hj
                rw [Nat.add_mul] at this; omega
              · have := hc _ j row c (hget i row hi) hj
                have e2 : o + (l + i) * k + j = o + l * k + i * k + j := by rw [Nat.add_mul]; omega
                rwa [e2] at this
        · cases h
      · cases h
    · -- one's own
      rename_i e r o m hte
      have hu := telem_run hte
      split at h
      · rename_i k rows hη
        split at h
        · rename_i hz
          have hs := tsize_run hz w
          split at h
          · rename_i l hh hb
            cases h
            cases hx with
            | sl _ _ _ p a cap hr hn hm hc =>
              obtain ⟨r1, r2, r3⟩ := bnd true m cap l hh hn hb
              obtain ⟨p', g1, g2⟩ := hst.obj r _ hη
              rw [hr] at g1; cases g1
              have e1 : p.k = k := g2.1
              refine ⟨.slice (if cap = l then a else a.map (·.add (l * k))) (hh - l) (cap - l), ?_, .sl r (o + l) (hh - l) p _ (cap - l) hr (by omega) (by omega) fun h0 => ?_⟩
              · unfold Instr.sliceAt underlying
                simp only [Sem.run_bind, run_program, Result.andThen_ok, hu, Sem.run_pure]
                unfold Instr.slice underlying
                simp only [Sem.run_bind, run_program, Result.andThen_ok, hu, Sem.run_pure, r1, hs]
              · obtain ⟨ha, hle⟩ := hc (by omega)
                subst ha
                rw [if_neg (by omega)]
                refine ⟨?_, ?_⟩
                · simp only [Option.map_some, add_plain, e1, Nat.add_mul, Nat.add_assoc]
                · have : o + l + (cap - l) = o + cap := by omega
                  rw [this]; exact hle
          · cases h
        · cases h
      · cases h
    · -- nil
      rename_i e hte
      have hu := telem_run hte
      split at h
      · rename_i hh
        cases h
        cases hx
        obtain ⟨r1, _, _⟩ := bnd true 0 0 0 0 (by omega) hh.1
        obtain ⟨z, hz⟩ := Option.isSome_iff_exists.1 hh.2
        have hz := tsize_run hz w
        refine ⟨.slice none 0 0, ?_, .nils⟩
        unfold Instr.sliceAt underlying
        simp only [Sem.run_bind, run_program, Result.andThen_ok, hu, Sem.run_pure]
        unfold Instr.slice underlying
        simp only [Sem.run_bind, run_program, Result.andThen_ok, hu, Sem.run_pure, r1, hz]
        rfl
      · cases h
    · rename_i e hte
      have hu := telem_run hte
      split at h
      · rename_i hh
        cases h
        cases hx with
        | e0 a =>
          obtain ⟨r1, _, _⟩ := bnd true 0 0 0 0 (by omega) hh.1
          obtain ⟨z, hz⟩ := Option.isSome_iff_exists.1 hh.2
          have hz := tsize_run hz w
          refine ⟨.slice a 0 0, ?_, .e0 a⟩
          unfold Instr.sliceAt underlying
          simp only [Sem.run_bind, run_program, Result.andThen_ok, hu, Sem.run_pure]
          unfold Instr.slice underlying
          simp only [Sem.run_bind, run_program, Result.andThen_ok, hu, Sem.run_pure, r1, hz]
          rfl
      · cases h
    · rename_i e r i j n z hte
      have hu := telem_run hte
      split at h
      · rename_i hz
        have hs := tsize_run hz w
        split at h
        · rename_i l hh hb
          cases h
          cases hx with
          | arr _ _ _ _ _ p a cap hr hn hm hc =>
            obtain ⟨r1, r2, r3⟩ := bnd true n cap l hh hn hb
            refine ⟨.slice (some (if cap = l then a else a.add (l * z))) (hh - l) (cap - l), ?_, .arr r i (j + l * z) (hh - l) z p _ (cap - l) hr (by omega) (by omega) fun h0 => ?_⟩
            · unfold Instr.sliceAt underlying
              simp only [Sem.run_bind, run_program, Result.andThen_ok, hu, Sem.run_pure]
              unfold Instr.slice underlying
              simp only [Sem.run_bind, run_program, Result.andThen_ok, hu, Sem.run_pure, r1, hs]
              split <;> rfl
            · obtain ⟨ha, hle⟩ := hc (by omega)
              subst ha
              rw [if_neg (by omega), add_plain]
              refine ⟨by rw [Nat.add_assoc], ?_⟩
              have : l * z + (cap - l) * z = cap * z := by rw [← Nat.add_mul]; congr 1; omega
              omega
        · cases h
      · cases h
    · rename_i r i j hte
      split at h
      · rename_i N e k rows hta hη
        have hu := tarr_run hta
        split at h
        · rename_i z hz
          have hs := tsize_run hz w
          split at h
          · rename_i hN
            split at h
            · rename_i l hh hb
              cases h
              cases hx with
              | ptr _ _ _ p hr =>
                obtain ⟨r1, r2, r3⟩ := bnd false N N l hh (Nat.le_refl _) hb
                obtain ⟨p', g1, g2⟩ := hst.obj r _ hη
                rw [hr] at g1; cases g1
                have e1 : p.k = k := g2.1
                refine ⟨.slice (some (if N = l then ⟨p.b, p.s + i * p.k + j, none⟩ else Addr.add ⟨p.b, p.s + i * p.k + j, none⟩ (l * z))) (hh - l) (N - l), ?_, .arr r i (j + l * z) (hh - l) z p _ (N - l) hr (by omega) (by omega) fun h0 => ?_⟩
                · unfold Instr.sliceAt underlying Instr.sureAddr
                  simp only [Sem.run_bind, run_program, Result.andThen_ok, hu, Sem.run_pure, r1, hs]
                · rw [if_neg (by omega), add_plain]
                  refine ⟨by rw [Nat.add_assoc], ?_⟩
                  have : l * z + (N - l) * z = N * z := by rw [← Nat.add_mul]; congr 1; omega
                  omega
            · cases h
          · cases h
        · cases h
      · cases h
    · rename_i s hte
      split at h
      · rename_i hu
        split at h
        · rename_i l hh hb
          cases h
          cases hx
          obtain ⟨r1, _, _⟩ := bnd false s.size s.size l hh (by omega) hb
          refine ⟨_, ?_, .str _⟩
          unfold Instr.sliceAt underlying
          simp only [Sem.run_bind, run_program, Result.andThen_ok, hu, Sem.run_pure]
          unfold Instr.slice underlying
          simp only [Sem.run_bind, run_program, Result.andThen_ok, hu, Sem.run_pure, Option.isSome_none, Bool.false_eq_true, if_false, r1]
        · cases h
      · cases h
    · cases h

theorem vr_cells {c : AVal} {v : Value} (h : VR own M c v) (hs : (acells c).all AVal.sc = true) : v.cells.size = (acells c).length ∧ ∀ (i : Nat) d, (acells c)[i]? = some d → VR own M d (v.cells.getD i undef) := by
  have one : c.sc = true → acells c = [c] → v.cells = #[v] → v.cells.size = (acells c).length ∧ ∀ (i : Nat) d, (acells c)[i]? = some d → VR own M d (v.cells.getD i undef) := fun _ e1 e2 => by
    rw [e1, e2]
    refine ⟨rfl, fun i d hi => ?_⟩
    cases i with
    | zero => simp at hi; subst hi; simpa using h
    | succ i => simp at hi
  cases h with
  | undef v => simp [acells, AVal.sc] at hs
  | agg cs A hA hsc hc => exact ⟨hA, hc⟩
  | tup => simp [acells, AVal.sc] at hs
  | arr r i j n z p a cap h1 hn hm hc => exact one rfl rfl rfl
  | _ => exact one rfl rfl rfl

theorem fold_set (off : Nat) : ∀ (l : List Value) (k : Nat) (A : Array Value), ((l.zipIdx k).foldl (fun cs p => cs.setIfInBounds (off + p.2) p.1) A).size = A.size ∧
    (off + k + l.length ≤ A.size → ∀ q, ((l.zipIdx k).foldl (fun cs p => cs.setIfInBounds (off + p.2) p.1) A).getD q undef = if off + k ≤ q ∧ q < off + k + l.length then l.getD (q - (off + k)) undef else A.getD q undef)
  | [], k, A => ⟨rfl, fun _ q => by simp; intro h1 h2; omega⟩
  | v :: l, k, A => by
    obtain ⟨h1, h2⟩ := fold_set off l (k + 1) (A.setIfInBounds (off + k) v)
    simp only [List.zipIdx_cons, List.foldl_cons]
    refine ⟨by rw [h1]; simp, fun hle q => ?_⟩
    simp only [List.length_cons] at hle
    rw [h2 (by simp; omega) q]
    by_cases hq : off + (k + 1) ≤ q ∧ q < off + (k + 1) + l.length
    · rw [if_pos hq, if_pos (by simp; omega)]
      have : q - (off + k) = (q - (off + (k + 1))) + 1 := by omega
      rw [this]; simp
    · rw [if_neg hq]
      by_cases hqk : q = off + k
      · subst hqk
        rw [if_pos (by simp)]
        have : off + k < A.size := by omega
        simp [Array.getD_eq_getD_getElem?, this]
      · rw [if_neg (by simp; omega)]
        rw [Array.getD_eq_getD_getElem?, Array.getD_eq_getD_getElem?, Array.getElem?_setIfInBounds, if_neg (by omega)]

theorem fill_sound {place : Nat → Option (Nat × Nat)} : ∀ (parts : List (Nat × AVal)) (vals : List (Nat × Value)) (cs : List AVal) (A : Array Value) (out : List AVal),
    afillP place cs (parts.map fun p => (p.1, acells p.2)) = some out → vals.length = parts.length → (∀ (i : Nat) p q, parts[i]? = some p → vals[i]? = some q → q.1 = p.1 ∧ VR own M p.2 q.2) →
    A.size = cs.length → (∀ c ∈ cs, c.sc = true) → (∀ (i : Nat) c, cs[i]? = some c → VR own M c (A.getD i undef)) →
    ∃ B : Array Value, Instr.fill place A vals = some B ∧ B.size = out.length ∧ (∀ c ∈ out, c.sc = true) ∧ ∀ (i : Nat) c, out[i]? = some c → VR own M c (B.getD i undef)
  | [], [], cs, A, out, h, _, _, hA, hs, hc => by
    simp only [List.map_nil, afillP, Option.some.injEq] at h
    subst h
    exact ⟨A, rfl, hA, hs, hc⟩
  | [], _ :: _, _, _, _, _, hl, _, _, _, _ => by simp at hl
  | _ :: _, [], _, _, _, _, hl, _, _, _, _ => by simp at hl
  | (i, c) :: parts, (i', v) :: vals, cs, A, out, h, hl, hv, hA, hs, hc => by
    obtain ⟨e1, hcv⟩ := hv 0 _ _ rfl rfl
    simp only at e1 hcv
    subst e1
    simp only [List.map_cons, afillP] at h
    split at h
    · rename_i o z hp
      split at h
      · rename_i hh
        obtain ⟨h1, h2, h3⟩ := hh
        obtain ⟨g1, g2⟩ := vr_cells hcv h3
        obtain ⟨f1, f2⟩ := fold_set o v.cells.toList 0 A
        have hsz : v.cells.zipIdx.foldl (fun cs p => cs.setIfInBounds (o + p.2) p.1) A = (v.cells.toList.zipIdx 0).foldl (fun cs p => cs.setIfInBounds (o + p.2) p.1) A := by
          rw [← Array.foldl_toList, Array.toList_zipIdx]
        have f2 := f2 (by simp; omega)
        have key := fill_sound parts vals (cs.take o ++ acells c ++ cs.drop (o + (acells c).length)) ((v.cells.toList.zipIdx 0).foldl (fun cs p => cs.setIfInBounds (o + p.2) p.1) A) out h (by simpa using hl)
          (fun j p q hj hq => hv (j + 1) p q (by simpa using hj) (by simpa using hq)) (by rw [f1]; simp; omega) (fun d hd => by
            rw [List.mem_append, List.mem_append] at hd
            rcases hd with (hd | hd) | hd
            · exact hs d (List.mem_of_mem_take hd)
            · exact List.all_eq_true.1 h3 d hd
            · exact hs d (List.mem_of_mem_drop hd)) (fun q d hq => by
            rw [f2 q]
            rcases Nat.lt_or_ge q o with k1 | k1
            · rw [if_neg (by omega)]
              rw [List.append_assoc, List.getElem?_append_left (by simp; omega), List.getElem?_take, if_pos k1] at hq
              exact hc q d hq
            · rcases Nat.lt_or_ge q (o + (acells c).length) with k2 | k2
              · rw [if_pos (by simp; omega)]
                rw [List.append_assoc, List.getElem?_append_right (by simp; omega), List.getElem?_append_left (by simp; omega)] at hq
                have e : q - (List.take o cs).length = q - o := by simp; omega
                rw [e] at hq
                have := g2 _ _ hq
                have e2 : v.cells.toList.getD (q - (o + 0)) undef = v.cells.getD (q - o) undef := by simp [Array.getD_eq_getD_getElem?]
                rw [e2]; exact this
              · rw [if_neg (by simp; omega)]
                rw [List.getElem?_append_right (by simp; omega), List.getElem?_drop] at hq
                refine hc q d ?_
                rw [← hq]; congr 1; simp; omega)
        obtain ⟨B, k1, k2, k3, k4⟩ := key
        refine ⟨B, ?_, k2, k3, k4⟩
        unfold Instr.fill
        simp only [hp]
        rw [if_neg (by simp; omega), hsz]
        exact k1
      · cases h
    · cases h
end
end Go.Proofs.Ytkhoelmbcmkhjaa
