/- Abstract Go, 19: rows that nobody writes any more are seen as read only; values seen as less. -/
import Derived.Test.YtkhoelmbcmkhjaaAi
namespace Go.Proofs.Ytkhoelmbcmkhjaa

def memOf (w : World) : Mem := fun b => match w.heap[b]? with
  | some (.cells arr _ _) => some arr
  | _ => none
theorem memOf_some {w : World} {b : Nat} {arr : Array Value} (h : memOf w b = some arr) : ∃ T z, w.heap[b]? = some (.cells arr T z) := by
  unfold memOf at h
  split at h
  · rename_i a T z hb; cases h; exact ⟨T, z, hb⟩
  · cases h

/-- a value with the rows of F as read only -/
def frz (F : Nat → Bool) (η : AHeap) : Nat → AVal → AVal
  | 0, c => c
  | f + 1, .sl r o m => match η r with
    | some (.cells k rows) => if F r = true ∧ o + m ≤ rows.length ∧ m ≤ lenMax then .rs k (((rows.drop o).take m).map fun row => row.map (frz F η f)) else .sl r o m
    | _ => .sl r o m
  | f + 1, .agg cs => .agg (cs.map (frz F η f))
  | f + 1, .tup cs => .tup (cs.map (frz F η f))
  | _ + 1, c => c
def objMap (φ : AVal → AVal) : AObj → AObj
  | .cells k rows => .cells k (rows.map fun row => row.map φ)
  | .map es => .map (es.map fun e => (e.1, φ e.2))
/-- the heap without them; the objects of G hold them as read only, too -/
def frzH (F : Nat → Bool) (G : List Nat) (f : Nat) (η : AHeap) : AHeap := fun x => if F x = true then none else if G.contains x = true then (η x).map (objMap (frz F η f)) else η x

theorem frz_sc (F : Nat → Bool) (η : AHeap) : ∀ (f : Nat) (c : AVal), (frz F η f c).sc = c.sc
  | 0, c => rfl
  | f + 1, c => by
    cases c <;> simp only [frz] <;> try rfl
    split
    · split <;> rfl
    · rfl

section
variable {P : Program} {own : Own} {M : Mem} {η : AHeap} {n : Nat} {w : World}
open Classical in
noncomputable def frzM (own : Own) (M : Mem) (F : Nat → Bool) (η : AHeap) (w : World) : Mem := fun b => match M b with
  | some a => some a
  | none => if ∃ r p k rows, F r = true ∧ η r = some (.cells k rows) ∧ own r = some p ∧ p.s < p.e ∧ p.b = b then memOf w b else none
theorem frzM_le (F : Nat → Bool) : M.le (frzM own M F η w) := fun b a h => by unfold frzM; rw [h]
theorem frzM_or {F : Nat → Bool} {b : Nat} (h : frzM own M F η w b ≠ none) : M b ≠ none ∨ OB own η b := by
  unfold frzM at h
  cases hM : M b with
  | some a => exact Or.inl (by simp)
  | none =>
    simp only [hM] at h
    split at h
    · rename_i hh
      obtain ⟨r, p, k, rows, _, h2, h3, h4, h5⟩ := hh
      exact Or.inr ⟨r, p, _, h2, h3, h4, h5⟩
    · exact absurd rfl h
theorem frzM_of {F : Nat → Bool} {r k : Nat} {rows : List (List AVal)} {p : Spot} {arr : Array Value} {T : TypeId} {z : Nat × Nat} (hM : M p.b = none) (hF : F r = true) (hη : η r = some (.cells k rows)) (hp : own r = some p) (hs : p.s < p.e) (hb : w.heap[p.b]? = some (.cells arr T z)) : frzM own M F η w p.b = some arr := by
  unfold frzM
  simp only [hM]
  rw [if_pos ⟨r, p, k, rows, hF, hη, hp, hs, rfl⟩]
  unfold memOf; rw [hb]

theorem frz_sound (hst : St own M η n w) (F : Nat → Bool) : ∀ (f : Nat) (c : AVal) (v : Value), VR own M c v → VR own (frzM own M F η w) (frz F η f c) v
  | 0, c, v, h => h.mono (Own.le_refl _) (frzM_le F)
  | f + 1, c, v, h => by
    have base : VR own (frzM own M F η w) c v := h.mono (Own.le_refl _) (frzM_le F)
    cases c <;> simp only [frz] <;> try exact base
    case sl r o m =>
      split
      · rename_i k rows hη
        split
        · rename_i hh
          obtain ⟨hF, hom, hm⟩ := hh
          obtain ⟨p, g1, g2⟩ := hst.obj r _ hη
          obtain ⟨e1, hk, hrows, hle, hreal, hcell⟩ := g2
          cases h with
          | sl _ _ _ p' a cap hr hn hmx hc =>
          rw [g1] at hr; cases hr
          have hlen : (((rows.drop o).take m).map fun row => row.map (frz F η f)).length = m := by simp; omega
          have hget : ∀ i row, (((rows.drop o).take m).map fun row => row.map (frz F η f))[i]? = some row → ∃ row0, rows[o + i]? = some row0 ∧ row = row0.map (frz F η f) ∧ i < m := fun i row hi => by
            have hil := (List.getElem?_eq_some_iff.1 hi).1
            rw [hlen] at hil
            rw [List.getElem?_map, List.getElem?_take, if_pos hil, List.getElem?_drop] at hi
            cases hx : rows[o + i]? with
            | none => rw [hx] at hi; simp at hi
            | some row0 => rw [hx] at hi; simp at hi; exact ⟨row0, rfl, hi.symm, hil⟩
          have hre : 0 < m → p.s < p.e := fun h0 => by
            have : 1 * k ≤ rows.length * k := Nat.mul_le_mul_right k (by omega)
            omega
          have key : ∀ arr, (0 < m → M p.b = none ∧ ∃ T, w.heap[p.b]? = some (.cells arr T (0, 0)) ∧ p.e ≤ arr.size) → VR own (frzM own M F η w) (.rs k (((rows.drop o).take m).map fun row => row.map (frz F η f))) (.slice a m cap) := fun arr harr => by
            have cellAt : ∀ (i j : Nat) (row : List AVal) (c : AVal), (((rows.drop o).take m).map fun row => row.map (frz F η f))[i]? = some row → row[j]? = some c → p.s + o * k + i * k + j < arr.size ∧ VR own (frzM own M F η w) c (arr.getD (p.s + o * k + i * k + j) Go.undef) := fun i j row c hi hj => by
              obtain ⟨row0, h1, rfl, hil⟩ := hget i row hi
              obtain ⟨hM, T, hb, hsz⟩ := harr (by omega)
              rw [List.getElem?_map] at hj
              cases hx : row0[j]? with
              | none => rw [hx] at hj; simp at hj
              | some c0 =>
                rw [hx] at hj; simp at hj; subst hj
                obtain ⟨u, k1, k2⟩ := hcell (o + i) j row0 c0 h1 hx
                have hjl := (List.getElem?_eq_some_iff.1 hx).1
                have hrl := hrows row0 (List.mem_of_getElem? h1)
                have hle2 : (o + i + 1) * k ≤ rows.length * k := Nat.mul_le_mul_right k (by have := (List.getElem?_eq_some_iff.1 h1).1; omega)
                rw [Nat.add_mul, Nat.add_mul] at hle2
                have e2 : p.s + (o + i) * k + j = p.s + o * k + i * k + j := by rw [Nat.add_mul]; omega
                rw [e2] at k1
                have hlt : p.s + o * k + i * k + j < arr.size := by omega
                refine ⟨hlt, ?_⟩
                rw [World.cell?, hb] at k1
                simp at k1
                rw [Array.getD_eq_getD_getElem?, k1]
                exact frz_sound hst F f c0 u k2
            have := VR.rs (own := own) (M := frzM own M F η w) k (((rows.drop o).take m).map fun row => row.map (frz F η f)) a cap p.b (p.s + o * k) arr (by rw [hlen]; exact hn) hmx (by rw [hlen]; exact hm)
              (fun h0 => by rw [hlen] at h0; rw [(hc (by omega)).1, e1]) (fun h0 => by
                rw [hlen] at h0
                obtain ⟨hM, T, hb, _⟩ := harr h0
                exact frzM_of hM hF hη g1 (hre h0) hb) (fun i row hi => by
                obtain ⟨row0, h1, rfl, _⟩ := hget i row hi
                rw [List.length_map]; exact hrows row0 (List.mem_of_getElem? h1)) (fun i j row c hi hj => (cellAt i j row c hi hj).1) (fun i j row c hi hj => (cellAt i j row c hi hj).2)
            rwa [hlen] at this
          by_cases h0 : 0 < m
          · obtain ⟨hM, arr, T, hb, hsz⟩ := hreal (hre h0)
            exact key arr fun _ => ⟨hM, T, hb, hsz⟩
          · exact key #[] fun h => absurd h h0
        · exact base
      · exact base
    case agg cs =>
      cases h with
      | agg _ A hA hs hc =>
      refine .agg _ A (by simpa using hA) (fun c hc' => ?_) fun i c hi => ?_
      · obtain ⟨c0, h1, rfl⟩ := List.mem_map.1 hc'
        rw [frz_sc]; exact hs c0 h1
      · rw [List.getElem?_map] at hi
        cases hx : cs[i]? with
        | none => rw [hx] at hi; simp at hi
        | some c0 => rw [hx] at hi; simp at hi; subst hi; exact frz_sound hst F f c0 _ (hc i c0 hx)
    case tup cs =>
      cases h with
      | tup _ A hA hc =>
      refine .tup _ A (by simpa using hA) fun i c hi => ?_
      rw [List.getElem?_map] at hi
      cases hx : cs[i]? with
      | none => rw [hx] at hi; simp at hi
      | some c0 => rw [hx] at hi; simp at hi; subst hi; exact frz_sound hst F f c0 _ (hc i c0 hx)

theorem frzH_some {F : Nat → Bool} {G : List Nat} {f x : Nat} {o : AObj} (h : frzH F G f η x = some o) : F x = false ∧ ∃ o0, η x = some o0 ∧ (o = o0 ∨ o = objMap (frz F η f) o0) := by
  unfold frzH at h
  split at h
  · cases h
  · rename_i hF
    refine ⟨by simpa using hF, ?_⟩
    split at h
    · cases hx : η x with
      | none => rw [hx] at h; cases h
      | some o0 => rw [hx] at h; cases h; exact ⟨o0, rfl, Or.inr rfl⟩
    · exact ⟨o, h, Or.inl rfl⟩
theorem frzH_st (hst : St own M η n w) (F : Nat → Bool) (G : List Nat) (f : Nat) : St own (frzM own M F η w) (frzH F G f η) n w := by
  refine ⟨hst.fresh, fun r o hr => ?_, fun r r' p p' o o' hne hr hr' => ?_, fun b arr h => ?_⟩
  · obtain ⟨hF, o0, h1, h2⟩ := frzH_some hr
    obtain ⟨p, g1, g2⟩ := hst.obj r o0 h1
    refine ⟨p, g1, ?_⟩
    have hno : p.s < p.e → frzM own M F η w p.b = none := fun hs => by
      unfold frzM
      rw [g2.noMem hs]
      simp only
      rw [if_neg]
      rintro ⟨r', p', k, rows, hF', hη', hp', hs', hb⟩
      have hne : r ≠ r' := fun e => by subst e; rw [hF] at hF'; cases hF'
      exact hst.inj r r' p p' o0 _ hne h1 hη' g1 hp' hs hs' hb.symm
    have g3 : OR own (frzM own M F η w) w p o0 := g2.keep (Own.le_refl _) (frzM_le F) (fun _ => rfl) hno
    rcases h2 with rfl | rfl
    · exact g3
    · cases o0 with
      | cells k rows =>
        obtain ⟨a1, a2, a3, a4, a5, a6⟩ := g3
        obtain ⟨_, _, _, _, _, b6⟩ := g2
        refine ⟨a1, a2, fun row hr => ?_, by simpa using a4, a5, fun i j row c hi hj => ?_⟩
        · obtain ⟨row0, h3, rfl⟩ := List.mem_map.1 hr
          rw [List.length_map]; exact a3 row0 h3
        · rw [List.getElem?_map] at hi
          cases hx : rows[i]? with
          | none => rw [hx] at hi; simp at hi
          | some row0 =>
            rw [hx] at hi; simp at hi; subst hi
            rw [List.getElem?_map] at hj
            cases hy : row0[j]? with
            | none => rw [hy] at hj; simp at hj
            | some c0 =>
              rw [hy] at hj; simp at hj; subst hj
              obtain ⟨v, k1, k2⟩ := b6 i j row0 c0 hx hy
              exact ⟨v, k1, frz_sound hst F f c0 v k2⟩
      | map es =>
        obtain ⟨a1, a2, E, clk, a3, a4, a5, a6⟩ := g3
        obtain ⟨_, _, E', clk', b3, b4, _, b6⟩ := g2
        rw [a3] at b3; cases b3
        refine ⟨a1, a2, E, clk, a3, by simpa using a4, a5, fun i e x hi hx => ?_⟩
        rw [List.getElem?_map] at hi
        cases hy : es[i]? with
        | none => rw [hy] at hi; simp at hi
        | some e0 =>
          rw [hy] at hi; simp at hi; subst hi
          exact ⟨(a6 i e0 x hy hx).1, frz_sound hst F f e0.2 _ (b6 i e0 x hy hx).2⟩
  · obtain ⟨_, o0, h1, _⟩ := frzH_some hr
    obtain ⟨_, o1, h2, _⟩ := frzH_some hr'
    exact hst.inj r r' p p' o0 o1 hne h1 h2
  · unfold frzM at h
    cases hM : M b with
    | some a => rw [hM] at h; cases h; exact hst.mem b arr hM
    | none =>
      rw [hM] at h
      simp only at h
      split at h
      · exact memOf_some h
      · cases h
theorem frzH_ob {F : Nat → Bool} {G : List Nat} {f b : Nat} (h : OB own (frzH F G f η) b) : OB own η b := by
  obtain ⟨r, p, o, h1, h2⟩ := h
  obtain ⟨_, o0, h3, _⟩ := frzH_some h1
  exact ⟨r, p, o0, h3, h2⟩

/-- ahead of a call -/
theorem AC.freezeP (F : Nat → Bool) (G : List Nat) (fu : Nat) {f : FuncId} {args : List AVal} {K : AVal → AHeap → Nat → Prop} (h : AC P f (args.map (frz F η fu)) (frzH F G fu η) n K) : AC P f args η n K := by
  intro own M w vals h1 h2 h3
  refine (h own (frzM own M F η w) w vals (frzH_st h1 F G fu) (by simpa using h2) fun i c hi => ?_).mono ?_
  · rw [List.getElem?_map] at hi
    cases hx : args[i]? with
    | none => rw [hx] at hi; simp at hi
    | some c0 => rw [hx] at hi; simp at hi; subst hi; exact frz_sound h1 F fu c0 _ (h3 i c0 hx)
  · rintro e w' ⟨u, rfl, v, η', n', own', M', hK, a1, a2, a3, a4, a5, a6, a7⟩
    exact ⟨u, rfl, v, η', n', own', M', hK, a1, a2, a3, a4, Mem.le_trans (frzM_le F) a5, a6.weaken fun b hb => frzH_ob hb, fun b hb => (a7.1 b hb).imp frzH_ob _root_.id, fun b hb => (a7.2 b hb).elim (fun h => (frzM_or h).imp _root_.id Or.inl) fun h => Or.inr (h.imp frzH_ob _root_.id)⟩
theorem AC.freeze (F G : List Nat) (fu : Nat) {f : FuncId} {args : List AVal} {K : AVal → AHeap → Nat → Prop} (h : AC P f (args.map (frz (F.contains ·) η fu)) (frzH (F.contains ·) G fu η) n K) : AC P f args η n K := AC.freezeP _ G fu h
theorem ACK.freeze (F G : List Nat) (fu : Nat) {f : FuncId} {args : List AVal} {K : AVal → AHeap → Nat → Prop} {g : Tag K} (h : ACK P f (args.map (frz (F.contains ·) η fu)) (frzH (F.contains ·) G fu η) n K g) : ACK P f args η n K g := AC.freeze F G fu h
/-- behind a call -/
theorem AC.freezeR {f : FuncId} {args : List AVal} {K : AVal → AHeap → Nat → Prop} (h : AC P f args η n fun v η' n' => ∃ F G fu, K (frz F η' fu v) (frzH F G fu η') n') : AC P f args η n K := by
  intro own M w vals h1 h2 h3
  refine (h own M w vals h1 h2 h3).mono ?_
  rintro e w' ⟨u, rfl, v, η', n', own', M', ⟨F, G, fu, hK⟩, a1, a2, a3, a4, a5, a6, a7⟩
  exact ⟨u, rfl, _, _, n', own', _, hK, a1, frzH_st a2 F G fu, frz_sound a2 F fu v u a3, a4, Mem.le_trans a5 (frzM_le F), a6, fun b hb => a7.1 b (frzH_ob hb), fun b hb => (frzM_or hb).elim (a7.2 b) fun h => Or.inr (a7.1 b h)⟩
end

theorem cpyK.own {P : Program} {t t2 e e2 : TypeId} {r o m z : Nat} {y : AVal} {η : AHeap} {n : Nat} {K : AVal → AHeap → Nat → Prop} {g : Tag K} {news rows : List (List AVal)} (h1 : telem P t = some e) (h2 : tsize P e = some z) (h3 : P.underlying t2 = some (.slice e2)) (h4 : 0 < z)
    (h5 : arows z y η = some news) (h6 : ∀ r ∈ news, ∀ c ∈ r, c.sc = true) (h7 : η r = some (.cells z rows)) (h8 : o + m ≤ rows.length) (hK : K (.int .i64 (min news.length m : Nat)) (upd η r (some (.cells z (rows.take o ++ news.take (min news.length m) ++ rows.drop (o + min news.length m))))) n) :
    cpyK P t t2 (.sl r o m) y η n K g := by
  unfold cpyK acopy
  simp only [h1, h2, h3, h5, h7]
  exact ⟨h4, h6, trivial, h8, hK⟩

/-! ### Values seen as less -/
def Ent (c c' : AVal) : Prop := ∀ own M v, VR own M c v → VR own M c' v
def EntL : List AVal → List AVal → Prop
  | [], [] => True
  | c :: cs, d :: ds => Ent c d ∧ EntL cs ds
  | _, _ => False
def EntR : List (List AVal) → List (List AVal) → Prop
  | [], [] => True
  | c :: cs, d :: ds => EntL c d ∧ EntR cs ds
  | _, _ => False
@[simp] theorem Ent.refl (c : AVal) : Ent c c := fun _ _ _ h => h
@[simp] theorem Ent.undef (c : AVal) : Ent c .undef := fun _ _ _ _ => .undef _
@[simp] theorem Ent.nils (k : Nat) : Ent .nils (.rs k []) := fun own M v h => by
  cases h
  exact .rs k [] none 0 0 0 #[] (by simp) (by omega) (by simp) (fun h => absurd h (by simp)) (fun h => absurd h (by simp)) (fun i row h => by simp at h) (fun i j row c h => by simp at h) (fun i j row c h => by simp at h)
@[simp] theorem EntL.nil : EntL [] [] = True := rfl
@[simp] theorem EntL.cons (c d : AVal) (cs ds : List AVal) : EntL (c :: cs) (d :: ds) = (Ent c d ∧ EntL cs ds) := rfl
@[simp] theorem EntR.nil : EntR [] [] = True := rfl
@[simp] theorem EntR.cons (c d : List AVal) (cs ds : List (List AVal)) : EntR (c :: cs) (d :: ds) = (EntL c d ∧ EntR cs ds) := rfl
theorem EntL.len : ∀ {cs ds : List AVal}, EntL cs ds → cs.length = ds.length
  | [], [], _ => rfl
  | c :: cs, d :: ds, h => by simp [EntL.len h.2]
theorem EntL.get : ∀ {cs ds : List AVal}, EntL cs ds → ∀ (i : Nat) d, ds[i]? = some d → ∃ c, cs[i]? = some c ∧ Ent c d
  | [], [], _, i, d, h => by simp at h
  | c :: cs, d0 :: ds, h, 0, d, hd => by simp at hd; subst hd; exact ⟨c, rfl, h.1⟩
  | c :: cs, d0 :: ds, h, i + 1, d, hd => by simpa using EntL.get h.2 i d (by simpa using hd)
theorem EntR.len : ∀ {cs ds : List (List AVal)}, EntR cs ds → cs.length = ds.length
  | [], [], _ => rfl
  | c :: cs, d :: ds, h => by simp [EntR.len h.2]
theorem EntR.get : ∀ {cs ds : List (List AVal)}, EntR cs ds → ∀ (i : Nat) d, ds[i]? = some d → ∃ c, cs[i]? = some c ∧ EntL c d
  | [], [], _, i, d, h => by simp at h
  | c :: cs, d0 :: ds, h, 0, d, hd => by simp at hd; subst hd; exact ⟨c, rfl, h.1⟩
  | c :: cs, d0 :: ds, h, i + 1, d, hd => by simpa using EntR.get h.2 i d (by simpa using hd)
theorem EntL.refl : ∀ cs, EntL cs cs
  | [] => trivial
  | c :: cs => ⟨Ent.refl c, EntL.refl cs⟩
theorem EntR.refl : ∀ cs, EntR cs cs
  | [] => trivial
  | c :: cs => ⟨EntL.refl c, EntR.refl cs⟩
theorem Ent.agg {cs ds : List AVal} (h : EntL cs ds) (hs : (ds.all AVal.sc) = true) : Ent (.agg cs) (.agg ds) := fun own M v hv => by
  cases hv with
  | agg _ A hA _ hc =>
  exact .agg _ A (by rw [hA, h.len]) (fun c hc => List.all_eq_true.1 hs c hc) fun i d hd => by
    obtain ⟨c, h1, h2⟩ := h.get i d hd
    exact h2 _ _ _ (hc i c h1)
theorem Ent.rs {k : Nat} {cs ds : List (List AVal)} (h : EntR cs ds) : Ent (.rs k cs) (.rs k ds) := fun own M v hv => by
  have hlen := h.len
  cases hv with
  | rs _ _ a cap b o arr hn hm hx ha hb hk hl hc =>
  rw [hlen]
  refine .rs k ds a cap b o arr (by rw [← hlen]; exact hn) hm (by rw [← hlen]; exact hx) (fun h0 => ha (by rw [hlen]; exact h0)) (fun h0 => hb (by rw [hlen]; exact h0)) (fun i row hi => ?_) (fun i j row d hi hj => ?_) (fun i j row d hi hj => ?_)
  · obtain ⟨c, h1, h2⟩ := h.get i row hi
    rw [← h2.len]; exact hk i c h1
  · obtain ⟨c, h1, h2⟩ := h.get i row hi
    obtain ⟨c', h3, _⟩ := h2.get j d hj
    exact hl i j c c' h1 h3
  · obtain ⟨c, h1, h2⟩ := h.get i row hi
    obtain ⟨c', h3, h4⟩ := h2.get j d hj
    exact h4 _ _ _ (hc i j c c' h1 h3)
theorem AC.args {P : Program} {η : AHeap} {n : Nat} {f : FuncId} {args args' : List AVal} {K : AVal → AHeap → Nat → Prop} (h : AC P f args' η n K) (he : EntL args args') : AC P f args η n K := by
  intro own M w vals h1 h2 h3
  exact h own M w vals h1 (by rw [h2, he.len]) fun i c hi => by
    obtain ⟨c0, g1, g2⟩ := he.get i c hi
    exact g2 _ _ _ (h3 i c0 g1)
/-- an object's cells seen as less -/
theorem EntR.rows {cs ds : List (List AVal)} {k : Nat} (h : EntR cs ds) (hk : ∀ row ∈ cs, row.length = k) : ∀ row ∈ ds, row.length = k := fun row hr => by
  obtain ⟨i, hi⟩ := List.mem_iff_getElem?.1 hr
  obtain ⟨c, h1, h2⟩ := h.get i row hi
  rw [← h2.len]; exact hk c (List.mem_of_getElem? h1)
theorem AC.weak {P : Program} {η : AHeap} {n : Nat} {f : FuncId} {args : List AVal} {K : AVal → AHeap → Nat → Prop} {r k : Nat} {rows rows' : List (List AVal)} (hη : η r = some (.cells k rows)) (he : EntR rows rows') (h : AC P f args (upd η r (some (.cells k rows'))) n K) : AC P f args η n K := by
  intro own M w vals h1 h2 h3
  have hst : St own M (upd η r (some (.cells k rows'))) n w := by
    obtain ⟨p, g1, g2⟩ := h1.obj r _ hη
    refine ⟨h1.fresh, fun x o hx => ?_, fun x x' q q' o o' hne hx hx' => ?_, h1.mem⟩
    · by_cases e : x = r
      · subst e
        rw [upd_eq] at hx; cases hx
        obtain ⟨a1, a2, a3, a4, a5, a6⟩ := g2
        refine ⟨p, g1, a1, a2, he.rows a3, by rw [← he.len]; exact a4, a5, fun i j row c hi hj => ?_⟩
        obtain ⟨row0, b1, b2⟩ := he.get i row hi
        obtain ⟨c0, b3, b4⟩ := b2.get j c hj
        obtain ⟨v, b5, b6⟩ := a6 i j row0 c0 b1 b3
        exact ⟨v, b5, b4 _ _ _ b6⟩
      · rw [upd_ne e] at hx; exact h1.obj x o hx
    · have old : ∀ x o, upd η r (some (.cells k rows')) x = some o → ∃ o0, η x = some o0 := fun x o hx => by
        by_cases e : x = r
        · subst e; exact ⟨_, hη⟩
        · rw [upd_ne e] at hx; exact ⟨o, hx⟩
      obtain ⟨o0, y0⟩ := old x o hx
      obtain ⟨o1, y1⟩ := old x' o' hx'
      exact h1.inj x x' q q' o0 o1 hne y0 y1
  have hob : ∀ b, OB own (upd η r (some (.cells k rows'))) b → OB own η b := fun b hb => OB.turn hη hb
  refine (h own M w vals hst h2 h3).mono ?_
  rintro e w' ⟨u, rfl, v, η', n', own', M', hK, a1, a2, a3, a4, a5, a6, a7⟩
  exact ⟨u, rfl, v, η', n', own', M', hK, a1, a2, a3, a4, a5, a6.weaken hob, fun b hb => (a7.1 b hb).imp (hob b) _root_.id, fun b hb => (a7.2 b hb).imp _root_.id fun h => h.imp (hob b) _root_.id⟩
/-! ### What a function hands back, with all that it made as read only: then no number has been used -/
inductive NQ (η : AHeap) : AVal → Prop
  | undef : NQ η .undef
  | int (k : IntKind) (n : Int) : NQ η (.int k n)
  | bool (b : Bool) : NQ η (.bool b)
  | str (s : ByteArray) : NQ η (.str s)
  | nilp : NQ η .nilp
  | nils : NQ η .nils
  | e0 : NQ η .e0
  | nilf : NQ η .nilf
  | nilm : NQ η .nilm
  | ptr (r i j : Nat) (h : η r ≠ none) : NQ η (.ptr r i j)
  | sl (r o n : Nat) (h : η r ≠ none) : NQ η (.sl r o n)
  | mp (r : Nat) (h : η r ≠ none) : NQ η (.mp r)
  | arr (r i j n z : Nat) (h : η r ≠ none) : NQ η (.arr r i j n z)
  | ro (cs : List AVal) (j : Nat) (h : ∀ c ∈ cs, NQ η c) : NQ η (.ro cs j)
  | rs (k : Nat) (rows : List (List AVal)) (h : ∀ row ∈ rows, ∀ c ∈ row, NQ η c) : NQ η (.rs k rows)
  | func (f : FuncId) (a b : List AVal) (h : ∀ c ∈ a, NQ η c) (h' : ∀ c ∈ b, NQ η c) : NQ η (.func f a b)
  | agg (cs : List AVal) (h : ∀ c ∈ cs, NQ η c) : NQ η (.agg cs)
  | tup (cs : List AVal) (h : ∀ c ∈ cs, NQ η c) : NQ η (.tup cs)
theorem VR.backQ {own own' : Own} {M' : Mem} {η : AHeap} (hle : own.le own') (hη : ∀ r, η r ≠ none → ∃ p, own r = some p) {c : AVal} {v : Value} (h : VR own' M' c v) (hc : NQ η c) : VR own M' c v := by
  have key : ∀ r p, own' r = some p → η r ≠ none → own r = some p := fun r p h1 h2 => by
    obtain ⟨q, hq⟩ := hη r h2
    have := hle _ _ hq
    rw [h1] at this; cases this; exact hq
  induction h with
  | undef v => exact .undef v
  | int k n => exact .int k n
  | bool b => exact .bool b
  | str s => exact .str s
  | nilp => exact .nilp
  | ptr r i j p h => cases hc with | ptr _ _ _ h' => exact .ptr r i j p (key r p h h')
  | ro cs j b o arr hb hl _ ih => cases hc with | ro _ _ h => exact .ro cs j b o arr hb hl fun i c hi => ih i c hi (h c (List.mem_of_getElem? hi))
  | nils => exact .nils
  | e0 a => exact .e0 a
  | sl r o n p a cap h hn hm hcc => cases hc with | sl _ _ _ h' => exact .sl r o n p a cap (key r p h h') hn hm hcc
  | rs k rows a cap b o arr hn hm hx ha hb hk hl _ ih => cases hc with | rs _ _ h => exact .rs k rows a cap b o arr hn hm hx ha hb hk hl fun i j row c hi hj => ih i j row c hi hj (h row (List.mem_of_getElem? hi) c (List.mem_of_getElem? hj))
  | func f fs cs F C hF hC _ _ ih1 ih2 => cases hc with | func _ _ _ h h' => exact .func f fs cs F C hF hC (fun i c hi => ih1 i c hi (h c (List.mem_of_getElem? hi))) (fun i c hi => ih2 i c hi (h' c (List.mem_of_getElem? hi)))
  | nilf => exact .nilf
  | nilm => exact .nilm
  | mp r p h => cases hc with | mp _ h' => exact .mp r p (key r p h h')
  | agg cs A hA hs _ ih => cases hc with | agg _ h => exact .agg cs A hA hs fun i c hi => ih i c hi (h c (List.mem_of_getElem? hi))
  | tup cs A hA _ ih => cases hc with | tup _ h => exact .tup cs A hA fun i c hi => ih i c hi (h c (List.mem_of_getElem? hi))
  | arr r i j n z p a cap h hn hm hcc => cases hc with | arr _ _ _ _ _ h' => exact .arr r i j n z p a cap (key r p h h') hn hm hcc
/-- a value with all rows from n on as read only -/
def gnd (n : Nat) (η : AHeap) (fu : Nat) (v : AVal) : AVal := frz (fun r => decide (n ≤ r)) η fu v
theorem AC.ground {P : Program} {f : FuncId} {args : List AVal} {η : AHeap} {n : Nat} {R : AVal → Prop} (fu : Nat) (h : AC P f args η n fun v η' _ => (∀ r, r < n → η' r = η r) ∧ ∃ v', Ent (gnd n η' fu v) v' ∧ R v') (hR : ∀ v, R v → NQ η v) :
    AC P f args η n fun v η' n' => R v ∧ η' = η ∧ n' = n := by
  intro own M w vals hst h2 h3
  refine (h own M w vals hst h2 h3).mono ?_
  rintro e w' ⟨u, rfl, v, η', n', own', M', ⟨hk, v', he, hv⟩, a1, a2, a3, a4, a5, a6, a7⟩
  have s1 := frzH_st a2 (fun r => decide (n ≤ r)) [] fu
  have v1 := he _ _ _ (frz_sound a2 (fun r => decide (n ≤ r)) fu v u a3)
  have hown : ∀ r, η r ≠ none → ∃ p, own r = some p := fun r hr => by
    cases ho : η r with
    | none => exact absurd ho hr
    | some o => obtain ⟨p, g, _⟩ := hst.obj r o ho; exact ⟨p, g⟩
  refine ⟨u, rfl, v', η, n, own, _, ⟨hv, rfl, rfl⟩, Nat.le_refl _, ⟨hst.fresh, fun r o hr => ?_, hst.inj, s1.mem⟩, v1.backQ a4 hown (hR _ hv), Own.le_refl _, Mem.le_trans a5 (frzM_le _), a6, fun b hb => Or.inl hb, fun b hb => (frzM_or hb).elim (a7.2 b) fun h => Or.inr (a7.1 b h)⟩
  obtain ⟨p, g1, g2⟩ := hst.obj r o hr
  have hlt := hst.lt hr
  have hr' : frzH (fun r => decide (n ≤ r)) [] fu η' r = some o := by
    unfold frzH
    rw [if_neg (by simp; omega), if_neg (by simp), hk r hlt]; exact hr
  obtain ⟨p', g3, g4⟩ := s1.obj r o hr'
  have := a4 _ _ g1
  rw [g3] at this; cases this
  exact ⟨_, g1, g4.back2 a4 g2⟩
@[simp] theorem gnd_int (n : Nat) (η : AHeap) (fu : Nat) (k : IntKind) (x : Int) : gnd n η fu (.int k x) = .int k x := by cases fu <;> rfl
@[simp] theorem gnd_bool (n : Nat) (η : AHeap) (fu : Nat) (x : Bool) : gnd n η fu (.bool x) = .bool x := by cases fu <;> rfl
@[simp] theorem gnd_nils (n : Nat) (η : AHeap) (fu : Nat) : gnd n η fu .nils = .nils := by cases fu <;> rfl
@[simp] theorem gnd_rs (n : Nat) (η : AHeap) (fu k : Nat) (rows : List (List AVal)) : gnd n η fu (.rs k rows) = .rs k rows := by cases fu <;> rfl
theorem gnd_tup (n : Nat) (η : AHeap) (fu : Nat) (l : List AVal) : gnd n η (fu + 1) (.tup l) = .tup (l.map (gnd n η fu)) := rfl
theorem gnd_agg (n : Nat) (η : AHeap) (fu : Nat) (l : List AVal) : gnd n η (fu + 1) (.agg l) = .agg (l.map (gnd n η fu)) := rfl
theorem gnd_old {n r o m : Nat} (η : AHeap) (fu : Nat) (h : r < n) : gnd n η fu (.sl r o m) = .sl r o m := by
  cases fu with
  | zero => rfl
  | succ fu =>
    simp only [gnd, frz]
    split
    · rw [if_neg]; simp; omega
    · rfl
theorem gnd_new {n r o m k : Nat} {η : AHeap} {fu : Nat} {rows : List (List AVal)} (h : n ≤ r) (hη : η r = some (.cells k rows)) (h1 : o + m ≤ rows.length) (h2 : m ≤ lenMax) : gnd n η (fu + 1) (.sl r o m) = .rs k (((rows.drop o).take m).map fun row => row.map (gnd n η fu)) := by
  simp only [gnd, frz, hη]
  rw [if_pos ⟨by simpa using h, h1, h2⟩]
  rfl
end Go.Proofs.Ytkhoelmbcmkhjaa
