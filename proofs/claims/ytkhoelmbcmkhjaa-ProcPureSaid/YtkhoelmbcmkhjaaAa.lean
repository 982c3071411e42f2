/- Abstract Go, 10: rows of operations, one behind the other. -/
import Derived.Test.YtkhoelmbcmkhjaaA9
namespace Go.Proofs.Ytkhoelmbcmkhjaa

section
variable (P : Program)
/-- one operation -/
def astep (o : Oper) (K : AState → Prop) (s : AState) : Prop :=
  match aval P o (aev s.fr) s.η with
  | some v => K (s.put o.dst v)
  | none => achg P o (aev s.fr) s.η s.n fun v η' n' => K ({ s with η := η', n := n' }.put o.dst v)
/-- its guard -/
def aguard (ops : Array Oper) (o : Oper) (s : AState) (yes no : Prop) : Prop :=
  match o.guard with
  | none => yes
  | some (j, b) => match (ops[j]?).bind (·.dst) with
    | some d => match s.fr d with
      | .bool t => ((t == b) = true → yes) ∧ ((t == b) = false → no)
      | .tup [] => no
      | _ => False
    | none => False
def aseq (ops : Array Oper) : List Oper → (AState → Prop) → AState → Prop
  | [], K, s => K s
  | o :: rest, K, s => aguard ops o s (astep P o (fun s' => aseq ops rest K s') s) (aseq ops rest K (s.put o.dst (.tup [])))
end

/-- where a function began -/
structure Kap where
  own : Own
  M : Mem
  w : World
  D : Nat → Prop
  n : Nat

structure Rel (κ : Kap) (s : AState) (a : Act) (w : World) (own : Own) (M : Mem) : Prop where
  st : St own M s.η s.n w
  fr : ∀ t, VR own M (s.fr t) (a.tmps.getD t undef)
  nt : a.tmps.size = s.nt
  df : a.defers = []
  le : κ.own.le own
  mle : κ.M.le M
  frm : Fr κ.D κ.w w
  ob : (∀ b, OB own s.η b → κ.D b ∨ κ.w.heap.size ≤ b) ∧ ∀ b, M b ≠ none → κ.M b ≠ none ∨ κ.D b ∨ κ.w.heap.size ≤ b
  n : κ.n ≤ s.n
def RelE (κ : Kap) (s : AState) (a : Act) (w : World) : Prop := ∃ own M, Rel κ s a w own M

theorem put_eval {s : AState} {a : Act} {own : Own} {M : Mem} {d : Option Tmp} {v : AVal} {u : Value} (h : ∀ t, VR own M (s.fr t) (a.tmps.getD t undef)) (hn : a.tmps.size = s.nt) (hv : VR own M v u) :
    (∀ t, VR own M ((s.put d v).fr t) ((a.put d u).tmps.getD t undef)) ∧ (a.put d u).tmps.size = (s.put d v).nt ∧ (a.put d u).defers = a.defers ∧ (s.put d v).η = s.η ∧ (s.put d v).n = s.n := by
  cases d with
  | none => exact ⟨h, hn, rfl, rfl, rfl⟩
  | some d =>
    unfold AState.put Act.put
    simp only
    by_cases hd : d < s.nt
    · rw [if_pos hd]
      refine ⟨fun t => ?_, by simpa using hn, by simp, rfl, rfl⟩
      by_cases ht : t = d
      · subst ht
        show VR own M (setf s.fr t v t) _
        rw [setf_eq]
        have : (a.tmps.setIfInBounds t u).getD t undef = u := by simp [Array.getD_eq_getD_getElem?, hn, hd]
        rw [this]; exact hv
      · show VR own M (setf s.fr d v t) _
        rw [setf_ne ht]
        have : (a.tmps.setIfInBounds d u).getD t undef = a.tmps.getD t undef := by
          rw [Array.getD_eq_getD_getElem?, Array.getD_eq_getD_getElem?, Array.getElem?_setIfInBounds, if_neg (by omega)]
        rw [this]; exact h t
    · rw [if_neg hd]
      refine ⟨fun t => ?_, by simpa using hn, by simp, rfl, rfl⟩
      have : a.tmps.setIfInBounds d u = a.tmps := by
        have hd' : s.nt ≤ d := Nat.le_of_not_lt hd
        rw [Array.setIfInBounds_eq_of_size_le]; omega
      rw [this]; exact h t

section
variable {P : Program} {κ : Kap} {s : AState} {a : Act} {w : World}

theorem Rel.put {own : Own} {M : Mem} (h : Rel κ s a w own M) (d : Option Tmp) {v : AVal} {u : Value} (hv : VR own M v u) : Rel κ (s.put d v) (a.put d u) w own M := by
  obtain ⟨h1, h2, h3, h4, h5⟩ := put_eval (d := d) h.fr h.nt hv
  exact ⟨by rw [h4, h5]; exact h.st, h1, h2, by rw [h3]; exact h.df, h.le, h.mle, h.frm, by rw [h4]; exact h.ob, by rw [h5]; exact h.n⟩

theorem Rel.out {own : Own} {M : Mem} (h : Rel κ s a w own M) {K : AVal → AHeap → Nat → Prop} {u : Value} {w' : World} (ho : Out own M s.η s.n w K u w') (d : Option Tmp) : ∃ v η' n', K v η' n' ∧ RelE κ ({ s with η := η', n := n' }.put d v) (a.put d u) w' := by
  obtain ⟨v, η', n', own', M', h1, h2, h3, h4, h5, h6, h7, h8⟩ := ho
  refine ⟨v, η', n', h1, own', M', Rel.put (s := { s with η := η', n := n' }) ⟨h3, fun t => (h.fr t).mono h5 h6, h.nt, h.df, Own.le_trans h.le h5, Mem.le_trans h.mle h6, h.frm.trans h7 fun x hx hb => ?_, ⟨fun b hb => ?_, fun b hb => ?_⟩, Nat.le_trans h.n h2⟩ d h4⟩
  · rcases h.ob.1 x hb with g | g
    · exact g
    · omega
  · rcases h8.1 b hb with g | g
    · exact h.ob.1 b g
    · exact Or.inr (Nat.le_trans h.frm.size g)
  · rcases h8.2 b hb with g | g | g
    · exact h.ob.2 b g
    · exact Or.inr (h.ob.1 b g)
    · exact Or.inr (Or.inr (Nat.le_trans h.frm.size g))

theorem astep_sound (h : RelE κ s a w) {o : Oper} {K : AState → Prop} (hs : astep P o K s) {next : Act → World → Prop} {Q : Exit → Act → World → Prop} (hn : ∀ s' u w', K s' → RelE κ s' (a.put o.dst u) w' → next (a.put o.dst u) w') : o.wp P a w next Q := by
  obtain ⟨own, M, h⟩ := h
  unfold astep at hs
  split at hs
  · rename_i v hv
    obtain ⟨u, k1, k2⟩ := aval_sound h.st (aev_sound h.fr) hv
    unfold Oper.wp
    rw [k1]
    exact hn _ u w hs ⟨own, M, h.put o.dst k2⟩
  · refine achg_sound h.st (aev_sound h.fr) hs fun u w' ho => ?_
    obtain ⟨v, η', n', k1, k2⟩ := h.out ho o.dst
    exact hn _ u w' k1 k2

theorem aguard_sound (h : RelE κ s a w) {ops : Array Oper} {o : Oper} {yes no : Prop} (hg : aguard ops o s yes no) : (Region.wanted o (yielded ops a.tmps) = true ∧ yes) ∨ (Region.wanted o (yielded ops a.tmps) = false ∧ no) := by
  obtain ⟨own, M, h⟩ := h
  unfold aguard at hg
  unfold Region.wanted
  split at hg
  · rename_i e; rw [e]; exact Or.inl ⟨rfl, hg⟩
  · rename_i j b e
    rw [e]
    simp only
    split at hg
    · rename_i d hd
      split at hg
      · rename_i t ht
        have hv := h.fr d
        rw [ht] at hv
        have hy : yielded ops a.tmps j = some t := by
          unfold yielded
          rw [hd]
          simp only [Option.bind_some]
          cases hx : a.tmps[d]? with
          | none =>
            rw [Array.getD_eq_getD_getElem?, hx] at hv
            simp [undef] at hv
            cases hv
          | some x =>
            rw [Array.getD_eq_getD_getElem?, hx] at hv
            simp at hv
            cases hv
            rfl
        rw [hy]
        cases hb : (t == b) with
        | true => exact Or.inl ⟨by simpa using hb, hg.1 hb⟩
        | false => exact Or.inr ⟨by simpa using hb, hg.2 hb⟩
      · rename_i ht
        have hv := h.fr d
        rw [ht] at hv
        have hy : yielded ops a.tmps j = none := by
          unfold yielded
          rw [hd]
          simp only [Option.bind_some]
          cases hx : a.tmps[d]? with
          | none => rfl
          | some x =>
            rw [Array.getD_eq_getD_getElem?, hx] at hv
            simp only [Option.getD_some] at hv
            cases hv
            rfl
        rw [hy]
        exact Or.inr ⟨rfl, hg⟩
      · exact hg.elim
    · exact hg.elim

theorem vr_skip {own : Own} {M : Mem} : VR own M (.tup []) Go.undef := .tup [] #[] rfl fun i c h => by simp at h
theorem aseq_sound {ops : Array Oper} {K : AState → Prop} {Q : Exit → Act → World → Prop} (hQ : ∀ s a w, K s → RelE κ s a w → Q .normal a w) : ∀ (m k : Nat) (s : AState) (a : Act) (w : World), k + m = ops.size → RelE κ s a w → aseq P ops (ops.toList.drop k) K s →
    wpOps P ops Q (List.range' k m) a w
  | 0, k, s, a, w, hk, h, hs => by
    rw [List.drop_of_length_le (by simp; omega)] at hs
    exact hQ _ _ _ hs h
  | m + 1, k, s, a, w, hk, h, hs => by
    have hkl : k < ops.toList.length := by simp; omega
    rw [List.drop_eq_getElem_cons hkl] at hs
    simp only [aseq] at hs
    rw [List.range'_succ]
    have ho : ops[k]? = some ops.toList[k] := by rw [← Array.getElem?_toList]; exact List.getElem?_eq_getElem hkl
    unfold wpOps
    rw [ho]
    simp only
    rcases aguard_sound h hs with ⟨g1, g2⟩ | ⟨g1, g2⟩
    · rw [if_pos g1]
      refine Or.inl (astep_sound h g2 fun s' u w' hK hR => ?_)
      exact aseq_sound hQ m (k + 1) s' _ w' (by omega) hR hK
    · rw [if_neg (by rw [g1]; simp)]
      obtain ⟨own, M, h⟩ := h
      exact aseq_sound hQ m (k + 1) _ _ w (by omega) ⟨own, M, h.put _ vr_skip⟩ g2
end
end Go.Proofs.Ytkhoelmbcmkhjaa
