/- Layer 6: the program's look and the reference's, side by side. -/
import Derived.Test.YtkhoelmbcmkhjaaCx
namespace Go.Proofs.Ytkhoelmbcmkhjaa
set_option maxRecDepth 100000

/-- along the ways of one place -/
def waysGo (c : Lc) : Lx → List Wy → Lx × Int
  | x, [] => (x, 0)
  | x, w :: r => if w.2.2 ≠ 0 then (x, w.2.2) else if (goesL c x w.1.toNat w.2.1).2 ≠ 0 then goesL c x w.1.toNat w.2.1 else waysGo c (goesL c x w.1.toNat w.2.1).1 r
theorem waysGo_one (c : Lc) (x : Lx) (to : Int) (s : List Int) : waysGo c x [(to, s, 0)] = goesL c x to.toNat s := by
  simp only [waysGo]
  rw [if_neg (by simp)]
  by_cases h : (goesL c x to.toNat s).2 ≠ 0
  · rw [if_pos h]
  · rw [if_neg h]
    have : (goesL c x to.toNat s).2 = 0 := by simpa using h
    exact Prod.ext rfl this.symm
theorem waysGo_recv (c : Lc) (tmo : Int) (s : List Int) : ∀ (cls : List (Int × Int)) (x : Lx), waysGo c x (recvW c tmo s cls) = recvL c tmo s cls x
  | [], x => by
    unfold recvW recvL
    by_cases h : 0 ≤ tmo
    · rw [if_pos h, if_neg (by omega), waysGo_one]
    · rw [if_neg h, if_pos (by omega)]; rfl
  | cl :: r, x => by
    unfold recvW recvL
    by_cases h1 : (c.own.msgs.length : Int) ≤ cl.1
    · rw [if_pos h1, if_pos h1]; simp [waysGo]
    rw [if_neg h1, if_neg h1]
    by_cases h2 : 16 < s.length + 1
    · rw [if_pos h2, if_pos h2]; simp [waysGo]
    rw [if_neg h2, if_neg h2]
    simp only [waysGo]
    rw [if_neg (by simp)]
    by_cases h3 : (goesL c x cl.2.toNat (s ++ [c.own.msgs.getD cl.1.toNat 0])).2 = 0
    · rw [if_neg (by simpa using h3), if_pos h3]; exact waysGo_recv c tmo s r _
    · rw [if_pos h3, if_neg h3]
theorem atL_ways (c : Lc) (x : Lx) (p : Nat) : atL c x p = (if (behL c (c.own.code.getD p (0, 0)) (x.shapes.getD p [])).2 ≠ 0 then (x, (behL c (c.own.code.getD p (0, 0)) (x.shapes.getD p [])).2) else waysGo c x (waysL c p (behL c (c.own.code.getD p (0, 0)) (x.shapes.getD p [])).1)) := by
  unfold atL waysL
  simp only
  generalize behL c (c.own.code.getD p (0, 0)) (x.shapes.getD p []) = b
  generalize c.own.code.getD p (0, 0) = i
  have ep : ((p : Int) + 1).toNat = p + 1 := by omega
  by_cases h0 : b.2 ≠ 0
  · rw [if_pos h0, if_pos h0]
  rw [if_neg h0, if_neg h0]
  by_cases h1 : i.1 = 0 ∨ i.1 = 23
  · rw [if_pos h1, if_pos h1]; rfl
  rw [if_neg h1, if_neg h1]
  by_cases h2 : i.1 = 16
  · rw [if_pos h2, if_pos h2, waysGo_one]
  rw [if_neg h2, if_neg h2]
  by_cases h3 : i.1 = 21
  · have h4 : ¬ i.1 = 17 := by omega
    rw [if_pos h3, if_neg h4, if_pos h3, waysGo_recv]
  rw [if_neg h3]
  by_cases h4 : i.1 = 17
  · rw [if_pos h4, if_pos h4]
    have e : waysGo c x [(i.2, b.1, 0), ((p : Int) + 1, b.1, 0)] = (if (goesL c x i.2.toNat b.1).2 ≠ 0 then goesL c x i.2.toNat b.1 else waysGo c (goesL c x i.2.toNat b.1).1 [((p : Int) + 1, b.1, 0)]) := by
      rw [waysGo]; rw [if_neg (by simp)]
    rw [e, waysGo_one, ep]
    by_cases h5 : (goesL c x i.2.toNat b.1).2 = 0
    · rw [if_pos h5, if_neg (by simpa using h5)]
    · rw [if_neg h5, if_pos h5]
  · rw [if_neg h4, if_neg h4, if_neg h3, waysGo_one, ep]
/-- a way that can be gone -/
def WyOK (c : Lc) (w : Wy) : Prop := 0 ≤ w.1 ∧ (w.2.2 = 0 → TyOK c.m.length w.2.1 ∧ w.2.1.length ≤ 16)
theorem recvW_ok {c : Lc} (hc : LcOK c) {tmo : Int} {s : List Int} (hs : TyOK c.m.length s) (hl : s.length ≤ 16) : ∀ (cls : List (Int × Int)), (∀ cl ∈ cls, 0 ≤ cl.1 ∧ 0 ≤ cl.2) → ∀ w ∈ recvW c tmo s cls, WyOK c w
  | [], _, w, hw => by
    unfold recvW at hw
    split at hw
    · simp at hw; subst hw; exact ⟨by assumption, fun _ => ⟨hs, hl⟩⟩
    · simp at hw
  | cl :: r, hcl, w, hw => by
    have h0 := hcl cl (by simp)
    unfold recvW at hw
    split at hw
    · simp at hw; subst hw; exact ⟨by simp, by simp⟩
    · split at hw
      · simp at hw; subst hw; exact ⟨by simp, by simp⟩
      · rename_i h1 h2
        rcases List.mem_cons.1 hw with rfl | hw
        · have hm : TyOK c.m.length c.own.msgs := hc.ownA.ty.sub fun x hx => by simp [hx]
          exact ⟨h0.2, fun _ => ⟨hs.app (TyOK.one (hm.getD (k := cl.1.toNat) (by omega))), by simp; omega⟩⟩
        · exact recvW_ok hc hs hl r (fun q hq => hcl q (by simp [hq])) w hw
theorem waysL_ok {c : Lc} (hc : LcOK c) {p : Nat} (hp : p < c.own.code.length) (hn : namesL c (c.own.code.getD p (0, 0)) = true) {s : List Int} (hs : TyOK c.m.length s) (hl : s.length ≤ 16) : ∀ w ∈ waysL c p s, WyOK c w := by
  have hi : rightI (c.own.code.getD p (0, 0)) = true := by
    have : c.own.code.getD p (0, 0) = c.own.code[p] := by simp [List.getD_eq_getElem?_getD, hp]
    rw [this]; exact hc.ownA.code _ (List.getElem_mem ..)
  intro w hw
  unfold waysL at hw
  simp only at hw
  generalize c.own.code.getD p (0, 0) = i at *
  have hb := rightI_bd hi
  by_cases h1 : i.1 = 0 ∨ i.1 = 23
  · rw [if_pos h1] at hw; simp at hw
  rw [if_neg h1] at hw
  by_cases h2 : i.1 = 16
  · rw [if_pos h2] at hw; simp at hw; subst hw; exact ⟨by simp only; omega, fun _ => ⟨hs, hl⟩⟩
  rw [if_neg h2] at hw
  by_cases h4 : i.1 = 17
  · rw [if_pos h4] at hw; simp at hw
    rcases hw with rfl | rfl
    · exact ⟨by simp only; omega, fun _ => ⟨hs, hl⟩⟩
    · exact ⟨by simp only; omega, fun _ => ⟨hs, hl⟩⟩
  rw [if_neg h4] at hw
  by_cases h3 : i.1 = 21
  · rw [if_pos h3] at hw
    have hA : i.2 < c.own.tabs.length := by simpa [namesL, h3] using hn
    have e : tbl c.own i.2 ∈ c.own.tabs := by
      unfold tbl
      have : i.2.toNat < c.own.tabs.length := by omega
      rw [List.getD_eq_getElem?_getD, List.getElem?_eq_getElem this]; exact List.getElem_mem ..
    exact recvW_ok hc hs hl _ (hc.ownA.tabs _ e).2.1 w hw
  · rw [if_neg h3] at hw; simp at hw; subst hw; exact ⟨by simp only; omega, fun _ => ⟨hs, hl⟩⟩
theorem waysGo_goes {c : Lc} (hc : LcOK c) : ∀ (ws : List Wy) (x : Lx), (∀ w ∈ ws, WyOK c w) → LI c x → Goes c x (waysGo c x ws).1
  | [], x, _, h => Goes.refl h
  | w :: r, x, hw, h => by
    have h0 := (hw w (by simp)).2
    unfold waysGo
    by_cases h1 : w.2.2 ≠ 0
    · rw [if_pos h1]; exact Goes.refl h
    rw [if_neg h1]
    have h2 := h0 (by simpa using h1)
    have hg := goesL_goes hc (to := w.1.toNat) h h2.1 h2.2
    split
    · exact hg
    · exact hg.trans (waysGo_goes hc r _ (fun q hq => hw q (by simp [hq])) hg.2)

/-! ### the reference's rows -/
structure RSt (c : Lc) (x : Lx) (vs : List AVal) (hs lk : List Bool) : Prop where
  lv : vs.length = c.own.code.length
  lh : hs.length = c.own.code.length
  ll : lk.length = c.own.code.length
  sh : ∀ p (h : p < vs.length), RoL vs[p] (x.shapes.getD p [])
  has : ∀ p, p < c.own.code.length → hs.getD p false = x.has.getD p false
  todo : ∀ p, p < c.own.code.length → x.todo.getD p false = (hs.getD p false && !lk.getD p false)
  lkh : ∀ p, lk.getD p false = true → hs.getD p false = true
  lx : x.shapes.length = c.own.code.length
theorem getD_set (l : List Bool) (i j : Nat) (b : Bool) : (l.set i b).getD j false = if i = j ∧ j < l.length then b else l.getD j false := by
  by_cases e : i = j
  · subst e
    by_cases h : i < l.length
    · simp [List.getD_eq_getElem?_getD, h]
    · rw [List.set_eq_of_length_le (by omega), if_neg (by omega)]
  · rw [if_neg (by omega), List.getD_eq_getElem?_getD, List.getElem?_set_ne e, ← List.getD_eq_getElem?_getD]
theorem RSt.look {c : Lc} {x : Lx} {vs : List AVal} {hs lk : List Bool} (h : RSt c x vs hs lk) (h200 : c.own.code.length ≤ 200) (ht : x.todo.length = 200) {p : Nat} (hp : p < c.own.code.length) (hp2 : hs.getD p false = true) : RSt c (x.off p) vs hs (lk.set p true) := by
  refine ⟨h.lv, h.lh, by simp [h.ll], h.sh, h.has, fun q hq => ?_, fun q hq => ?_, h.lx⟩
  · show (x.todo.set p false).getD q false = _
    rw [getD_set, getD_set, h.todo q hq, h.ll]
    by_cases e : p = q
    · subst e
      rw [if_pos ⟨rfl, by omega⟩, if_pos ⟨rfl, hq⟩]; simp
    · rw [if_neg (by omega), if_neg (by omega)]
  · rw [getD_set] at hq
    split at hq
    · rename_i e; rw [← e.1]; exact hp2
    · exact h.lkh q hq
theorem RSt.goes {c : Lc} {x : Lx} {vs : List AVal} {hs lk : List Bool} (h : RSt c x vs hs lk) (h200 : c.own.code.length ≤ 200) (hh : x.has.length = 200) (ht : x.todo.length = 200) {to : Nat} (hto : to < c.own.code.length) {s : List Int} (h0 : (goesL c x to s).2 = 0) : RSt c (goesL c x to s).1 (vs.set to (.rs 1 (ints s))) (hs.set to true) lk := by
  have hse := h.has to hto
  have htd := h.todo to hto
  have hlv := h.lv
  have hlh := h.lh
  unfold goesL at h0 ⊢
  rw [if_neg (by omega)] at h0 ⊢
  have sh' : ∀ (l : List (List Int)) (e : ∀ p, p < vs.length → l.getD p [] = if p = to then s else x.shapes.getD p []) p (hp : p < (vs.set to (.rs 1 (ints s))).length), RoL (vs.set to (.rs 1 (ints s)))[p] (l.getD p []) := fun l e p hp => by
    have hp' : p < vs.length := by simpa using hp
    rw [e p hp', List.getElem_set]
    by_cases g : to = p
    · rw [if_pos g, if_pos g.symm]; exact Or.inl rfl
    · rw [if_neg g, if_neg (Ne.symm g)]; exact h.sh p hp'
  by_cases hb : x.has.getD to false = false
  · rw [if_pos hb]
    refine ⟨by simp [h.lv], by simp [h.lh], h.ll, sh' _ fun p hp => ?_, fun q hq => ?_, fun q hq => ?_, fun q hq => ?_, by simp [h.lx]⟩
    · show (x.shapes.set to s).getD p [] = _
      rw [List.getD_eq_getElem?_getD]
      by_cases g : to = p
      · subst g
        have : to < x.shapes.length := by rw [h.lx]; exact hto
        simp [this]
      · rw [List.getElem?_set_ne g, if_neg (Ne.symm g), List.getD_eq_getElem?_getD]
    · show _ = (x.has.set to true).getD q false
      rw [getD_set, getD_set, h.has q hq, hlh, hh]
      by_cases g : to = q
      · subst g; rw [if_pos ⟨rfl, hq⟩, if_pos ⟨rfl, by omega⟩]
      · rw [if_neg (by omega), if_neg (by omega)]
    · show (x.todo.set to true).getD q false = _
      rw [getD_set, getD_set, hlh, ht]
      by_cases g : to = q
      · subst g
        rw [if_pos ⟨rfl, by omega⟩, if_pos ⟨rfl, hq⟩]
        cases hlk : lk.getD to false
        · rfl
        · have := h.lkh to hlk; rw [hse, hb] at this; cases this
      · rw [if_neg (by omega), if_neg (by omega)]; exact h.todo q hq
    · have := h.lkh q hq
      rw [getD_set]
      split
      · rfl
      · exact this
  · rw [if_neg hb] at h0 ⊢
    have hb' : x.has.getD to false = true := by simpa using hb
    by_cases he : x.shapes.getD to [] = s
    · rw [if_pos he]
      have hset : ∀ q, (hs.set to true).getD q false = hs.getD q false := fun q => by
        rw [getD_set]
        split
        · rename_i e; rw [← e.1, hse, hb']
        · rfl
      refine ⟨by simp [h.lv], by simp [h.lh], h.ll, sh' _ fun p hp => ?_, fun q hq => ?_, fun q hq => ?_, fun q hq => ?_, h.lx⟩
      · by_cases g : p = to
        · subst g; rw [if_pos rfl, he]
        · rw [if_neg g]
      · rw [hset]; exact h.has q hq
      · rw [hset]; exact h.todo q hq
      · rw [hset]; exact h.lkh q hq
    · rw [if_neg he] at h0; cases h0
end Go.Proofs.Ytkhoelmbcmkhjaa
