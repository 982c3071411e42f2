/- Layer 6 (check): goes, receives, at. -/
import Derived.Test.YtkhoelmbcmkhjaaCm
import Derived.Test.YtkhoelmbcmkhjaaAu
namespace Go.Proofs.Ytkhoelmbcmkhjaa
set_option maxRecDepth 100000

/-- a place's shape: nothing, or a row of its own -/
def RowAt (g q : Nat) (η : AHeap) (v : AVal) (l : List Int) : Prop := (v = .nils ∧ l = []) ∨ ∃ r, v = .sl r 0 l.length ∧ η r = some (.cells 1 (ints l)) ∧ r ≠ g ∧ r ≠ q
theorem RowAt.isL {g q : Nat} {η : AHeap} {v : AVal} {l : List Int} (h : RowAt g q η v l) : IsL η v l := by
  rcases h with ⟨h1, h2⟩ | ⟨r, h1, h2, _⟩
  · exact Or.inr (Or.inl ⟨h1, h2⟩)
  · rw [h1]; exact IsL.own1 rfl h2
theorem RowAt.rt {g q : Nat} {η : AHeap} {v : AVal} {l : List Int} (h : RowAt g q η v l) : v = .nils ∨ ∃ r m, v = .sl r 0 m := by
  rcases h with ⟨h1, h2⟩ | ⟨r, h1, h2, _⟩
  · exact Or.inl h1
  · exact Or.inr ⟨r, _, h1⟩
/-- the rows that a list of values owns are unlike -/
def Apt (vs : List AVal) : Prop := ∀ (i j r a b : Nat), vs[i]? = some (AVal.sl r 0 a) → vs[j]? = some (AVal.sl r 0 b) → i = j
structure LkAt (c : Lc) (x : Lx) (B g q : Nat) (vs : List AVal) (η : AHeap) : Prop where
  hg : η g = some (.cells 408 [lookC c (.sl q 0 vs.length) x.has x.todo])
  hq : η q = some (.cells 1 (vs.map fun v => [v]))
  gq : g ≠ q
  bg : B ≤ g
  bq : B ≤ q
  lh : x.has.length = 200
  lt : x.todo.length = 200
  lv : vs.length = c.own.code.length
  ls : x.shapes.length = c.own.code.length
  rows : ∀ k (h : k < vs.length), RowAt g q η vs[k] (x.shapes.getD k [])
  big : ∀ (i r m : Nat), vs[i]? = some (AVal.sl r 0 m) → B ≤ r
  apt : Apt vs
/-- only the look changes -/
def FrG (n g q : Nat) (η η' : AHeap) : Prop := ∀ y, y < n → y ≠ g → y ≠ q → η' y = η y
theorem FrG.refl (n g q : Nat) (η : AHeap) : FrG n g q η η := fun _ _ _ _ => rfl
theorem FrG.trans {n n' g q : Nat} {η η' η'' : AHeap} (h : FrG n g q η η') (h' : FrG n' g q η' η'') (hn : n ≤ n') : FrG n g q η η'' := fun y h1 h2 h3 => (h' y (by omega) h2 h3).trans (h y h1 h2 h3)
theorem RowAt.keep {n g q : Nat} {η η' : AHeap} {v : AVal} {l : List Int} (h : RowAt g q η v l) (hf : ∀ r, n ≤ r → η r = none) (hk : FrG n g q η η') : RowAt g q η' v l := by
  rcases h with h | ⟨r, h1, h2, h3, h4⟩
  · exact Or.inl h
  · refine Or.inr ⟨r, h1, ?_, h3, h4⟩
    have : r < n := by
      rcases Nat.lt_or_ge r n with h | h
      · exact h
      · rw [hf r h] at h2; cases h2
    rw [hk r this h3 h4]; exact h2
theorem LkAt.ne {c : Lc} {x : Lx} {B g q : Nat} {vs : List AVal} {η : AHeap} (h : LkAt c x B g q vs η) (h0 : 0 < c.own.code.length) {v : AVal} {l : List Int} (hv : IsL η v l) {r o m : Nat} (e : v = .sl r o m) : r ≠ g ∧ r ≠ q := by
  rcases hv with rfl | ⟨rfl, _⟩ | ⟨r', o', I, J, rfl, ho, hr⟩
  · cases e
  · cases e
  · cases e
    refine ⟨fun e => ?_, fun e => ?_⟩
    · subst e; rw [h.hg] at hr; cases hr
    · subst e
      rw [h.hq] at hr
      have h0' : 0 < vs.length := by rw [h.lv]; exact h0
      simp only [Option.some.injEq, AObj.cells.injEq, true_and] at hr
      have e1 : (vs.map fun v => [v])[0]? = some [vs[0]] := by simp [h0']
      rw [hr, ints_get] at e1
      cases ht : (I ++ (l ++ J))[0]? with
      | none => rw [ht] at e1; simp at e1
      | some y =>
        rw [ht] at e1
        simp at e1
        rcases (h.rows 0 h0').rt with e2 | ⟨r2, m2, e2⟩
        · rw [e2] at e1; cases e1
        · rw [e2] at e1; cases e1
theorem LkAt.keepL {c : Lc} {x : Lx} {B g q n : Nat} {vs : List AVal} {η η' : AHeap} (h : LkAt c x B g q vs η) (h0 : 0 < c.own.code.length) {v : AVal} {l : List Int} (hv : IsL η v l) (hf : ∀ r, n ≤ r → η r = none) (hk : FrG n g q η η') : IsL η' v l := by
  have hne := fun r o m => h.ne h0 hv (r := r) (o := o) (m := m)
  rcases hv with rfl | ⟨rfl, h2⟩ | ⟨r, o, I, J, rfl, ho, hr⟩
  · exact Or.inl rfl
  · exact Or.inr (Or.inl ⟨rfl, h2⟩)
  · have := hne r o l.length rfl
    have hrn : r < n := by
      rcases Nat.lt_or_ge r n with h | h
      · exact h
      · rw [hf r h] at hr; cases hr
    exact Or.inr (Or.inr ⟨r, o, I, J, rfl, ho, by rw [hk r hrn this.1 this.2]; exact hr⟩)
theorem RowAt.obj {g q : Nat} {η : AHeap} {l : List Int} {r m : Nat} (h : RowAt g q η (.sl r 0 m) l) : m = l.length ∧ η r = some (.cells 1 (ints l)) ∧ r ≠ g ∧ r ≠ q := by
  rcases h with ⟨h, _⟩ | ⟨r', h, h1⟩
  · cases h
  · cases h; exact ⟨rfl, h1⟩
theorem LkAt.newRow {c : Lc} {x : Lx} {B g q n : Nat} {vs : List AVal} {η η1 : AHeap} (hL : LkAt c x B g q vs η) {to : Nat} {s : List Int} {b : Nat} {has todo : List Bool} (hv : to < vs.length) (hf : ∀ r, n ≤ r → η r = none) (hh : has.length = 200) (ht : todo.length = 200) (hg1 : η1 g = some (.cells 408 [lookC c (.sl q 0 vs.length) has todo]))
    (hb1 : η1 b = some (.cells 1 (ints s))) (hb2 : n ≤ b) (hk : FrG n g q η η1) : LkAt c ⟨x.shapes.set to s, has, todo⟩ B g q (vs.set to (.sl b 0 s.length)) (upd η1 q (some (.cells 1 ((vs.set to (.sl b 0 s.length)).map fun v => [v])))) := by
  have hgn : g < n := by
    rcases Nat.lt_or_ge g n with h | h
    · exact h
    · have := hL.hg; rw [hf g h] at this; cases this
  have hqn : q < n := by
    rcases Nat.lt_or_ge q n with h | h
    · exact h
    · have := hL.hq; rw [hf q h] at this; cases this
  have hbg := hL.bg
  have hls : x.shapes.length = vs.length := by rw [hL.ls, hL.lv]
  have hold : ∀ (k m : Nat), vs[k]? ≠ some (AVal.sl b 0 m) := fun k m e => by
    have hk : k < vs.length := by
      rcases Nat.lt_or_ge k vs.length with h | h
      · exact h
      · rw [List.getElem?_eq_none h] at e; cases e
    have := hL.rows k hk
    rw [List.getElem?_eq_getElem hk] at e
    rw [Option.some.inj e] at this
    have := this.obj.2.1
    rw [hf b hb2] at this; cases this
  refine ⟨?_, ?_, hL.gq, hL.bg, hL.bq, hh, ht, ?_, ?_, ?_, ?_, ?_⟩
  · rw [upd_ne hL.gq, List.length_set]; exact hg1
  · exact upd_eq ..
  · rw [List.length_set]; exact hL.lv
  · rw [List.length_set]; exact hL.ls
  · intro k hk'
    have hk2 : k < vs.length := by rwa [List.length_set] at hk'
    by_cases e : to = k
    · subst e
      have e1 : (vs.set to (.sl b 0 s.length))[to]'(by rw [List.length_set]; exact hk2) = .sl b 0 s.length := by simp
      have e2 : (x.shapes.set to s).getD to [] = s := by simp [List.getD_eq_getElem?_getD, hls, hk2]
      rw [e1]
      simp only [e2]
      exact Or.inr ⟨b, rfl, by rw [upd_ne (by omega)]; exact hb1, by omega, by omega⟩
    · have e1 : (vs.set to (.sl b 0 s.length))[k]'(by rw [List.length_set]; exact hk2) = vs[k] := List.getElem_set_ne e _
      have e2 : (x.shapes.set to s).getD k [] = x.shapes.getD k [] := by simp [List.getD_eq_getElem?_getD, List.getElem?_set_ne e]
      rw [e1]
      simp only [e2]
      exact (hL.rows k hk2).keep hf fun y h1 h2 h3 => by rw [upd_ne h3]; exact hk y h1 h2 h3
  · intro i r m hi
    by_cases e : to = i
    · subst e
      simp [hv] at hi
      omega
    · rw [List.getElem?_set_ne e] at hi
      exact hL.big i r m hi
  · intro i j r a b' hi hj
    by_cases e : to = i
    · by_cases e' : to = j
      · omega
      · subst e
        rw [List.getElem?_set_ne e'] at hj
        simp [hv] at hi
        exact absurd (hi.1 ▸ hj) (hold j b')
    · by_cases e' : to = j
      · subst e'
        rw [List.getElem?_set_ne e] at hi
        simp [hv] at hj
        exact absurd (hj.1 ▸ hi) (hold i a)
      · rw [List.getElem?_set_ne e] at hi
        rw [List.getElem?_set_ne e'] at hj
        exact hL.apt i j r a b' hi hj
/-- what a function of the look hands back -/
def LkPost (c : Lc) (x : Lx) (e : Int) (B g q n : Nat) (η : AHeap) : AVal → AHeap → Nat → Prop := fun r η' n' => ∃ vs, r = .int .i64 e ∧ LkAt c x B g q vs η' ∧ FrG n g q η η' ∧ n ≤ n'
theorem lgoes_ac {c : Lc} {x : Lx} {B g q : Nat} {vs : List AVal} {η : AHeap} {n : Nat} {sv : AVal} {s : List Int} (to : Nat) (hL : LkAt c x B g q vs η) (h0 : 0 < c.own.code.length) (h200 : c.own.code.length ≤ 200) (h : IsL η sv s) (hl : s.length ≤ 1000) (hs : ∀ k, (x.shapes.getD k []).length ≤ 1000) :
    AC Try.prog 121 [.ptr g 0 0, .int .i64 to, sv] η n (LkPost c (goesL c x to s).1 (goesL c x to s).2 B g q n η) := by
  have hg := hL.hg
  refine AC.fresh fun hf => ?_; refine AC.enter Try.func121 rfl Try.ntmps121 (by simp) ?_
  simp [aload, afield, apart, hg]
  refine CondP.dec (fun h1 => ?_) (fun h1 => ?_)
  · have h1' : c.own.code.length ≤ to := by omega
    simp [h1]
    have e : goesL c x to s = (x, 11) := by simp only [goesL]; rw [if_pos h1']
    rw [e]
    exact resK.rt ⟨vs, rfl, hL, FrG.refl _ _ _ _, Nat.le_refl _⟩
  have h1' : ¬ c.own.code.length ≤ to := by omega
  have ht : to < 200 := by omega
  have ht' : (to : Int) < 200 := by omega
  have hv : to < vs.length := by rw [hL.lv]; omega
  have hgn : g < n := by
    rcases Nat.lt_or_ge g n with h | h
    · exact h
    · rw [hf g h] at hg; cases hg
  have hqn : q < n := by
    rcases Nat.lt_or_ge q n with h | h
    · exact h
    · have := hL.hq; rw [hf q h] at this; cases this
  have ch := lookC_has c (.sl q 0 vs.length) x.has x.todo hL.lh to ht
  cases hb : x.has.getD to false
  · rw [hb] at ch
    have e : goesL c x to s = (⟨x.shapes.set to s, x.has.set to true, x.todo.set to true⟩, 0) := by simp only [goesL]; rw [if_neg h1', if_pos hb]
    have s1 : astore Try.prog 4 (.ptr g 0 (8 + to)) (.bool true) η = some (upd η g (some (.cells 408 [lookC c (.sl q 0 vs.length) (x.has.set to true) x.todo]))) := by
      rw [astore_cell hg (by simp) rfl rfl (by omega) (lookC_len _ _ _ _ hL.lh hL.lt), lookC_setHas _ _ _ _ hL.lh _ ht]
    have s2 : astore Try.prog 4 (.ptr g 0 (208 + to)) (.bool true) (upd η g (some (.cells 408 [lookC c (.sl q 0 vs.length) (x.has.set to true) x.todo]))) = some (upd η g (some (.cells 408 [lookC c (.sl q 0 vs.length) (x.has.set to true) (x.todo.set to true)]))) := by
      rw [astore_cell (upd_eq ..) (by simp) rfl rfl (by omega) (lookC_len _ _ _ _ (by simp [hL.lh]) hL.lt), upd_upd, lookC_setTodo _ _ _ _ (by simp [hL.lh]) _ ht]
    have k1 : ∀ o, FrG n g q η (upd η g o) := fun o y _ h _ => upd_ne h
    have hs1 := fun o => hL.keepL h0 h hf (k1 o)
    have hq1 : ∀ o, upd η g o q = some (.cells 1 (vs.map fun v => [v])) := fun o => by rw [upd_ne (Ne.symm hL.gq)]; exact hL.hq
    simp [h1, aload, afield, apart, hg, aindex, ht', ch]
    refine drawK.intro mixed [(0, []), (1, []), (2, []), (3, []), (4, []), (5, []), (6, []), (8, []), (9, []), (7, []), (10, []), (11, [])] (by kernel_rfl) ?_
    simp [afield, aindex, ht', s1, s2]
    refine drawK.intro mixed [(0, []), (1, []), (2, []), (3, []), (4, []), (5, []), (6, [3]), (7, []), (8, [])] (by kernel_rfl) ?_
    simp [aload, afield, apart, upd_eq]
    refine ACK.use (cloneT_ac (hs1 _) (by omega)).freshP ?_
    intro r η1 n1 ⟨⟨b, e1, hb1, hb2, hb3, hk1⟩, hf1⟩
    subst e1
    have hg2 : η1 g = some (.cells 408 [lookC c (.sl q 0 vs.length) (x.has.set to true) (x.todo.set to true)]) := by rw [hk1 g hgn, upd_eq]
    have hq2 : η1 q = some (.cells 1 (vs.map fun v => [v])) := by rw [hk1 q hqn]; exact hq1 _
    have s3 : astore Try.prog 52 (.ptr q to 0) (.sl b 0 s.length) η1 = some (upd η1 q (some (.cells 1 ((vs.set to (.sl b 0 s.length)).map fun v => [v])))) := astore_row hq2 (by simp) rfl rfl hv
    simp [lk_some, chkK, hg2, hq2, aindex, hv, s3]
    refine resK.rt ?_
    rw [e]
    have hfr : FrG n g q η η1 := fun y h1 h2 _ => by rw [hk1 y h1, upd_ne h2]
    have hnew := hL.newRow hv hf (has := x.has.set to true) (todo := x.todo.set to true) (by simp [hL.lh]) (by simp [hL.lt]) hg2 hb1 hb2 hfr
    simp only [List.map_set] at hnew
    exact ⟨_, rfl, hnew, fun y h1 h2 h3 => by rw [upd_ne h3]; exact hfr y h1 h2 h3, by omega⟩
  · rw [hb] at ch
    have hq := hL.hq
    have hrow : (vs.map fun v => [v])[to]? = some [vs[to]] := by simp [hv]
    have hsh := (hL.rows to hv).isL
    simp [h1, aload, afield, apart, hg, aindex, ht', ch, hq, hv]
    refine ACK.rt (ksame_ac hsh h (by have := hs to; omega)) ?_
    by_cases he : x.shapes.getD to [] = s
    · have e : goesL c x to s = (x, 0) := by simp only [goesL]; rw [if_neg h1', if_neg (by rw [hb]; simp), if_pos he]
      have he' := he
      simp only [List.getD_eq_getElem?_getD] at he'
      simp [he']
      rw [e]
      exact resK.rt ⟨vs, rfl, hL, FrG.refl _ _ _ _, Nat.le_refl _⟩
    · have e : goesL c x to s = (x, 10) := by simp only [goesL]; rw [if_neg h1', if_neg (by rw [hb]; simp), if_neg he]
      have he' := he
      simp only [List.getD_eq_getElem?_getD] at he'
      simp [he']
      rw [e]
      exact resK.rt ⟨vs, rfl, hL, FrG.refl _ _ _ _, Nat.le_refl _⟩
theorem goesL_all {c : Lc} {x : Lx} {to : Nat} {s : List Int} {P : List Int → Prop} (h : ∀ k, P (x.shapes.getD k [])) (hs : P s) : ∀ k, P ((goesL c x to s).1.shapes.getD k []) := by
  intro k
  unfold goesL
  split
  · exact h k
  · split
    · by_cases e : to = k
      · subst e
        by_cases hl : to < x.shapes.length
        · simp [List.getD_eq_getElem?_getD, hl]; exact hs
        · have := h to; rw [List.set_eq_of_length_le (by omega)]; exact this
      · have := h k; simp [List.getD_eq_getElem?_getD, List.getElem?_set_ne e] at this ⊢; exact this
    · split <;> exact h k
theorem tk_ints (s : List Int) : List.take s.length (ints s) = ints s := List.take_of_length_le (by simp [ints])
/-- a round of the clauses -/
structure RcI (c : Lc) (s : List Int) (t : Tbl) (x0 : Lx) (B g q n0 : Nat) (η0 : AHeap) (k : Nat) (x : Lx) (vs : List AVal) (η' : AHeap) (n' : Nat) : Prop where
  hk : k ≤ t.cls.length
  eq : recvL c t.tmo s (t.cls.drop k) x = recvL c t.tmo s t.cls x0
  lk : LkAt c x B g q vs η'
  fr : FrG n0 g q η0 η'
  le : n0 ≤ n'
  free : ∀ y, n' ≤ y → η' y = none
  sh : ∀ k, (x.shapes.getD k []).length ≤ 16
theorem LkAt.upd {c : Lc} {x : Lx} {B g q n r : Nat} {vs : List AVal} {η : AHeap} (h : LkAt c x B g q vs η) (hf : ∀ y, n ≤ y → η y = none) (hr : n ≤ r) (o : Option AObj) : LkAt c x B g q vs (upd η r o) := by
  have hgn : g < n := by
    rcases Nat.lt_or_ge g n with h' | h'
    · exact h'
    · have := h.hg; rw [hf g h'] at this; cases this
  have hqn : q < n := by
    rcases Nat.lt_or_ge q n with h' | h'
    · exact h'
    · have := h.hq; rw [hf q h'] at this; cases this
  have hk : FrG n g q η (Go.Proofs.Ytkhoelmbcmkhjaa.upd η r o) := fun y h1 _ _ => upd_ne (by omega)
  exact ⟨by rw [upd_ne (by omega)]; exact h.hg, by rw [upd_ne (by omega)]; exact h.hq, h.gq, h.bg, h.bq, h.lh, h.lt, h.lv, h.ls, fun k hk' => (h.rows k hk').keep hf hk, h.big, h.apt⟩
theorem LkAt.keep {c : Lc} {x : Lx} {B g q n : Nat} {vs : List AVal} {η η' : AHeap} (h : LkAt c x B g q vs η) (hf : ∀ y, n ≤ y → η y = none) (hk : ∀ y, y < n → η' y = η y) : LkAt c x B g q vs η' := by
  have hgn : g < n := by
    rcases Nat.lt_or_ge g n with h' | h'
    · exact h'
    · have := h.hg; rw [hf g h'] at this; cases this
  have hqn : q < n := by
    rcases Nat.lt_or_ge q n with h' | h'
    · exact h'
    · have := h.hq; rw [hf q h'] at this; cases this
  exact ⟨by rw [hk g hgn]; exact h.hg, by rw [hk q hqn]; exact h.hq, h.gq, h.bg, h.bq, h.lh, h.lt, h.lv, h.ls, fun k hk' => (h.rows k hk').keep hf fun y h1 _ _ => hk y h1, h.big, h.apt⟩
theorem LkAt.lt' {c : Lc} {x : Lx} {B g q n : Nat} {vs : List AVal} {η : AHeap} (h : LkAt c x B g q vs η) (hf : ∀ y, n ≤ y → η y = none) : g < n ∧ q < n := by
  constructor
  · rcases Nat.lt_or_ge g n with h' | h'
    · exact h'
    · have := h.hg; rw [hf g h'] at this; cases this
  · rcases Nat.lt_or_ge q n with h' | h'
    · exact h'
    · have := h.hq; rw [hf q h'] at this; cases this
theorem lreceives_ac {c : Lc} {x : Lx} {B g q : Nat} {vs : List AVal} {η : AHeap} {n : Nat} {sv : AVal} {s : List Int} (t : Tbl) (hL : LkAt c x B g q vs η) (h0 : 0 < c.own.code.length) (h200 : c.own.code.length ≤ 200) (h : IsL η sv s) (hl : s.length ≤ 16) (hs : ∀ k, (x.shapes.getD k []).length ≤ 16)
    (ht : ∀ cl ∈ t.cls, 0 ≤ cl.1 ∧ 0 ≤ cl.2) (htl : t.cls.length ≤ 1000) :
    AC Try.prog 122 [.ptr g 0 0, .agg (tblC t), sv] η n (LkPost c (recvL c t.tmo s t.cls x).1 (recvL c t.tmo s t.cls x).2 B g q n η) := by
  refine AC.fresh fun hf => ?_; refine AC.enter Try.func122 rfl Try.ntmps122 (by simp) ?_
  have hL1 : ∀ o, LkAt c x B g q vs (upd η n o) := fun o => hL.upd hf (Nat.le_refl _) o
  have k0 : ∀ o, FrG n g q η (upd η n o) := fun o y hy _ _ => upd_ne (by omega)
  have hf0 : ∀ y, n + 1 ≤ y → upd η n (some (.cells 2 [tblC t])) y = none := fun y hy => by rw [upd_ne (by omega)]; exact hf y (by omega)
  simp [tblC, aload, afield, apart, upd_eq]
  refine loopK.inv [6, 8, 9, 10, 14, 15, 16, 17, 18, 19, 20, 21, 22, 23, 24, 25, 26, 27, 28, 29, 30, 31, 32, 33, 34, 35, 36, 37, 38, 39, 40, 41, 42, 43, 44, 45, 46, 47, 48, 49, 50, 51] (fun a : Nat × Lx × List AVal × AHeap × Nat => RcI c s t x B g q (n + 1) (upd η n (some (.cells 2 [tblC t]))) a.1 a.2.1 a.2.2.1 a.2.2.2.1 a.2.2.2.2) (fun a => [(14, .int .i64 a.1)]) (fun a => a.2.2.2.1) (fun a => a.2.2.2.2) (fun a => t.cls.length - a.1) (0, x, vs, upd η n (some (.cells 2 [tblC t])), n + 1) ⟨by simp, by simp, hL1 _, FrG.refl _ _ _ _, Nat.le_refl _, hf0, hs⟩ (by simp) (by simp [tblC, AHeap.le]) (by simp) ?_
  intro ⟨k, x', vs', η', n'⟩ hI
  replace hI : RcI c s t x B g q (n + 1) (upd η n (some (.cells 2 [tblC t]))) k x' vs' η' n' := hI
  simp
  refine CondP.dec (fun h1 => ?_) (fun h1 => ?_)
  · have h1' : k < t.cls.length := by omega
    have hcl := ht t.cls[k] (List.getElem_mem ..)
    obtain ⟨⟨a, ea⟩, ⟨b, eb⟩⟩ : (∃ a : Nat, t.cls[k].1 = a) ∧ ∃ b : Nat, t.cls[k].2 = b := ⟨⟨t.cls[k].1.toNat, by omega⟩, ⟨t.cls[k].2.toNat, by omega⟩⟩
    have hg1 : ∀ o, upd η' n' o g = some (.cells 408 [lookC c (.sl q 0 vs'.length) x'.has x'.todo]) := fun o => (hI.lk.upd hI.free (Nat.le_refl _) o).hg
    simp [h1, aindex, aload, apart, astore, upd_eq, upd_upd, ea, eb]
    refine drawK.intro mixed [(0, []), (1, []), (2, []), (3, []), (4, []), (5, []), (6, []), (7, []), (8, [])] (by kernel_rfl) ?_
    simp [aload, afield, apart, upd_eq, hg1]
    have hfr : FrG n g q η η' := (k0 _).trans hI.fr (by omega)
    have hn' := hI.le
    have hd : recvL c t.tmo s (t.cls.drop k) x' = recvL c t.tmo s (t.cls[k] :: t.cls.drop (k + 1)) x' := by rw [← List.drop_eq_getElem_cons h1']
    have hrs := hI.eq
    rw [hd, recvL] at hrs
    have hsv : IsL η' sv s := hL.keepL h0 h hf hfr
    have hs1 : ∀ o, IsL (upd η' n' o) sv s := fun o => hsv.keep hI.free fun r hr => upd_ne (by omega)
    refine CondP.dec (fun h2 => ?_) (fun h2 => ?_)
    · simp [h2]
      rw [if_pos (by rw [ea]; omega)] at hrs
      rw [← hrs]
      exact resK.same ⟨vs', rfl, hI.lk.upd hI.free (Nat.le_refl _) _, fun y h1 h2 h3 => by rw [upd_ne (by omega)]; exact hfr y h1 h2 h3, by omega⟩ (Nat.le_refl _)
    · have h2' : a < c.own.msgs.length := by omega
      rw [if_neg (by rw [ea]; omega)] at hrs
      have em : c.own.msgs.getD t.cls[k].1.toNat 0 = c.own.msgs[a] := by rw [ea]; simp [List.getD_eq_getElem?_getD, h2']
      rw [em, eb] at hrs
      simp [h2]
      refine drawK.intro2 mixed [(0, []), (2, []), (3, []), (4, []), (5, []), (6, []), (7, []), (8, []), (9, []), (10, []), (1, [6, 8, 9, 10]), (11, [1]), (12, []), (13, [])] [(0, []), (2, []), (3, []), (4, []), (5, []), (6, []), (7, []), (8, []), (9, []), (10, []), (11, []), (1, [6, 8, 9, 10, 11]), (12, []), (13, [])] 1 11 (by kernel_rfl) ?_ ?_
      · simp [aload, afield, apart, upd_eq, hg1, aindex, h2']
        refine ACK.use (cloneT_ac (hs1 _) (by omega)).freshP ?_
        intro r η2 n2 ⟨⟨d, e1, hd, hd1, hd2, hk1⟩, hf1⟩
        subst e1
        have hlt := hI.lk.lt' hI.free
        have hg2 : η2 g = some (.cells 408 [lookC c (.sl q 0 vs'.length) x'.has x'.todo]) := by rw [hk1 g (by omega)]; exact hg1 _
        have hn2 : η2 n' = some (.cells 2 [[.int .i64 a, .int .i64 b]]) := by rw [hk1 n' (by omega), upd_eq]
        have hdn : d ≠ n2 := by omega
        have hb1 : (s.length + 1) * 8 ≤ 140737488355328 := by omega
        have hb2 : s.length + 1 ≤ 17592186044416 := by omega
        have hk3 : ∀ y, y < n' → (Go.Proofs.Ytkhoelmbcmkhjaa.upd (Go.Proofs.Ytkhoelmbcmkhjaa.upd (Go.Proofs.Ytkhoelmbcmkhjaa.upd η2 n2 (some (.cells 1 [[.int .i64 c.own.msgs[a]]]))) d none) (n2 + 1) (some (.cells 1 (ints s ++ [[.int .i64 c.own.msgs[a]]])))) y = η' y := fun y hy => by rw [upd_ne (by omega), upd_ne (by omega), upd_ne (by omega), hk1 y (by omega), upd_ne (by omega)]
        have hn3 : (Go.Proofs.Ytkhoelmbcmkhjaa.upd (Go.Proofs.Ytkhoelmbcmkhjaa.upd (Go.Proofs.Ytkhoelmbcmkhjaa.upd η2 n2 (some (.cells 1 [[.int .i64 c.own.msgs[a]]]))) d none) (n2 + 1) (some (.cells 1 (ints s ++ [[.int .i64 c.own.msgs[a]]])))) n' = some (.cells 2 [[.int .i64 a, .int .i64 b]]) := by rw [upd_ne (by omega), upd_ne (by omega), upd_ne (by omega), hn2]
        have hL3 := hI.lk.keep hI.free hk3
        have hx3 : IsL (Go.Proofs.Ytkhoelmbcmkhjaa.upd (Go.Proofs.Ytkhoelmbcmkhjaa.upd (Go.Proofs.Ytkhoelmbcmkhjaa.upd η2 n2 (some (.cells 1 [[.int .i64 c.own.msgs[a]]]))) d none) (n2 + 1) (some (.cells 1 (ints s ++ [[.int .i64 c.own.msgs[a]]])))) (.sl (n2 + 1) 0 (s.length + 1)) (s ++ [c.own.msgs[a]]) := IsL.own1 (by simp) (by rw [upd_eq]; simp [ints])
        simp [lk_some, chkK, hg2, hn2, h2', abuildS, afillP, tek, chunk, appK, aappend, arows, upd_eq, upd_ne hdn, hd, ints_length, lenMax, hb1, hb2, tk_ints]
        refine CondP.dec (fun h3 => ?_) (fun h3 => ?_)
        · simp [h3]
          rw [if_pos (by omega)] at hrs
          rw [← hrs]
          exact resK.same ⟨vs', rfl, hL3, fun y h1 h2 h3 => by rw [hk3 y (by omega)]; exact hfr y h1 h2 h3, by omega⟩ (Nat.le_refl _)
        · rw [if_neg (by omega)] at hrs
          simp [h3, aload, afield, apart, hn3]
          refine ACK.use (lgoes_ac b hL3 h0 h200 hx3 (by simp; omega) fun k => by have := hI.sh k; omega).freshP ?_
          intro r4 η4 n4 ⟨⟨vs4, e4, hL4, hfr4, hn4⟩, hf4⟩
          subst e4
          have hfr5 : FrG n g q η η4 := fun y h1 h2 h3 => by rw [hfr4 y (by omega) h2 h3, hk3 y (by omega)]; exact hfr y h1 h2 h3
          have hfr6 : FrG (n + 1) g q (Go.Proofs.Ytkhoelmbcmkhjaa.upd η n (some (.cells 2 [tblC t]))) η4 := fun y h1 h2 h3 => by rw [hfr4 y (by omega) h2 h3, hk3 y (by omega)]; exact hI.fr y h1 h2 h3
          simp
          have et : (b : Int).toNat = b := by omega
          rw [et] at hrs
          by_cases h5 : (goesL c x' b (s ++ [c.own.msgs[a]])).2 = 0
          · rw [if_pos h5] at hrs
            have ew : IntKind.i64.wrap ((k : Int) + 1) = (k : Int) + 1 := wrap_id (by omega) (by omega)
            simp [h5, ew]
            exact endK.intro (k + 1, _, vs4, η4, n4) (⟨by show k + 1 ≤ _; omega, hrs, hL4, hfr6, by show n + 1 ≤ n4; omega, hf4, goesL_all (P := fun l => l.length ≤ 16) hI.sh (by show (s ++ [c.own.msgs[a]]).length ≤ 16; simp; omega)⟩ : RcI c s t x B g q (n + 1) (Go.Proofs.Ytkhoelmbcmkhjaa.upd η n (some (.cells 2 [tblC t]))) (k + 1) (goesL c x' b (s ++ [c.own.msgs[a]])).1 vs4 η4 n4) (by simp) (by repeat (first | exact Agree.mask _ _ | refine Agree.setf rfl ?_ | refine Agree.inner rfl ?_)) (AHeap.le_rfl _) (Nat.le_refl _) (show t.cls.length - (k + 1) < t.cls.length - k by omega)
          · rw [if_neg h5] at hrs
            simp [h5]
            rw [← hrs]
            exact resK.same ⟨vs4, rfl, hL4, hfr5, by omega⟩ (Nat.le_refl _)
      · simp [aload, afield, apart, upd_eq, hg1, aindex, h2', abuildS, afillP, tek, chunk]
        have hs2 : ∀ o o', IsL (Go.Proofs.Ytkhoelmbcmkhjaa.upd (Go.Proofs.Ytkhoelmbcmkhjaa.upd η' n' o) (n' + 1) o') sv s := fun o o' => hsv.keep hI.free fun r hr => by rw [upd_ne (by omega), upd_ne (by omega)]
        refine ACK.use (cloneT_ac (hs2 _ _) (by omega)).freshP ?_
        intro r η2 n2 ⟨⟨d, e1, hd, hd1, hd2, hk1⟩, hf1⟩
        subst e1
        have hlt := hI.lk.lt' hI.free
        have hg2 : η2 g = some (.cells 408 [lookC c (.sl q 0 vs'.length) x'.has x'.todo]) := by rw [hk1 g (by omega), upd_ne (by omega)]; exact hg1 _
        have hn2 : η2 n' = some (.cells 2 [[.int .i64 a, .int .i64 b]]) := by rw [hk1 n' (by omega), upd_ne (by omega), upd_eq]
        have hm2 : η2 (n' + 1) = some (.cells 1 [[.int .i64 c.own.msgs[a]]]) := by rw [hk1 _ (by omega), upd_eq]
        have hdn : d ≠ n2 := by omega
        have hb1 : (s.length + 1) * 8 ≤ 140737488355328 := by omega
        have hb2 : s.length + 1 ≤ 17592186044416 := by omega
        have hk3 : ∀ y, y < n' → (Go.Proofs.Ytkhoelmbcmkhjaa.upd (Go.Proofs.Ytkhoelmbcmkhjaa.upd η2 d none) n2 (some (.cells 1 (ints s ++ [[.int .i64 c.own.msgs[a]]])))) y = η' y := fun y hy => by rw [upd_ne (by omega), upd_ne (by omega), hk1 y (by omega), upd_ne (by omega), upd_ne (by omega)]
        have hn3 : (Go.Proofs.Ytkhoelmbcmkhjaa.upd (Go.Proofs.Ytkhoelmbcmkhjaa.upd η2 d none) n2 (some (.cells 1 (ints s ++ [[.int .i64 c.own.msgs[a]]])))) n' = some (.cells 2 [[.int .i64 a, .int .i64 b]]) := by rw [upd_ne (by omega), upd_ne (by omega), hn2]
        have hL3 := hI.lk.keep hI.free hk3
        have hx3 : IsL (Go.Proofs.Ytkhoelmbcmkhjaa.upd (Go.Proofs.Ytkhoelmbcmkhjaa.upd η2 d none) n2 (some (.cells 1 (ints s ++ [[.int .i64 c.own.msgs[a]]])))) (.sl (n2) 0 (s.length + 1)) (s ++ [c.own.msgs[a]]) := IsL.own1 (by simp) (by rw [upd_eq]; simp [ints])
        simp [lk_some, chkK, hg2, hn2, hm2, h2', appK, aappend, arows, hd, ints_length, lenMax, hb1, hb2, tk_ints]
        refine CondP.dec (fun h3 => ?_) (fun h3 => ?_)
        · simp [h3]
          rw [if_pos (by omega)] at hrs
          rw [← hrs]
          exact resK.same ⟨vs', rfl, hL3, fun y h1 h2 h3 => by rw [hk3 y (by omega)]; exact hfr y h1 h2 h3, by omega⟩ (Nat.le_refl _)
        · rw [if_neg (by omega)] at hrs
          simp [h3, aload, afield, apart, hn3]
          refine ACK.use (lgoes_ac b hL3 h0 h200 hx3 (by simp; omega) fun k => by have := hI.sh k; omega).freshP ?_
          intro r4 η4 n4 ⟨⟨vs4, e4, hL4, hfr4, hn4⟩, hf4⟩
          subst e4
          have hfr5 : FrG n g q η η4 := fun y h1 h2 h3 => by rw [hfr4 y (by omega) h2 h3, hk3 y (by omega)]; exact hfr y h1 h2 h3
          have hfr6 : FrG (n + 1) g q (Go.Proofs.Ytkhoelmbcmkhjaa.upd η n (some (.cells 2 [tblC t]))) η4 := fun y h1 h2 h3 => by rw [hfr4 y (by omega) h2 h3, hk3 y (by omega)]; exact hI.fr y h1 h2 h3
          simp
          have et : (b : Int).toNat = b := by omega
          rw [et] at hrs
          by_cases h5 : (goesL c x' b (s ++ [c.own.msgs[a]])).2 = 0
          · rw [if_pos h5] at hrs
            have ew : IntKind.i64.wrap ((k : Int) + 1) = (k : Int) + 1 := wrap_id (by omega) (by omega)
            simp [h5, ew]
            exact endK.intro (k + 1, _, vs4, η4, n4) (⟨by show k + 1 ≤ _; omega, hrs, hL4, hfr6, by show n + 1 ≤ n4; omega, hf4, goesL_all (P := fun l => l.length ≤ 16) hI.sh (by show (s ++ [c.own.msgs[a]]).length ≤ 16; simp; omega)⟩ : RcI c s t x B g q (n + 1) (Go.Proofs.Ytkhoelmbcmkhjaa.upd η n (some (.cells 2 [tblC t]))) (k + 1) (goesL c x' b (s ++ [c.own.msgs[a]])).1 vs4 η4 n4) (by simp) (by repeat (first | exact Agree.mask _ _ | refine Agree.setf rfl ?_ | refine Agree.inner rfl ?_)) (AHeap.le_rfl _) (Nat.le_refl _) (show t.cls.length - (k + 1) < t.cls.length - k by omega)
          · rw [if_neg h5] at hrs
            simp [h5]
            rw [← hrs]
            exact resK.same ⟨vs4, rfl, hL4, hfr5, by omega⟩ (Nat.le_refl _)
  · have hk : k = t.cls.length := by have := hI.hk; omega
    have hrs := hI.eq
    have hfr : FrG n g q η η' := (k0 _).trans hI.fr (by omega)
    have hn' := hI.le
    have hlt := hL.lt' hf
    have hn : η' n = some (.cells 2 [tblC t]) := by rw [hI.fr n (by omega) (by omega) (by omega), upd_eq]
    have hsv : IsL η' sv s := hL.keepL h0 h hf hfr
    rw [hk, List.drop_length, recvL] at hrs
    simp [h1, aload, afield, apart, hn, tblC]
    refine CondP.dec (fun h2 => ?_) (fun h2 => ?_)
    · rw [if_pos h2] at hrs
      simp [h2]
      rw [← hrs]
      exact resK.same ⟨vs', rfl, hI.lk, hfr, by omega⟩ (Nat.le_refl _)
    · rw [if_neg h2] at hrs
      obtain ⟨b, eb⟩ : ∃ b : Nat, t.tmo = b := ⟨t.tmo.toNat, by omega⟩
      rw [show t.tmo.toNat = b by omega] at hrs
      simp [aload, afield, apart, hn, tblC, eb]
      refine ACK.use (lgoes_ac b hI.lk h0 h200 hsv (by omega) fun k => by have := hI.sh k; omega) ?_
      intro r4 η4 n4 ⟨vs4, e4, hL4, hfr4, hn4⟩
      subst e4
      simp
      rw [← hrs]
      exact resK.same ⟨vs4, rfl, hL4, hfr.trans hfr4 (by omega), by omega⟩ (Nat.le_refl _)
end Go.Proofs.Ytkhoelmbcmkhjaa
