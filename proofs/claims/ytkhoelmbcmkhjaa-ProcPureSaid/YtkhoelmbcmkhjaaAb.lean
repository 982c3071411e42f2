/- Abstract Go, 11: a function's code, and its contract. -/
import Derived.Test.YtkhoelmbcmkhjaaAa
namespace Go.Proofs.Ytkhoelmbcmkhjaa

/-- from one state to another that says less -/
def Gh (s s' : AState) : Prop := ∀ κ a w, RelE κ s a w → RelE κ s' a w

def Lift (κ : Kap) (Q : Exit → AState → Prop) : Exit → Act → World → Prop := fun e a w => ∃ s, Q e s ∧ RelE κ s a w

section
variable (P : Program)
def thenP (K : AState → Prop) (Q : Exit → AState → Prop) : Exit → AState → Prop
  | .normal, s => K s
  | e, s => Q e s
def inBlockP (id : Nat) (Q : Exit → AState → Prop) : Exit → AState → Prop
  | .exit id', s => if id' = id then Q .normal s else Q (.exit id') s
  | e, s => Q e s
def LoopP (body : (Exit → AState → Prop) → AState → Prop) (Q : Exit → AState → Prop) (s : AState) : Prop :=
  ∃ (ι : Type) (st : ι → AState) (μ : ι → Nat) (x0 : ι), Gh s (st x0) ∧ ∀ x, body (thenP (fun s' => ∃ x', Gh s' (st x') ∧ μ x' < μ x) Q) (st x)
/-- a region that draws its order: to be shown by itself -/
def DrawP (id : Nat) (ops : Array Oper) (Q : Exit → AState → Prop) (s : AState) : Prop :=
  ∀ κ a w, RelE κ s a w → (Code.region id ops true).wp P (Lift κ Q) a w
def awp : Code → (Exit → AState → Prop) → AState → Prop
  | .skip, Q, s => Q .normal s
  | .region id ops draw, Q, s => if draw then DrawP P id ops Q s else aseq P ops ops.toList (Q .normal) s
  | .seq x y, Q, s => awp x (thenP (fun s' => awp y Q s') Q) s
  | .cond c x y, Q, s => match aev s.fr c with
    | .bool t => (t = true → awp x Q s) ∧ (t = false → awp y Q s)
    | _ => False
  | .block id c, Q, s => awp c (inBlockP id Q) s
  | .loop c, Q, s => LoopP (fun Q' s' => awp c Q' s') Q s
  | .exit id, Q, s => Q (.exit id) s
  | .ret, Q, s => Q .ret s
  | _, _, _ => False
end

section
variable {P : Program} {κ : Kap}

theorem least {p : Nat → Prop} (h : ∃ n, p n) : ∃ n, p n ∧ ∀ m, p m → n ≤ m := by
  obtain ⟨n, hn⟩ := h
  induction n using Nat.strongRecOn with
  | _ n ih =>
    by_cases hx : ∃ m, m < n ∧ p m
    · obtain ⟨m, h1, h2⟩ := hx; exact ih m h1 h2
    · exact ⟨n, hn, fun m hm => by
        rcases Nat.lt_or_ge m n with g | g
        · exact absurd ⟨m, g, hm⟩ hx
        · exact g⟩
open Classical in
theorem wp_loop_on {c : Code} {Q : Exit → Act → World → Prop} {ι : Type} {R : ι → Act → World → Prop} {μ : ι → Nat} {a : Act} {w : World} (h0 : ∃ x, R x a w)
    (round : ∀ x a w, R x a w → c.wp P (Exit.then (fun a' w' => ∃ x', R x' a' w' ∧ μ x' < μ x) Q) a w) : (Code.loop c).wp P Q a w := by
  have hex : ∀ a w, (∃ x, R x a w) → ∃ n, ∃ x, R x a w ∧ μ x = n := fun a w ⟨x, h⟩ => ⟨μ x, x, h, rfl⟩
  let m : Act → World → Nat := fun a w => if h : ∃ x, R x a w then Classical.choose (least (hex a w h)) else 0
  refine wp_loop (fun a w => ∃ x, R x a w) m h0 fun a w hI => ?_
  have hm : m a w = Classical.choose (least (hex a w hI)) := dif_pos hI
  obtain ⟨x, hx, hxm⟩ := (Classical.choose_spec (least (hex a w hI))).1
  refine wp_mono (round x a w hx) fun e a' w' hq => ?_
  cases e with
  | normal =>
    obtain ⟨x', h1, h2⟩ := hq
    have hI' : ∃ x, R x a' w' := ⟨x', h1⟩
    refine ⟨hI', ?_⟩
    have hm' : m a' w' = Classical.choose (least (hex a' w' hI')) := dif_pos hI'
    have := (Classical.choose_spec (least (hex a' w' hI'))).2 _ ⟨x', h1, rfl⟩
    omega
  | _ => exact hq

theorem awp_sound : ∀ (c : Code) (Q : Exit → AState → Prop) (s : AState), awp P c Q s → ∀ κ a w, RelE κ s a w → c.wp P (Lift κ Q) a w
  | .skip, Q, s, h, κ, a, w, hr => wp_skip ⟨s, h, hr⟩
  | .region id ops draw, Q, s, h, κ, a, w, hr => by
    simp only [awp] at h
    cases draw with
    | true => exact h κ a w hr
    | false =>
      refine wp_region ?_
      have := aseq_sound (P := P) (κ := κ) (ops := ops) (K := Q .normal) (Q := Lift κ Q) (fun s a w hK hR => ⟨s, hK, hR⟩) ops.size 0 s a w (by omega) hr (by simpa using h)
      rwa [List.range_eq_range']
  | .seq x y, Q, s, h, κ, a, w, hr => by
    simp only [awp] at h
    refine wp_seq (wp_mono (awp_sound x _ s h κ a w hr) fun e a' w' hq => ?_)
    obtain ⟨s', h1, h2⟩ := hq
    cases e with
    | normal => exact awp_sound y Q s' h1 κ a' w' h2
    | _ => exact ⟨s', h1, h2⟩
  | .cond c x y, Q, s, h, κ, a, w, hr => by
    simp only [awp] at h
    obtain ⟨own, M, hR⟩ := hr
    have hv := aev_sound hR.fr c
    split at h
    · rename_i t ht
      rw [ht] at hv
      generalize hev : a.eval c = u at hv
      cases hv
      refine wp_cond_split hev (fun ht => ?_) (fun ht => ?_)
      · exact awp_sound x Q s (h.1 ht) κ a w ⟨own, M, hR⟩
      · exact awp_sound y Q s (h.2 ht) κ a w ⟨own, M, hR⟩
    · exact h.elim
  | .block id c, Q, s, h, κ, a, w, hr => by
    simp only [awp] at h
    refine wp_block (wp_mono (awp_sound c _ s h κ a w hr) fun e a' w' hq => ?_)
    obtain ⟨s', h1, h2⟩ := hq
    cases e with
    | exit id' =>
      simp only [inBlockP] at h1
      simp only [Exit.inBlock]
      by_cases hid : id' = id
      · rw [if_pos hid] at h1 ⊢; exact ⟨s', h1, h2⟩
      · rw [if_neg hid] at h1 ⊢; exact ⟨s', h1, h2⟩
    | _ => exact ⟨s', h1, h2⟩
  | .loop c, Q, s, h, κ, a, w, hr => by
    simp only [awp] at h
    obtain ⟨ι, st, μ, x0, h0, h1⟩ := h
    refine wp_loop_on (R := fun x a w => RelE κ (st x) a w) (μ := μ) ⟨x0, h0 κ a w hr⟩ fun x a w hr => wp_mono (awp_sound c _ (st x) (h1 x) κ a w hr) fun e a' w' hq => ?_
    obtain ⟨s', k1, k2⟩ := hq
    cases e with
    | normal =>
      obtain ⟨x', g1, g2⟩ := k1
      exact ⟨x', g1 κ a' w' k2, g2⟩
    | _ => exact ⟨s', k1, k2⟩
  | .exit id, Q, s, h, κ, a, w, hr => wp_exit ⟨s, h, hr⟩
  | .ret, Q, s, h, κ, a, w, hr => wp_ret ⟨s, h, hr⟩
  | .rangeFunc .., Q, s, h, κ, a, w, hr => by simp only [awp] at h
  | .scope .., Q, s, h, κ, a, w, hr => by simp only [awp] at h
  | .label .., Q, s, h, κ, a, w, hr => by simp only [awp] at h
  | .goto .., Q, s, h, κ, a, w, hr => by simp only [awp] at h
  | .refuse .., Q, s, h, κ, a, w, hr => by simp only [awp] at h

/-- what a function hands back: a value, several, or what lies in its named results -/
def resV (P : Program) (s : AState) : ResultVar → Option AVal
  | .tmp t => some (s.fr t)
  | .cell t ty => aload P ty (s.fr t) s.η
def ares (P : Program) (fn : Func) (s : AState) : Option AVal :=
  match fn.results.toList with
  | [r] => resV P s r
  | rs => (rs.mapM (resV P s)).map .tup
def bodyQ (P : Program) (fn : Func) (K : AVal → AHeap → Nat → Prop) : Exit → AState → Prop
  | .normal, s | .ret, s => match ares P fn s with
    | some v => ∃ η' n', η'.le s.η ∧ s.n ≤ n' ∧ K v η' n'
    | none => False
  | _, _ => False
def args0 (args : List AVal) : Nat → AVal := fun t => args.getD t .undef

def resRun (tmps : Array Value) : ResultVar → Sem Value
  | .tmp t => pure (tmps.getD t undef)
  | .cell a t => do loadVar t (← asAddr (tmps.getD a undef))

theorem cell_run {own : Own} {M : Mem} {η : AHeap} {w : World} {ty : TypeId} {p v : AVal} {x u : Value} (hp : VR own M p x) (h : (Instr.loadAt ty x).run P w = .ok u w) (hv : aload P ty p η = some v) : (do loadVar ty (← asAddr x) : Sem Value).run P w = .ok u w := by
  unfold aload at hv
  unfold Instr.loadAt Instr.sureAddr at h
  cases hp <;> first | (exfalso; revert hv; cases tsh P ty <;> simp; done) | (simp only [pure_bind] at h; unfold asAddr; simp only [pure_bind]; exact h)
theorem resV_sound {s : AState} {a : Act} {w : World} {own : Own} {M : Mem} (h : Rel κ s a w own M) {r : ResultVar} {v : AVal} (hv : resV P s r = some v) : ∃ u, (resRun a.tmps r).run P w = .ok u w ∧ VR own M v u := by
  cases r with
  | tmp t => cases hv; exact ⟨_, rfl, h.fr t⟩
  | cell t ty =>
    obtain ⟨u, k1, k2⟩ := aload_sound h.st (h.fr t) hv
    refine ⟨u, ?_, k2⟩
    exact cell_run (h.fr t) k1 hv

theorem list_results {s : AState} {a : Act} {w : World} {own : Own} {M : Mem} (h : Rel κ s a w own M) : ∀ (rs : List ResultVar) (vs : List AVal), rs.mapM (resV P s) = some vs → ∃ us : List Value, (rs.mapM (resRun a.tmps)).run P w = .ok us w ∧ us.length = vs.length ∧ rs.length = vs.length ∧
    ∀ (i : Nat) c, vs[i]? = some c → VR own M c (us.getD i undef)
  | [], vs, hv => by
    simp at hv; subst hv; exact ⟨[], by simp, rfl, rfl, fun i c h => by simp at h⟩
  | r :: rs, vs, hv => by
    simp only [List.mapM_cons] at hv ⊢
    cases h1 : resV P s r with
    | none => rw [h1] at hv; simp at hv
    | some v =>
      cases h2 : rs.mapM (resV P s) with
      | none => rw [h1, h2] at hv; simp at hv
      | some rest =>
        rw [h1, h2] at hv
        simp at hv; subst hv
        obtain ⟨u, k1, k2⟩ := resV_sound h h1
        obtain ⟨us, g1, g2, g3, g4⟩ := list_results h rs rest h2
        refine ⟨u :: us, ?_, by simp [g2], by simp [g3], fun i c hi => ?_⟩
        · simp only [Sem.run_bind, k1, Result.andThen_ok, g1, Sem.run_pure]
        · cases i with
          | zero => simp at hi; subst hi; simpa using k2
          | succ i => simpa using g4 i c (by simpa using hi)

theorem ares_sound {fn : Func} {s : AState} {a : Act} {w : World} {own : Own} {M : Mem} (h : Rel κ s a w own M) {v : AVal} (hv : ares P fn s = some v) : ∃ u, (results fn a.tmps).run P w = .ok u w ∧ VR own M v u := by
  have hres : results fn a.tmps = ((fn.results.mapM (resRun a.tmps)) >>= fun vs => pure (if h : vs.size = 1 then vs[0] else .tuple vs)) := by
    unfold results
    congr 1
  rw [hres]
  unfold ares at hv
  have key : ∀ vs, fn.results.toList.mapM (resV P s) = some vs → ∃ us : List Value, (fn.results.mapM (resRun a.tmps)).run P w = .ok us.toArray w ∧ us.length = vs.length ∧ fn.results.toList.length = vs.length ∧ ∀ (i : Nat) c, vs[i]? = some c → VR own M c (us.getD i undef) := fun vs hvs => by
    obtain ⟨us, k1, k2, k3, k4⟩ := list_results h fn.results.toList vs hvs
    refine ⟨us, ?_, k2, k3, k4⟩
    rw [Array.mapM_eq_mapM_toList]
    simp only [Sem.run_map, k1, Result.andThen_ok]
  split at hv
  · rename_i r hr
    obtain ⟨us, k1, k2, k3, k4⟩ := key [v] (by rw [hr]; simp [hv])
    obtain ⟨u, hu⟩ := List.length_eq_one_iff.1 k2
    subst hu
    refine ⟨u, ?_, by simpa using k4 0 v rfl⟩
    simp only [Sem.run_bind, k1, Result.andThen_ok, Sem.run_pure]
    try simp
  · rename_i rs hrs
    cases hvs : fn.results.toList.mapM (resV P s) with
    | none => rw [hvs] at hv; simp at hv
    | some vs =>
      rw [hvs] at hv; simp at hv; subst hv
      obtain ⟨us, k1, k2, k3, k4⟩ := key vs hvs
      refine ⟨.tuple us.toArray, ?_, .tup vs _ (by simp [k2]) fun i c hi => ?_⟩
      · simp only [Sem.run_bind, k1, Result.andThen_ok, Sem.run_pure]
        have : ¬ us.toArray.size = 1 := fun e => by
          simp at e
          obtain ⟨r, hr⟩ := List.length_eq_one_iff.1 (by rw [k3, ← k2, e] : fn.results.toList.length = 1)
          exact hrs r hr
        rw [dif_neg this]
      · have := k4 i c hi
        simpa [Array.getD_eq_getD_getElem?, List.getD_eq_getElem?_getD] using this

/-- A contract, from the body. -/
theorem AC.of_body {f : FuncId} {fn : Func} {c : Code} {args : List AVal} {η : AHeap} {n : Nat} {K : AVal → AHeap → Nat → Prop} (hf : P.funcs[f]? = some fn) (hb : fn.body = some c) (hn : args.length ≤ fn.ntmps)
    (h : awp P c (bodyQ P fn K) ⟨args0 args, fn.ntmps, η, n⟩) : AC P f args η n K := by
  intro own M w vals hst hsz hv
  refine calls_of_wp hf hb ?_
  have hr : RelE ⟨own, M, w, OB own η, n⟩ ⟨args0 args, fn.ntmps, η, n⟩ { tmps := vals ++ Array.replicate (fn.ntmps - vals.size) undef, defers := [] } w := by
    refine ⟨own, M, hst, fun t => ?_, by simp; omega, rfl, Own.le_refl _, Mem.le_refl _, Fr.refl _ _, ⟨fun b hb => Or.inl hb, fun b hb => Or.inl hb⟩, Nat.le_refl _⟩
    simp only [args0]
    rcases Nat.lt_or_ge t args.length with g | g
    · rw [List.getD_eq_getElem?_getD, List.getElem?_eq_getElem g]
      have := hv t _ (List.getElem?_eq_getElem g)
      rw [Array.getD_eq_getD_getElem?, Array.getElem?_append_left (by omega), ← Array.getD_eq_getD_getElem?]
      exact this
    · rw [List.getD_eq_getElem?_getD, List.getElem?_eq_none g]
      exact .undef _
  refine wp_mono (awp_sound c _ _ h _ _ _ hr) fun e a w' hq => ?_
  obtain ⟨s, h1, own', M', hR⟩ := hq
  have fin : (∃ v, ares P fn s = some v ∧ ∃ η' n', η'.le s.η ∧ s.n ≤ n' ∧ K v η' n') → a.defers = [] ∧ ∃ v, (results fn a.tmps).run P w' = .ok v w' ∧ ∃ u, Ending.returned v = .returned u ∧ Out own M η n w K u w' := fun ⟨v, hv, η', n', k1, k2, k3⟩ => by
    obtain ⟨u, g1, g2⟩ := ares_sound hR hv
    exact ⟨hR.df, u, g1, u, rfl, v, η', n', own', M', k3, Nat.le_trans hR.n k2, hR.st.less k1 k2, g2, hR.le, hR.mle, hR.frm, fun b hb => hR.ob.1 b (OB.less k1 hb), hR.ob.2⟩
  cases e with
  | normal =>
    simp only [bodyQ] at h1
    split at h1
    · exact fin ⟨_, by assumption, h1⟩
    · exact h1.elim
  | ret =>
    simp only [bodyQ] at h1
    split at h1
    · exact fin ⟨_, by assumption, h1⟩
    · exact h1.elim
  | _ => exact h1.elim
end
end Go.Proofs.Ytkhoelmbcmkhjaa
