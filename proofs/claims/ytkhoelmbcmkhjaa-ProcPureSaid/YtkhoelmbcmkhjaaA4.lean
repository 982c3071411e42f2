/- Abstract Go, 4: the model yields what 'aval' says. -/
import Derived.Test.YtkhoelmbcmkhjaaA3
namespace Go.Proofs.Ytkhoelmbcmkhjaa

section
variable {P : Program} {own : Own} {M : Mem} {η : AHeap} {n : Nat} {w : World}

theorem afield_sound {s : TypeId} {x v : AVal} {f : Nat} {u : Value} (hx : VR own M x u) (h : afield P s x f = some v) : ∃ y, (Instr.fieldAt s u f).run P w = .ok y w ∧ VR own M v y := by
  unfold afield at h
  cases ht : tfld P s f with
  | none => rw [ht] at h; cases h
  | some q =>
    obtain ⟨o, t, z⟩ := q
    rw [ht] at h
    simp only at h
    unfold tfld at ht
    split at ht
    · rename_i fs hu
      split at ht
      · rename_i fx hfx
        split at ht
        · rename_i zz hz
          split at ht
          · cases ht
          · rename_i hne
            simp only [Option.some.injEq, Prod.mk.injEq] at ht
            obtain ⟨rfl, rfl, rfl⟩ := ht
            have hs := tsize_run hz w
            have key : ∀ a : Addr, (Instr.fieldAt s (.pointer (some a)) f).run P w = .ok (.pointer (some (a.add fx.offset))) w := fun a => by
              unfold Instr.fieldAt underlying fieldPlace Instr.sureAddr
              simp only [Sem.run_bind, run_program, Result.andThen_ok, hu, Sem.run_pure, hfx, hs, hne, if_false]
            cases hx <;> simp only [Option.some.injEq, reduceCtorEq] at h
            · rename_i r i j p hr
              subst h
              exact ⟨_, key _, by rw [add_plain, Nat.add_assoc]; exact .ptr r i (j + fx.offset) p hr⟩
            · rename_i cs j b o arr hb hl hc
              subst h
              exact ⟨_, key _, by rw [add_plain, Nat.add_assoc]; exact .ro cs (j + fx.offset) b o arr hb hl hc⟩
        · cases ht
      · cases ht
    · cases ht

theorem apart_part {t : TypeId} {g : Bool} {n : Nat} (ht : tsh P t = some (g, n)) {cs : List AVal} {A : Array Value} {j : Nat} {v : AVal} (h : apart g n cs j = some v) (hA : A.size = cs.length)
    (hc : ∀ (i : Nat) c, cs[i]? = some c → VR own M c (A.getD i undef)) : ∃ u, (part t A j).run P w = .ok u w ∧ VR own M v u := by
  obtain ⟨h1, h2⟩ := tsh_run ht w
  unfold apart at h
  split at h
  · rename_i hg
    subst hg
    split at h
    · rename_i hh
      obtain ⟨hj, hs⟩ := hh
      cases h
      refine ⟨.agg (A.extract j (j + n)), ?_, .agg _ _ (by simp; omega) (fun c hc => List.all_eq_true.1 hs c hc) fun i c hi => ?_⟩
      · unfold part
        simp only [Sem.run_bind, h1, h2, Result.andThen_ok, if_true, Sem.run_pure]
      · have hil := (List.getElem?_eq_some_iff.1 hi).1
        simp at hil
        rw [List.getElem?_take, if_pos (by omega), List.getElem?_drop] at hi
        have := hc _ c hi
        have e : (A.extract j (j + n)).getD i undef = A.getD (j + i) undef := by
          rw [Array.getD_eq_getD_getElem?, Array.getD_eq_getD_getElem?, Array.getElem?_extract, if_pos (by omega)]
        rw [e]; exact this
    · cases h
  · rename_i hg
    have hg : g = false := by simpa using hg
    subst hg
    have hj := (List.getElem?_eq_some_iff.1 h).1
    refine ⟨A.getD j undef, ?_, hc j v h⟩
    unfold part
    have e : A[j]? = some (A.getD j undef) := by rw [Array.getD_eq_getD_getElem?, Array.getElem?_eq_getElem (by omega)]; rfl
    simp only [Sem.run_bind, h1, Result.andThen_ok, Bool.false_eq_true, if_false, e, Sem.run_pure]

theorem afldv_sound {s : TypeId} {x v : AVal} {f : Nat} {u : Value} (hx : VR own M x u) (h : afldv P s x f = some v) : ∃ y, (Instr.field s u f).run P w = .ok y w ∧ VR own M v y := by
  unfold afldv at h
  split at h
  · rename_i o t z cs ht
    split at h
    · rename_i g m hm
      unfold tfld at ht
      split at ht
      · rename_i fs hu
        split at ht
        · rename_i fx hfx
          split at ht
          · rename_i zz hz
            split at ht
            · cases ht
            · simp only [Option.some.injEq, Prod.mk.injEq] at ht
              obtain ⟨rfl, rfl, rfl⟩ := ht
              cases hx with
              | agg _ A hA hs hc =>
                obtain ⟨y, k1, k2⟩ := apart_part hm h hA hc (w := w)
                refine ⟨y, ?_, k2⟩
                unfold Instr.field underlying asAgg
                simp only [Sem.run_bind, run_program, Result.andThen_ok, hu, Sem.run_pure, hfx, k1]
          · cases ht
        · cases ht
      · cases ht
    · cases h
  · cases h

theorem telem_run {t e : TypeId} (h : telem P t = some e) : P.underlying t = some (.slice e) := by
  unfold telem at h
  split at h
  · rename_i x hx; cases h; exact hx
  · cases h
theorem tarr_run {t e : TypeId} {n : Nat} (h : tarr P t = some (n, e)) : P.underlying t = some (.array n e) := by
  unfold tarr at h
  split at h
  · rename_i x y hx; cases h; exact hx
  · cases h

theorem aindex_sound (hst : St own M η n w) {t : TypeId} {x ix v : AVal} {u ux : Value} (hx : VR own M x u) (hi : VR own M ix ux) (h : aindex P t x ix η = some v) :
    ∃ y, (Instr.indexAt t u ux).run P w = .ok y w ∧ VR own M v y := by
  unfold aindex at h
  split at h
  · rename_i kk i
    cases hi
    cases ht : telem P t with
    | some e =>
      have hu := telem_run ht
      rw [ht] at h
      have key : ∀ (a : Addr) (len cap z : Nat), tsize P e = some z → 0 ≤ i → i < (len : Int) → (Instr.indexAt t (.slice (some a) len cap) (.int kk i)).run P w = .ok (.pointer (some (a.add (i.toNat * z)))) w := fun a len cap z hz h0 h1 => by
        have hs := tsize_run hz w
        unfold Instr.indexAt underlying asIntOf
        simp only [Sem.run_bind, run_program, Result.andThen_ok, hu, Sem.run_pure, h0, h1, and_self, if_true, hs]
      cases hx <;> simp only [reduceCtorEq] at h
      · rename_i r o m p a cap hr hn hm hc
        split at h
        · rename_i k rows hη
          split at h
          · rename_i hh
            obtain ⟨hz, h0, h1⟩ := hh
            cases h
            obtain ⟨p', g1, g2⟩ := hst.obj r _ hη
            rw [hr] at g1; cases g1
            have e1 : p.k = k := g2.1
            obtain ⟨ha, _⟩ := hc (by omega)
            subst ha
            refine ⟨_, key _ _ _ _ hz h0 h1, ?_⟩
            have := VR.ptr (own := own) (M := M) r (o + i.toNat) 0 p hr
            rw [add_plain, ← e1]
            have e2 : p.s + o * p.k + i.toNat * p.k = p.s + (o + i.toNat) * p.k + 0 := by rw [Nat.add_mul]; omega
            rw [e2]; exact this
          · cases h
        · cases h
      · rename_i k rows a cap b o arr hn hm hxl ha hb hk hl hc
        split at h
        · rename_i hh
          obtain ⟨hz, h0⟩ := hh
          split at h
          · rename_i row hrow
            cases h
            have hil := (List.getElem?_eq_some_iff.1 hrow).1
            have := ha (by omega)
            subst this
            refine ⟨_, key _ _ _ _ hz h0 (by omega), ?_⟩
            rw [add_plain]
            exact .ro row 0 b (o + i.toNat * k) arr (hb (by omega)) (fun j c hj => hl _ j row c hrow hj) (fun j c hj => hc _ j row c hrow hj)
          · cases h
        · cases h
      · rename_i r ii j n z p a cap hr hn hm hc
        split at h
        · rename_i hh
          obtain ⟨hz, h0, h1⟩ := hh
          cases h
          obtain ⟨ha, _⟩ := hc (by omega)
          subst ha
          refine ⟨_, key _ _ _ _ hz h0 h1, ?_⟩
          rw [add_plain, Nat.add_assoc]
          exact .ptr r ii _ p hr
        · cases h
    | none =>
      rw [ht] at h
      simp only at h
      split at h
      · rename_i m e r ii j hta
        split at h
        · rename_i z hz
          split at h
          · rename_i hh
            obtain ⟨h0, h1, h2⟩ := hh
            cases h
            have hu := tarr_run hta
            have hs := tsize_run hz w
            cases hx with
            | ptr _ _ _ p hr =>
              refine ⟨_, ?_, .ptr r ii (j + i.toNat * z) p hr⟩
              have h3 : decide (m ≤ 1) = false := by simp; omega
              unfold Instr.indexAt underlying asIntOf Instr.sureAddr
              simp only [Sem.run_bind, run_program, Result.andThen_ok, hu, Sem.run_pure, h0, h1, and_self, if_true, hs, add_plain, Nat.add_assoc]
          · cases h
        · cases h
      · rename_i m e cs j hta
        split at h
        · rename_i z hz
          split at h
          · rename_i hh
            obtain ⟨h0, h1, h2⟩ := hh
            cases h
            have hu := tarr_run hta
            have hs := tsize_run hz w
            cases hx with
            | ro _ _ b o arr hb hl hc =>
              refine ⟨_, ?_, .ro cs (j + i.toNat * z) b o arr hb hl hc⟩
              unfold Instr.indexAt underlying asIntOf Instr.sureAddr
              simp only [Sem.run_bind, run_program, Result.andThen_ok, hu, Sem.run_pure, h0, h1, and_self, if_true, hs, add_plain, Nat.add_assoc]
          · cases h
        · cases h
      · cases h
  · cases h

theorem aindexv_sound {t : TypeId} {x ix v : AVal} {u ux : Value} (hx : VR own M x u) (hi : VR own M ix ux) (h : aindexv P t x ix = some v) : ∃ y, (Instr.index t u ux).run P w = .ok y w ∧ VR own M v y := by
  unfold aindexv at h
  split at h
  · rename_i k i s
    cases hi; cases hx
    split at h
    · rename_i hu
      split at h
      · rename_i h0
        split at h
        · rename_i b hb
          cases h
          refine ⟨_, ?_, .int _ _⟩
          unfold Instr.index underlying asIntOf
          simp only [Sem.run_bind, run_program, Result.andThen_ok, hu, Sem.run_pure, h0, if_true, hb]
        · cases h
      · cases h
    · cases h
  · rename_i k i cs
    cases hi
    split at h
    · rename_i m e hta
      split at h
      · rename_i g z hz
        split at h
        · rename_i hh
          obtain ⟨h0, h1⟩ := hh
          cases hx with
          | agg _ A hA hs hc =>
            obtain ⟨y, k1, k2⟩ := apart_part hz h hA hc (w := w)
            refine ⟨y, ?_, k2⟩
            have hu := tarr_run hta
            obtain ⟨_, hsz⟩ := tsh_run hz w
            unfold Instr.index underlying asIntOf
            simp only [Sem.run_bind, run_program, Result.andThen_ok, hu, Sem.run_pure, h0, h1, and_self, if_true, hsz, k1]
        · cases h
      · cases h
    · cases h
  · cases h

theorem alen_sound (hst : St own M η n w) {x : AVal} {m : Int} {u : Value} {t : TypeId} (hx : VR own M x u) (h : alenT P t x η = some m) (ty : TypeId) :
    (Builtin.len_ #[t] ty #[u]).run P w = .ok (.int .i64 m) w := by
  unfold alenT at h
  unfold Builtin.len_ underlying
  simp only [Sem.run_bind, run_program, Result.andThen_ok, List.getElem?_toArray, List.getElem?_cons_zero]
  split at h
  all_goals try (rename_i hu; cases hx; cases h; simp only [hu, Sem.run_pure, Result.andThen_ok]; rfl)
  · rename_i r hu
    split at h
    · rename_i es hη
      cases h
      cases hx with
      | mp _ p hr =>
        obtain ⟨p', g1, g2⟩ := hst.obj r _ hη
        rw [hr] at g1; cases g1
        obtain ⟨_, _, E, clk, h3, h4, _⟩ := g2
        simp only [hu, Sem.run_pure, Result.andThen_ok]
        simp [getObj, Sem.run, h3, h4, goInt]
    · cases h
  · cases h
theorem acap_sound {x : AVal} {m : Int} {u : Value} {t : TypeId} (hx : VR own M x u) (h : acapT P t x = some m) (ty : TypeId) :
    (Builtin.cap_ #[t] ty #[u]).run P w = .ok (.int .i64 m) w := by
  unfold acapT at h
  unfold Builtin.cap_ underlying
  simp only [Sem.run_bind, run_program, Result.andThen_ok, List.getElem?_toArray, List.getElem?_cons_zero]
  split at h
  all_goals try (rename_i hu; cases hx; cases h; simp only [hu, Sem.run_pure, Result.andThen_ok]; rfl)
  cases h

theorem bound_run {isS : Bool} {lo hi : Option AVal} {lo' hi' : Option Value} {len cap l h : Nat} (hlo : ∀ a, lo = some a → ∃ v, lo' = some v ∧ VR own M a v) (hhi : ∀ a, hi = some a → ∃ v, hi' = some v ∧ VR own M a v)
    (hlo0 : lo = none → lo' = none) (hhi0 : hi = none → hi' = none) (hc : len ≤ cap) (hb : abnd lo hi len = some (l, h)) :
    (Instr.sliceBounds isS len cap lo' hi' none).run P w = .ok (l, h, cap) w ∧ l ≤ h ∧ h ≤ len := by
  have key : ∀ (v : Value) (k : IntKind) (i : Int) (y : Nat) code, v = .int k i → 0 ≤ i → i ≤ (y : Int) → (Instr.sliceBound v y code).run P w = .ok i.toNat w := fun v k i y code e h0 h1 => by
    subst e
    unfold Instr.sliceBound asIntOf
    simp only [Sem.run_bind, Sem.run_pure, Result.andThen_ok, h0, h1, and_self, if_true]
  unfold abnd at hb
  split at hb
  · cases hb
  · rename_i hv hh
    split at hb
    · cases hb
    · rename_i lv hl
      simp only [Option.some.injEq, Prod.mk.injEq] at hb
      obtain ⟨rfl, rfl⟩ := hb
      have e1 : (hi' = none ∧ hv = (len : Int)) ∨ ∃ k, hi' = some (.int k hv) ∧ 0 ≤ hv ∧ hv ≤ (len : Int) := by
        cases hi with
        | none =>
          simp only [Option.some.injEq] at hh
          exact Or.inl ⟨hhi0 rfl, hh.symm⟩
        | some a =>
          obtain ⟨v, e, hv'⟩ := hhi a rfl
          split at hh
          · rename_i he; cases he
          · rename_i x k i he
            cases he
            split at hh
            · rename_i hr
              cases hh
              cases hv'
              exact Or.inr ⟨k, e, hr.1, hr.2⟩
            · cases hh
          · cases hh
      have e2 : (lo' = none ∧ lv = 0) ∨ ∃ k, lo' = some (.int k lv) ∧ 0 ≤ lv ∧ lv ≤ hv := by
        cases lo with
        | none =>
          simp only [Option.some.injEq] at hl
          exact Or.inl ⟨hlo0 rfl, hl.symm⟩
        | some a =>
          obtain ⟨v, e, hv'⟩ := hlo a rfl
          split at hl
          · rename_i he; cases he
          · rename_i x k i he
            cases he
            split at hl
            · rename_i hr
              cases hl
              cases hv'
              exact Or.inr ⟨k, e, hr.1, hr.2⟩
            · cases hl
          · cases hl
      clear hlo hhi hlo0 hhi0 hh hl
      have f1 : 0 ≤ hv ∧ hv ≤ (len : Int) := by rcases e1 with ⟨_, e⟩ | ⟨_, _, e⟩ <;> omega
      have f2 : 0 ≤ lv ∧ lv ≤ hv := by rcases e2 with ⟨_, e⟩ | ⟨_, _, e⟩ <;> omega
      refine ⟨?_, by omega, by omega⟩
      unfold Instr.sliceBounds
      rcases e1 with ⟨rfl, rfl⟩ | ⟨k, rfl, _⟩ <;> rcases e2 with ⟨rfl, rfl⟩ | ⟨k', rfl, _⟩ <;> simp only [Sem.run_bind, Sem.run_pure, Result.andThen_ok]
      · rfl
      · rw [key _ _ _ _ _ rfl f2.1 (by omega)]; rfl
      · rw [key _ _ _ _ _ rfl f1.1 (by omega)]; rfl
      · rw [key _ _ _ _ _ rfl f1.1 (by omega)]; simp only [Result.andThen_ok]; rw [key _ _ _ _ _ rfl f2.1 (by omega)]; rfl
end
end Go.Proofs.Ytkhoelmbcmkhjaa
