/- Abstract Go, 6: operators; all of 'aval'. -/
import Derived.Test.YtkhoelmbcmkhjaaA5
namespace Go.Proofs.Ytkhoelmbcmkhjaa

section
variable {P : Program} {own : Own} {M : Mem} {η : AHeap} {n : Nat} {w : World}

theorem places_run (w : World) : ∀ (fs : List Field) (pl : List (Nat × Nat)), (fs.mapM fun f => (tsize P f.type).map fun n => (f.offset, n)) = some pl →
    (fs.mapM fun f => (do pure (f.offset, ← sizeOf f.type) : Sem (Nat × Nat))).run P w = .ok pl w
  | [], pl, h => by
    simp at h; subst h; simp
  | f :: fs, pl, h => by
    simp only [List.mapM_cons] at h ⊢
    cases hz : tsize P f.type with
    | none => rw [hz] at h; simp at h
    | some z =>
      rw [hz] at h
      cases hr : (fs.mapM fun f => (tsize P f.type).map fun n => (f.offset, n)) with
      | none => rw [hr] at h; simp at h
      | some rest =>
        rw [hr] at h
        simp at h
        subst h
        have ih := places_run w fs rest hr
        have hs := tsize_run hz w
        simp only [Sem.run_bind, hs, Result.andThen_ok, Sem.run_pure, ih]
theorem zero_run {t : TypeId} {cs : List AVal} (h : tzero P t = some cs) (w : World) : ∃ v, (zeroValue t).run P w = .ok v w ∧ v.cells.size = cs.length ∧ (∀ c ∈ cs, c.sc = true) ∧ (∀ (i : Nat) c, cs[i]? = some c → VR own M c (v.cells.getD i undef)) ∧
    tsize P t = some cs.length := by
  unfold tzero at h
  split at h
  · rename_i i hi
    split at h
    · rename_i v hv
      split at h
      · rename_i hh
        cases h
        simp only [Bool.and_eq_true, decide_eq_true_eq] at hh
        refine ⟨v, ?_, by simp, fun c hc => List.all_eq_true.1 hh.1 c hc, fun j c hj => ?_, ?_⟩
        · unfold zeroValue typeInfo
          simp only [Sem.run_bind, run_program, Result.andThen_ok, hi, Sem.run_pure, hv]
        · rw [List.getElem?_map] at hj
          cases hx : v.cells.toList[j]? with
          | none => rw [hx] at hj; simp at hj
          | some x =>
            rw [hx] at hj; simp at hj; subst hj
            rw [Array.getElem?_toList] at hx
            have : v.cells.getD j undef = x := by simp [Array.getD_eq_getD_getElem?, hx]
            rw [this]; exact vr_abs1 own M x
        · unfold tsize; rw [hi]; simp [hh.2]
      · cases h
    · cases h
  · cases h

theorem build_sound {t : TypeId} {parts : List (Nat × AVal)} {vals : Array (Nat × Value)} {v : AVal} (h : abuild P t (parts.map fun p => (p.1, acells p.2)) = some v) (hl : vals.size = parts.length)
    (hv : ∀ (i : Nat) p q, parts[i]? = some p → vals[i]? = some q → q.1 = p.1 ∧ VR own M p.2 q.2) : ∃ y, (Instr.build t vals).run P w = .ok y w ∧ VR own M v y := by
  unfold abuild at h
  split at h
  · rename_i z pl hz hpl
    obtain ⟨zv, z1, z2, z3, z4, _⟩ := zero_run (own := own) (M := M) hz w
    cases hf : afillP pl z (parts.map fun p => (p.1, acells p.2)) with
    | none => rw [hf] at h; simp at h
    | some out =>
      rw [hf] at h
      simp at h
      subst h
      have fs : ∀ place : Nat → Option (Nat × Nat), place = pl → ∃ B, Instr.fill place zv.cells vals.toList = some B ∧ B.size = out.length ∧ (∀ c ∈ out, c.sc = true) ∧ ∀ (i : Nat) c, out[i]? = some c → VR own M c (B.getD i undef) := fun place e => by
        subst e
        exact fill_sound parts vals.toList z zv.cells out hf (by simpa using hl) (fun i p q hp hq => hv i p q hp (by simpa using hq)) z2 z3 z4
      unfold aplace at hpl
      split at hpl
      · rename_i m e hta
        have hu := tarr_run hta
        cases hz2 : tsize P e with
        | none => rw [hz2] at hpl; simp at hpl
        | some q =>
          rw [hz2] at hpl; simp at hpl
          obtain ⟨B, k1, k2, k3, k4⟩ := fs _ hpl
          refine ⟨.agg B, ?_, .agg _ B k2 k3 k4⟩
          have hs := tsize_run hz2 w
          unfold Instr.build underlying
          simp only [Sem.run_bind, run_program, Result.andThen_ok, z1, hu, Sem.run_pure, hs, k1]
      · cases hpp : tplaces P t with
        | none => rw [hpp] at hpl; simp at hpl
        | some q =>
          rw [hpp] at hpl; simp at hpl
          unfold tplaces at hpp
          split at hpp
          · rename_i fl hu
            obtain ⟨B, k1, k2, k3, k4⟩ := fs (fun i => q.toArray[i]?) (by rw [← hpl]; funext i; simp)
            refine ⟨.agg B, ?_, .agg _ B k2 k3 k4⟩
            have hm := places_run (P := P) w fl.toList q hpp
            have hm2 : (fl.mapM fun f => (do pure (f.offset, ← sizeOf f.type) : Sem (Nat × Nat))).run P w = .ok q.toArray w := by
              rw [Array.mapM_eq_mapM_toList]
              simp only [Sem.run_map, hm, Result.andThen_ok]
            unfold Instr.build underlying
            simp only [Sem.run_bind, run_program, Result.andThen_ok, z1, hu, Sem.run_pure, hm2, k1]
          · cases hpp
  · cases h

theorem plainV_eq {x : AVal} {v u : Value} (h : plainV x = some v) (hx : VR own M x u) : u = v := by
  cases hx <;> simp [plainV] at h <;> exact h
theorem abinP_sound {op : BinOp} {t : TypeId} {u v : Value} {r : AVal} (h : abinP op t u v = some r) : ∃ y, (Go.binOp op t u v).run P w = .ok y w ∧ VR own M r y := by
  unfold abinP at h
  split at h
  · rename_i y hy
    cases h
    exact ⟨y, by rw [hy]; rfl, vr_abs1 own M y⟩
  · cases h
def ng : Value → Bool
  | .nilIface | .agg _ => false
  | _ => true
theorem guard_off {op : BinOp} (t : TypeId) (x y : Operand) (u v : Value) (h : (op matches .eql | .neq) = false) : (eqGuard op t x y u v).run P w = .ok () w := by
  unfold eqGuard
  cases op <;> simp_all
theorem guard_plain {op : BinOp} (t : TypeId) (x y : Operand) (u v : Value) (h : ng u = true) : (eqGuard op t x y u v).run P w = .ok () w := by
  unfold eqGuard
  cases op <;> simp <;> cases u <;> simp_all [ng]

theorem aeqN_sound {t : TypeId} {x y : AVal} {u v : Value} {b : Bool} (hx : VR own M x u) (hy : VR own M y v) (h : aeqB P t x y = some b) :
    (Op.equal t u v).run P w = .ok b w ∧ ng u = true := by
  unfold aeqB at h
  unfold Op.equal
  have e : ∃ d, Op.maxDepth = d + 1 := ⟨9999, rfl⟩
  obtain ⟨d, hd⟩ := e
  rw [hd]
  unfold Op.equalIn underlying
  split at h
  · rename_i a b' hu
    cases h; cases hx; cases hy
    simp only [Sem.run_bind, run_program, Result.andThen_ok, hu, Sem.run_pure]
    exact ⟨trivial, rfl⟩
  · split at h
    · rename_i ht
      unfold aeqT at ht
      cases hU : P.underlying t with
      | none => rw [hU] at ht; simp at ht
      | some D =>
        rw [hU] at ht
        simp only [Sem.run_bind, run_program, Result.andThen_ok, hU, Sem.run_pure]
        cases D <;> cases hx <;> simp at ht <;> cases hy <;> simp [aeqN] at h <;> subst h <;> exact ⟨rfl, rfl⟩
    · cases h

theorem SEq.unique {t : TypeId} {cs ds : List AVal} {b b' : Bool} {A B : Array Value} (h : SEq P t cs ds b) (h' : SEq P t cs ds b') (hA : ∀ own M, VR own M (.agg cs) (.agg A)) (hB : ∀ own M, VR own M (.agg ds) (.agg B)) : b = b' := by
  have h1 := (h A B default hA hB (.global 0) (.global 0)).2
  have h2 := (h' A B default hA hB (.global 0) (.global 0)).2
  rw [h1] at h2; cases h2; rfl

theorem plain_any {cs : List AVal} {A : Array Value} (h : VR own M (.agg cs) (.agg A)) (hp : cs.all isPlain = true) : ∀ own' M', VR own' M' (.agg cs) (.agg A) := fun own' M' => by
  cases h with
  | agg _ _ hA hs hc =>
    refine .agg cs A hA hs fun i c hi => ?_
    have := hc i c hi
    have hpl := List.all_eq_true.1 hp c (List.mem_of_getElem? hi)
    generalize A.getD i undef = z at this
    cases this <;> simp [isPlain] at hpl <;> constructor

theorem binOp_eq {op : BinOp} {t : TypeId} {u v : Value} {b : Bool} (hop : op = .eql ∨ op = .neq) (h1 : (match u with | .bool _ | .pointer _ | .func _ _ _ | .nilFunc | .slice _ _ _ | .map _ | .agg _ => true | _ => false) = true)
    (hb : (Op.equal t u v).run P w = .ok b w) : (Go.binOp op t u v).run P w = .ok (.bool (if op = .eql then b else !b)) w := by
  rcases hop with rfl | rfl <;> cases u <;> simp at h1 <;> unfold Go.binOp <;> simp only [Sem.run_bind, hb, Result.andThen_ok, Sem.run_pure] <;> rfl

theorem abinA_sound {op : BinOp} {t : TypeId} {x y r : AVal} {u v : Value} (xo yo : Operand) (hx : VR own M x u) (hy : VR own M y v) (h : abinA P op t x y = some r) :
    ∃ z, (do eqGuard op t xo yo u v; Go.binOp op t u v : Sem Value).run P w = .ok z w ∧ VR own M r z := by
  have plain : ∀ (op : BinOp) r, abin op t x y = some r → ∃ z, (do eqGuard op t xo yo u v; Go.binOp op t u v : Sem Value).run P w = .ok z w ∧ VR own M r z := fun op r h => by
    unfold abin at h
    split at h
    · rename_i u' v' h1 h2
      have e1 := plainV_eq h1 hx
      have e2 := plainV_eq h2 hy
      subst e1 e2
      obtain ⟨z, k1, k2⟩ := abinP_sound (P := P) (w := w) (own := own) (M := M) h
      refine ⟨z, ?_, k2⟩
      have hg : (eqGuard op t xo yo u v).run P w = .ok () w := guard_plain t xo yo u v (by cases hx <;> simp [plainV] at h1 <;> rfl)
      simp only [Sem.run_bind, hg, Result.andThen_ok, k1]
    · cases h
  have sEq : ∀ (cs ds : List AVal) (b : Bool), x = .agg cs → y = .agg ds → aeqS P t cs ds = some b → ∀ op', (op' = .eql ∨ op' = .neq) → (do eqGuard op' t xo yo u v; Go.binOp op' t u v : Sem Value).run P w = .ok (.bool (if op' = .eql then b else !b)) w := fun cs ds b ex ey hb op' hop => by
    subst ex ey
    unfold aeqS at hb
    split at hb
    · rename_i hh
      have hs := Classical.choose_spec hh.2
      simp only [Option.some.injEq] at hb
      rw [hb] at hs
      have hpl := hh.1
      simp only [Bool.and_eq_true] at hpl
      have hx0 := hx; have hy0 := hy
      cases hx with
      | agg _ A hA hsA hcA =>
        cases hy with
        | agg _ B hB hsB hcB =>
          obtain ⟨g1, g2⟩ := hs A B w (plain_any hx0 hpl.1) (plain_any hy0 hpl.2) xo yo
          have g : (eqGuard op' t xo yo (.agg A) (.agg B)).run P w = .ok () w := by
            rcases hop with rfl | rfl
            · exact g1
            · exact g1
          simp only [Sem.run_bind, g, Result.andThen_ok]
          exact binOp_eq hop rfl g2
    · cases hb
  have nEq : ∀ b, aeqB P t x y = some b → ∀ op', (op' = .eql ∨ op' = .neq) → (do eqGuard op' t xo yo u v; Go.binOp op' t u v : Sem Value).run P w = .ok (.bool (if op' = .eql then b else !b)) w := fun b hb op' hop => by
    obtain ⟨k1, k2⟩ := aeqN_sound (w := w) hx hy hb
    have hg : (eqGuard op' t xo yo u v).run P w = .ok () w := guard_plain t xo yo u v k2
    simp only [Sem.run_bind, hg, Result.andThen_ok]
    refine binOp_eq hop ?_ k1
    unfold aeqB at hb
    split at hb
    · cases hx; rfl
    · split at hb
      · rename_i ht
        unfold aeqT at ht
        cases hx <;> simp at ht <;> first | rfl | (cases hU : P.underlying t <;> rw [hU] at ht <;> simp at ht <;> rename_i D <;> cases D <;> simp at ht)
      · cases hb
  unfold abinA at h
  split at h
  · split at h
    · cases ha : aeqS P t _ _ with
      | none => rw [ha] at h; simp at h
      | some b =>
        rw [ha] at h; simp at h; subst h
        exact ⟨_, sEq _ _ b rfl rfl ha .eql (Or.inl rfl), .bool _⟩
    · exact plain _ _ h
    · exact plain _ _ h
    · cases ha : aeqB P t x y with
      | none => rw [ha] at h; simp at h
      | some b =>
        rw [ha] at h; simp at h; subst h
        exact ⟨_, nEq b ha .eql (Or.inl rfl), .bool _⟩
  · split at h
    · cases ha : aeqS P t _ _ with
      | none => rw [ha] at h; simp at h
      | some b =>
        rw [ha] at h; simp at h; subst h
        exact ⟨_, sEq _ _ b rfl rfl ha .neq (Or.inr rfl), .bool _⟩
    · exact plain _ _ h
    · exact plain _ _ h
    · cases ha : aeqB P t x y with
      | none => rw [ha] at h; simp at h
      | some b =>
        rw [ha] at h; simp at h; subst h
        exact ⟨_, nEq b ha .neq (Or.inr rfl), .bool _⟩
  · exact plain _ _ h

theorem eval_map {ρ : Operand → AVal} {ρ' : Operand → Value} (hρ : ∀ x, VR own M (ρ x) (ρ' x)) (l : Array Operand) : (l.map ρ').size = (l.toList.map ρ).length ∧ ∀ (i : Nat) c, (l.toList.map ρ)[i]? = some c → VR own M c ((l.map ρ').getD i undef) := by
  refine ⟨by simp, fun i c hi => ?_⟩
  rw [List.getElem?_map] at hi
  cases hx : l.toList[i]? with
  | none => rw [hx] at hi; simp at hi
  | some x =>
    rw [hx] at hi; simp at hi; subst hi
    rw [Array.getElem?_toList] at hx
    have : (l.map ρ').getD i undef = ρ' x := by simp [Array.getD_eq_getD_getElem?, hx]
    rw [this]; exact hρ x
theorem opt_map {ρ : Operand → AVal} {ρ' : Operand → Value} (hρ : ∀ x, VR own M (ρ x) (ρ' x)) (x : Option Operand) : OptR own M (x.map ρ) (x.map ρ') := by
  cases x with
  | none => exact ⟨fun x h => by simp at h, fun _ => rfl⟩
  | some x => exact ⟨fun y h => by simp at h; subst h; exact ⟨_, rfl, hρ x⟩, fun h => by simp at h⟩

/-- The model yields what 'aval' says. -/
theorem aval_sound (hst : St own M η n w) {o : Oper} {ρ : Operand → AVal} {ρ' : Operand → Value} (hρ : ∀ x, VR own M (ρ x) (ρ' x)) {v : AVal} (h : aval P o ρ η = some v) :
    ∃ u, (execOp ρ' o).run P w = .ok (.value u) w ∧ VR own M v u := by
  have wrap : ∀ (s : Sem Value), (∃ y, s.run P w = .ok y w ∧ VR own M v y) → ∃ u, (do pure (.value (← s)) : Sem Next).run P w = .ok (.value u) w ∧ VR own M v u := fun s ⟨y, k1, k2⟩ =>
    ⟨y, by simp only [Sem.run_bind, k1, Result.andThen_ok, Sem.run_pure], k2⟩
  unfold aval at h
  unfold execOp
  cases hop : o.op <;> rw [hop] at h <;> simp only [reduceCtorEq] at h ⊢
  case move x => cases h; exact ⟨_, rfl, hρ x⟩
  case assign x => cases h; exact ⟨_, rfl, hρ x⟩
  case pick c a b =>
    have hc := hρ c
    split at h
    · rename_i t ht
      rw [ht] at hc
      cases h
      generalize ρ' c = cv at hc
      cases hc
      refine ⟨if t then ρ' a else ρ' b, by unfold asBool; simp, ?_⟩
      cases t
      · exact hρ b
      · exact hρ a
    · cases h
  case build t parts =>
    refine wrap _ (build_sound (parts := parts.toList.map fun p => (p.1, ρ p.2)) ?_ (by simp) fun i p q hp hq => ?_)
    · rw [← h]; congr 1; simp
    · rw [List.getElem?_map] at hp
      rw [Array.getElem?_map] at hq
      cases hx : parts[i]? with
      | none => rw [hx] at hq; simp at hq
      | some x =>
        rw [Array.getElem?_toList, hx] at hp
        rw [hx] at hq
        simp at hp hq; subst hp hq
        exact ⟨rfl, hρ x.2⟩
  case load t a => exact wrap _ (aload_sound hst (hρ a) h)
  case nilCheck x =>
    have hx := hρ x
    split at h
    · rename_i r i j e; cases h; rw [e] at hx; generalize ρ' x = u at hx; cases hx with | ptr _ _ _ p hr => exact ⟨_, rfl, .ptr r i j p hr⟩
    · rename_i cs j e; cases h; rw [e] at hx; generalize ρ' x = u at hx; cases hx with | ro _ _ b o arr hb hl hc => exact ⟨_, rfl, .ro cs j b o arr hb hl hc⟩
    · rename_i f a b e; cases h; rw [e] at hx; generalize ρ' x = u at hx; cases hx with | func _ _ _ F C hF hC hf hc => exact ⟨_, rfl, .func f a b F C hF hC hf hc⟩
    · cases h
  case binOp op t x y ty => exact wrap _ (abinA_sound x y (hρ x) (hρ y) h)
  case unOp op t x =>
    have hx := hρ x
    unfold aun at h
    split at h
    · rename_i b e; cases h; rw [e] at hx; generalize ρ' x = u at hx; cases hx; exact ⟨_, rfl, .bool _⟩
    · rename_i k m e; cases h; rw [e] at hx; generalize ρ' x = u at hx; cases hx; exact ⟨_, rfl, .int _ _⟩
    · rename_i k m e; cases h; rw [e] at hx; generalize ρ' x = u at hx; cases hx; exact ⟨_, rfl, .int _ _⟩
    · cases h
  case convert src dst x =>
    have hx := hρ x
    split at h
    · rename_i hs
      obtain ⟨d, hd⟩ := Option.isSome_iff_exists.1 hs
      unfold aconv at h
      split at h
      · rename_i k kk m hk e
        cases h
        rw [e] at hx; generalize ρ' x = u at hx; cases hx
        unfold tint at hk
        split at hk
        · rename_i q hq
          cases hk
          refine wrap _ ⟨.int k (k.wrap m), ?_, .int _ _⟩
          unfold convert underlying
          simp only [Sem.run_bind, run_program, Result.andThen_ok, hd, hq, Sem.run_pure]
          unfold Conv.intToInt
          rfl
        · cases hk
      · cases h
    · cases h
  case makeFunc fn first caps =>
    cases fn with
    | func f =>
      cases h
      obtain ⟨f1, f2⟩ := eval_map hρ first
      obtain ⟨c1, c2⟩ := eval_map hρ caps
      exact ⟨_, rfl, .func f _ _ _ _ f1 c1 f2 c2⟩
    | _ => cases h
  case slice t x lo hi mx => exact wrap _ (aslice_sound hst (hρ x) (opt_map hρ lo) (opt_map hρ hi) (opt_map hρ mx) h)
  case fieldAddr s x f => exact wrap _ (afield_sound (hρ x) h)
  case lookup t x k ok => exact wrap _ (lookup_sound hst (hρ x) (hρ k) h)
  case field s x f => exact wrap _ (afldv_sound (hρ x) h)
  case indexAddr t x ix => exact wrap _ (aindex_sound hst (hρ x) (hρ ix) h)
  case index t x ix => exact wrap _ (aindexv_sound (hρ x) (hρ ix) h)
  case extract t ix =>
    have hx := hρ t
    unfold aextract at h
    split at h
    · rename_i vs e
      rw [e] at hx; generalize ρ' t = u at hx
      cases hx with
      | tup _ A hA hc =>
        have hl := (List.getElem?_eq_some_iff.1 h).1
        refine wrap _ ⟨A.getD ix undef, ?_, hc ix v h⟩
        have e : A[ix]? = some (A.getD ix undef) := by rw [Array.getD_eq_getD_getElem?, Array.getElem?_eq_getElem (by omega)]; rfl
        unfold Instr.extract
        simp only [e]; rfl
    · cases h
  case call c =>
    unfold acallV at h
    obtain ⟨callee, args, argTypes⟩ := c
    simp only at h
    cases callee with
    | builtin b =>
      simp only at h
      have toA : ∀ {α : Type} {l : Array α} {m : List α}, l.toList = m → l = m.toArray := fun {α l m} e => by rw [← e]
      split at h
      · rename_i x t ea et
        have ea := toA ea; have et := toA et; subst ea et
        cases hl : alenT P t (ρ x) η with
        | none => rw [hl] at h; simp at h
        | some m =>
          rw [hl] at h; simp at h; subst h
          refine ⟨_, ?_, .int .i64 m⟩
          unfold resolve invoke builtin
          simp only [Sem.run_bind, Sem.run_pure, Result.andThen_ok]
          have := alen_sound hst (hρ x) hl o.type
          simp only [List.map_toArray, List.map_cons, List.map_nil, this, Result.andThen_ok]
      · rename_i x t ea et
        have ea := toA ea; have et := toA et; subst ea et
        cases hl : acapT P t (ρ x) with
        | none => rw [hl] at h; simp at h
        | some m =>
          rw [hl] at h; simp at h; subst h
          refine ⟨_, ?_, .int .i64 m⟩
          unfold resolve invoke builtin
          simp only [Sem.run_bind, Sem.run_pure, Result.andThen_ok]
          have := acap_sound (w := w) (hρ x) hl o.type
          simp only [List.map_toArray, List.map_cons, List.map_nil, this, Result.andThen_ok]
      · rename_i x y ea
        have ea := toA ea; subst ea
        have hx := hρ x; have hy := hρ y
        unfold aminmax at h
        split at h
        · rename_i k a k' b e1 e2
          rw [e1] at hx; rw [e2] at hy
          generalize hu : ρ' x = u at hx; generalize hv : ρ' y = z at hy
          cases hx; cases hy
          split at h
          · rename_i hk
            cases h
            refine ⟨_, ?_, .int _ _⟩
            unfold resolve invoke builtin Builtin.min_
            simp only [Sem.run_bind, Sem.run_pure, Result.andThen_ok, List.map_toArray, List.map_cons, List.map_nil, hu, hv]
            subst hk
            have : (if b < a then b else a) = min a b := by omega
            simp [Builtin.min2, this]
          · cases h
        · cases h
      · rename_i x y ea
        have ea := toA ea; subst ea
        have hx := hρ x; have hy := hρ y
        unfold aminmax at h
        split at h
        · rename_i k a k' b e1 e2
          rw [e1] at hx; rw [e2] at hy
          generalize hu : ρ' x = u at hx; generalize hv : ρ' y = z at hy
          cases hx; cases hy
          split at h
          · rename_i hk
            cases h
            refine ⟨_, ?_, .int _ _⟩
            unfold resolve invoke builtin Builtin.max_
            simp only [Sem.run_bind, Sem.run_pure, Result.andThen_ok, List.map_toArray, List.map_cons, List.map_nil, hu, hv]
            subst hk
            have : (if b > a then b else a) = max a b := by omega
            simp [Builtin.max2, ← this]
          · cases h
        · cases h
      · cases h
    | _ => cases h
end
end Go.Proofs.Ytkhoelmbcmkhjaa
