/- Abstract Go, 14: a region that draws its order: one order, and what it takes for all others to come to the same. -/
import Derived.Test.YtkhoelmbcmkhjaaAd
namespace Go.Proofs.Ytkhoelmbcmkhjaa

def isChg : Op → Bool
  | .alloc _ | .box _ _ | .buildSlice _ _ _ | .makeSlice _ _ _ | .store _ _ _ | .makeMap _ _ | .mapUpdate _ _ _ _ | .insert _ _ _ _ => true
  | .call c => match c.callee with
    | .builtin .len | .builtin .cap | .builtin .min | .builtin .max => false
    | _ => true
  | _ => false
def isLd : Op → Bool
  | .load _ _ | .slice _ _ _ _ _ | .indexAddr _ _ _ | .lookup _ _ _ _ => true
  | .call _ => true
  | _ => false
def preT (ops : Array Oper) : Array (List Nat) :=
  ops.foldl (fun T o => T.push (o.after.toList.flatMap fun e => if Region.binds .any e && decide (e.on < T.size) then e.on :: T.getD e.on [] else [])) #[]
def closedT (ops : Array Oper) (T : Array (List Nat)) : Bool :=
  (List.range ops.size).all fun i => match ops[i]? with
    | some o => (T.getD i []).all fun k => o.after.toList.any fun e => Region.binds .any e && (e.on == k || (T.getD e.on []).contains k)
    | none => true
def canonGo (ops : Array Oper) (T : Array (List Nat)) : List Nat → List Nat → Bool
  | _, [] => true
  | ahead, i :: l => (match ops[i]? with
    | some o => !ahead.contains i && (o.after.toList.all fun e => !Region.binds .any e || (ahead.contains e.on && decide (e.on < ops.size))) &&
        ahead.all (fun k => (T.getD i []).contains k || (match ops[k]? with
          | some ok => ok.apart ops o && !isChg ok.op
          | none => false))
    | none => false) && canonGo ops T (i :: ahead) l
def canonOK (ops : Array Oper) (l : List Nat) : Bool := closedT ops (preT ops) && (l.length == ops.size && canonGo ops (preT ops) [] l)

section
variable (P : Program)
def adr (ops : Array Oper) (T : Array (List Nat)) : List Nat → List (Nat × (AHeap → Prop)) → (AState → Prop) → AState → Prop
  | [], _, K, s => K s
  | i :: l, lds, K, s => match ops[i]? with
    | none => False
    | some o => aguard ops o s
        (if isChg o.op then achg P o (aev s.fr) s.η s.n fun v η' n' => (∀ q ∈ lds, (T.getD i []).contains q.1 = false → q.2 η') ∧ adr ops T l lds K ({ s with η := η', n := n' }.put o.dst v)
         else match aval P o (aev s.fr) s.η with
          | some v => adr ops T l (if isLd o.op then (i, fun η => aval P o (aev s.fr) η = some v) :: lds else lds) K (s.put o.dst v)
          | none => False)
        (adr ops T l lds K (s.put o.dst (.tup [])))
end

section
variable {P : Program}
theorem arow_congr {ρ ρ' : Operand → AVal} {l : Array Operand} (h : ∀ x ∈ l, ρ x = ρ' x) : l.toList.map ρ = l.toList.map ρ' := List.map_congr_left fun x hx => h x (by simpa using hx)
theorem mem_ops {o : Op} {x : Operand} (h : x ∈ o.operands.toList) : x ∈ o.operands := by simpa using h
theorem acallV_congr {c : Call} {ρ ρ' : Operand → AVal} {η : AHeap} (h : ∀ x ∈ c.args, ρ x = ρ' x) : acallV P c ρ η = acallV P c ρ' η := by
  obtain ⟨callee, args, ts⟩ := c
  unfold acallV
  simp only at h ⊢
  cases callee with
  | builtin b =>
    simp only
    split
    · rename_i x t ea et; rw [h x (by rw [← Array.mem_toList_iff, ea]; simp)]
    · rename_i x t ea et; rw [h x (by rw [← Array.mem_toList_iff, ea]; simp)]
    · rename_i x y ea; rw [h x (by rw [← Array.mem_toList_iff, ea]; simp), h y (by rw [← Array.mem_toList_iff, ea]; simp)]
    · rename_i x y ea; rw [h x (by rw [← Array.mem_toList_iff, ea]; simp), h y (by rw [← Array.mem_toList_iff, ea]; simp)]
    · rfl
  | _ => rfl
theorem parts_congr {ρ ρ' : Operand → AVal} {ps : Array (Nat × Operand)} (h : ∀ x ∈ (ps.toList.map (·.2)).toArray, ρ x = ρ' x) : (ps.toList.map fun p => (p.1, acells (ρ p.2))) = ps.toList.map fun p => (p.1, acells (ρ' p.2)) :=
  List.map_congr_left fun p hp => by rw [h p.2 (by simp only [List.mem_toArray, List.mem_map]; exact ⟨p, hp, rfl⟩)]
theorem opt_congr {ρ ρ' : Operand → AVal} {x : Option Operand} (h : ∀ y ∈ x.toArray, ρ y = ρ' y) : x.map ρ = x.map ρ' := by
  cases x with
  | none => rfl
  | some x => simp [h x (by simp)]
theorem aval_congr {o : Oper} {ρ ρ' : Operand → AVal} {η : AHeap} (h : ∀ x ∈ o.op.operands, ρ x = ρ' x) : aval P o ρ η = aval P o ρ' η := by
  unfold aval
  cases hop : o.op <;> rw [hop] at h <;> simp only [Op.operands] at h ⊢
  case move x => rw [h x (by simp)]
  case assign x => rw [h x (by simp)]
  case pick a b c => rw [h a (by simp), h b (by simp), h c (by simp)]
  case build t ps => rw [parts_congr h]
  case load t x => rw [h x (by simp)]
  case nilCheck x => rw [h x (by simp)]
  case binOp op t x y ty => rw [h x (by simp), h y (by simp)]
  case unOp op t x => rw [h x (by simp)]
  case convert a b x => rw [h x (by simp)]
  case makeFunc fn a b =>
    cases fn <;> simp only
    rw [arow_congr (l := a) (fun x hx => h x (by simp [hx])), arow_congr (l := b) (fun x hx => h x (by simp [hx]))]
  case slice t x lo hi mx =>
    rw [h x (by simp), opt_congr (x := lo) (fun y hy => h y (by simp [hy])), opt_congr (x := hi) (fun y hy => h y (by simp [hy])), opt_congr (x := mx) (fun y hy => h y (by simp [hy]))]
  case fieldAddr s x f => rw [h x (by simp)]
  case field s x f => rw [h x (by simp)]
  case indexAddr t x y => rw [h x (by simp), h y (by simp)]
  case index t x y => rw [h x (by simp), h y (by simp)]
  case extract x i => rw [h x (by simp)]
  case lookup t x k ok => rw [h x (by simp), h k (by simp)]
  case call c => exact acallV_congr fun x hx => h x (by simp [Call.operands, hx])

theorem aval_heap {o : Oper} {ρ : Operand → AVal} {η η' : AHeap} (h : isLd o.op = false) : aval P o ρ η = aval P o ρ η' := by
  unfold aval
  cases hop : o.op <;> rw [hop] at h <;> simp [isLd] at h <;> rfl

theorem aappend_mono {t t2 : TypeId} {x y : AVal} {η : AHeap} {n : Nat} {K K' : AVal → AHeap → Nat → Prop} (hk : ∀ v η n, K v η n → K' v η n) (h : aappend P t t2 x y η n K) : aappend P t t2 x y η n K' := by
  unfold aappend at *
  repeat' split
  all_goals first | (simp_all; done) | (simp_all; exact h.2.2.1)
theorem acopy_mono {t t2 : TypeId} {x y : AVal} {η : AHeap} {n : Nat} {K K' : AVal → AHeap → Nat → Prop} (hk : ∀ v η n, K v η n → K' v η n) (h : acopy P t t2 x y η n K) : acopy P t t2 x y η n K' := by
  unfold acopy at *
  cases h1 : telem P t with
  | none => simp [h1] at h
  | some e =>
    simp only [h1] at h ⊢
    split at h
    · rename_i z D h2 h3
      refine ⟨h.1, ?_⟩
      have h := h.2
      cases h4 : arows z y η with
      | none => simp [h4] at h
      | some news =>
        simp only [h4] at h ⊢
        refine ⟨h.1, ?_⟩
        have h := h.2
        cases x with
        | nils => exact hk _ _ _ h
        | e0 => exact hk _ _ _ h
        | sl r o m =>
          simp only at h ⊢
          cases h5 : η r with
          | none => simp [h5] at h
          | some ob =>
            cases ob with
            | cells k rows => simp only [h5] at h ⊢; exact ⟨h.1, h.2.1, hk _ _ _ h.2.2⟩
            | map es => simp [h5] at h
        | _ => exact h.elim
    · exact h.elim
theorem anil_mono {x : AVal} {K K' : Bool → Prop} (hk : ∀ b, K b → K' b) (h : anil x K) : anil x K' := by
  unfold anil at *
  split <;> simp_all
theorem achg_mono {o : Oper} {ρ : Operand → AVal} {η : AHeap} {n : Nat} {K K' : AVal → AHeap → Nat → Prop} (hk : ∀ v η n, K v η n → K' v η n) (h : achg P o ρ η n K) : achg P o ρ η n K' := by
  unfold achg at *
  cases hop : o.op <;> rw [hop] at h <;> simp only at h ⊢
  case alloc t => split <;> simp_all
  case box t x => split <;> simp_all
  case buildSlice t l ps => (repeat' split) <;> simp_all
  case makeSlice t l c => (repeat' split) <;> simp_all
  case store t p x => split <;> simp_all
  case makeMap t rs => cases rs <;> simp_all
  case insert t m k x => split <;> simp_all
  case mapUpdate t m k x => split <;> simp_all
  case binOp op t x y ty =>
    have key : ∀ (K1 K2 : Bool → Prop), (∀ b, K1 b → K2 b) → (match P.underlying t, ρ y with
      | some (.slice _), .nils => anil (ρ x) K1
      | _, _ => False) → (match P.underlying t, ρ y with
      | some (.slice _), .nils => anil (ρ x) K2
      | _, _ => False) := fun K1 K2 h12 hh => by
      split at hh
      · exact anil_mono h12 hh
      · exact hh.elim
    cases op <;> simp only at h ⊢
    all_goals first | exact key _ _ (fun b hb => hk _ _ _ hb) h | exact h
  case call c =>
    obtain ⟨callee, args, ts⟩ := c
    simp only at h ⊢
    cases callee with
    | builtin b =>
      simp only at h ⊢
      split at h
      · exact aappend_mono hk h
      · exact acopy_mono hk h
      · exact h
    | value f =>
      simp only at h ⊢
      split at h
      · exact ⟨h.1, h.2.mono hk⟩
      · exact h
    | invoke r m => exact h
theorem achg_congr {o : Oper} {ρ ρ' : Operand → AVal} {η : AHeap} {n : Nat} {K : AVal → AHeap → Nat → Prop} (h : ∀ x ∈ o.op.operands, ρ x = ρ' x) : achg P o ρ η n K = achg P o ρ' η n K := by
  unfold achg
  cases hop : o.op <;> rw [hop] at h <;> simp only [Op.operands] at h ⊢
  case box t x => rw [h x (by simp)]
  case buildSlice t l ps => rw [parts_congr h]
  case makeSlice t l c => rw [h l (by simp), h c (by simp)]
  case store t p x => rw [h p (by simp), h x (by simp)]
  case insert t m k x => rw [h m (by simp), h k (by simp), h x (by simp)]
  case mapUpdate t m k x => rw [h m (by simp), h k (by simp), h x (by simp)]
  case makeMap t rs => cases rs <;> rfl
  case binOp op t x y ty =>
    have e1 := h x (by simp)
    have e2 := h y (by simp)
    cases op <;> simp only [e1, e2]
  case call c =>
    obtain ⟨callee, args, ts⟩ := c
    simp only at h ⊢
    cases callee with
    | builtin b =>
      simp only
      split
      · rename_i x y t t2 ea et
        have ha : ∀ z ∈ args.toList, ρ z = ρ' z := fun z hz => h z (by simp [Call.operands]; simpa using hz)
        rw [ha x (by rw [ea]; simp), ha y (by rw [ea]; simp)]
      · rename_i x y t t2 ea et
        have ha : ∀ z ∈ args.toList, ρ z = ρ' z := fun z hz => h z (by simp [Call.operands]; simpa using hz)
        rw [ha x (by rw [ea]; simp), ha y (by rw [ea]; simp)]
      · rfl
    | value f =>
      simp only
      rw [h f (by simp [Call.operands]), arow_congr (l := args) (fun x hx => h x (by simp [Call.operands, hx]))]
    | invoke r m => rfl

/-- is the operation done? -/
def wantd (ops : Array Oper) (o : Oper) (s : AState) : Option Bool :=
  match o.guard with
  | none => some true
  | some (j, b) => match (ops[j]?).bind (·.dst) with
    | some d => match s.fr d with
      | .bool t => some (t == b)
      | .tup [] => some false
      | _ => none
    | none => none
theorem aguard_iff {ops : Array Oper} {o : Oper} {s : AState} {yes no : Prop} : aguard ops o s yes no ↔ (wantd ops o s = some true ∧ yes) ∨ (wantd ops o s = some false ∧ no) := by
  unfold aguard wantd
  cases hg : o.guard with
  | none => simp
  | some g =>
    obtain ⟨j, b⟩ := g
    simp only
    cases hd : (ops[j]?).bind (·.dst) with
    | none => simp
    | some d =>
      simp only
      cases s.fr d with
      | bool t =>
        simp only [Option.some.injEq]
        cases hb : (t == b) <;> simp
      | tup l => cases l <;> simp
      | _ => simp

theorem AState.fr_put {s : AState} {d : Option Tmp} {v : AVal} {t : Nat} (h : ∀ x, d = some x → x ≠ t) : (s.put d v).fr t = s.fr t := by
  unfold AState.put
  cases d with
  | none => rfl
  | some d =>
    simp only
    split
    · simp only [setf]; rw [if_neg (fun e => h d rfl e.symm)]
    · rfl
theorem AState.put_comm {s : AState} {d d' : Option Tmp} {v v' : AVal} (h : ∀ x, d = some x → d' ≠ some x) : (s.put d v).put d' v' = (s.put d' v').put d v := by
  cases d with
  | none => cases d' <;> rfl
  | some d => cases d' with
    | none => rfl
    | some d' =>
      have hne : d ≠ d' := fun e => h d rfl (by rw [e])
      unfold AState.put
      simp only
      by_cases h1 : d < s.nt <;> by_cases h2 : d' < s.nt <;> simp only [h1, h2, if_true, if_false]
      congr 1
      funext t
      simp only [setf]
      by_cases e1 : t = d <;> by_cases e2 : t = d' <;> simp_all
theorem AState.put_heap {s : AState} {d : Option Tmp} {v : AVal} {η : AHeap} {n : Nat} : ({ s.put d v with η := η, n := n } : AState) = ({ s with η := η, n := n } : AState).put d v := by
  unfold AState.put
  cases d with
  | none => rfl
  | some d => simp only; split <;> rfl
theorem AState.put_η {s : AState} {d : Option Tmp} {v : AVal} : (s.put d v).η = s.η ∧ (s.put d v).n = s.n := by
  unfold AState.put
  cases d with
  | none => exact ⟨rfl, rfl⟩
  | some d => simp only; split <;> exact ⟨rfl, rfl⟩

section
variable {ops : Array Oper} {T : Array (List Nat)} {K : AState → Prop}
theorem ev_put {y : Oper} {s : AState} {d : Option Tmp} {v : AVal} (h : ∀ t, d = some t → t ∉ y.looksAt ops) : ∀ o ∈ y.op.operands, aev (s.put d v).fr o = aev s.fr o := fun o ho => by
  cases o with
  | tmp t =>
    refine AState.fr_put fun z hz e => h z hz ?_
    subst e
    exact List.mem_append_left _ (List.mem_filterMap.2 ⟨.tmp z, by simpa using ho, rfl⟩)
  | _ => rfl
theorem wantd_put {y : Oper} {s : AState} {d : Option Tmp} {v : AVal} (h : ∀ t, d = some t → t ∉ y.looksAt ops) : wantd ops y (s.put d v) = wantd ops y s := by
  unfold wantd
  cases hg : y.guard with
  | none => rfl
  | some g =>
    obtain ⟨j, b⟩ := g
    simp only
    cases hd : (ops[j]?).bind (·.dst) with
    | none => rfl
    | some z =>
      simp only
      rw [AState.fr_put fun x hx e => h x hx ?_]
      subst e
      unfold Oper.looksAt
      refine List.mem_append_right _ ?_
      rw [hg]
      simp [hd]

theorem adr_lds : ∀ (l : List Nat) (lds lds' : List (Nat × (AHeap → Prop))) (s : AState), (∀ q ∈ lds', q ∈ lds) → adr P ops T l lds K s → adr P ops T l lds' K s
  | [], _, _, _, _, h => h
  | i :: l, lds, lds', s, hl, h => by
    unfold adr at h ⊢
    split
    · simp_all
    · rename_i o ho
      simp only [ho] at h
      rw [aguard_iff] at h ⊢
      rcases h with ⟨h1, h2⟩ | ⟨h1, h2⟩
      · refine Or.inl ⟨h1, ?_⟩
        split
        · rename_i hc
          rw [if_pos hc] at h2
          exact achg_mono (fun v η n ⟨k1, k2⟩ => ⟨fun q hq => k1 q (hl q hq), adr_lds l _ _ _ hl k2⟩) h2
        · rename_i hc
          rw [if_neg hc] at h2
          split
          · rename_i v hv
            simp only [hv] at h2
            refine adr_lds l _ _ _ (fun q hq => ?_) h2
            split at hq
            · rename_i hL; rw [if_pos hL]
              rcases List.mem_cons.1 hq with rfl | hq
              · exact List.mem_cons_self
              · exact List.mem_cons_of_mem _ (hl q hq)
            · rename_i hL; rw [if_neg hL]; exact hl q hq
          · rename_i hv; simp only [hv] at h2
      · exact Or.inr ⟨h1, adr_lds l _ _ _ hl h2⟩
end
end
end Go.Proofs.Ytkhoelmbcmkhjaa
