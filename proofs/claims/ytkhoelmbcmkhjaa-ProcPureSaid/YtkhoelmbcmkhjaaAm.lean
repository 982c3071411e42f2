/- Abstract Go: maps: what is found, what is put in (lemmas for achg, aval). -/
import Derived.Test.YtkhoelmbcmkhjaaA2
namespace Go.Proofs.Ytkhoelmbcmkhjaa

/-- are two keys the same? -/
def akeq (D : TypeDesc) (a b : AVal) : Option Bool :=
  match D, a, b with
  | .int _, .int k x, .int k' y => if k = k' then some (x == y) else none
  | .string, .str x, .str y => some (x == y)
  | .bool, .bool x, .bool y => some (x == y)
  | _, _, _ => none
def akOK (D : TypeDesc) (k : AVal) : Bool :=
  match D, k with
  | .int _, .int _ _ | .string, .str _ | .bool, .bool _ => true
  | _, _ => false
def afind (D : TypeDesc) (k : AVal) : List (AVal × AVal) → Nat → Option (Option (Nat × AVal))
  | [], _ => some none
  | e :: es, i => match akeq D k e.1 with
    | some true => some (some (i, e.2))
    | some false => afind D k es (i + 1)
    | none => none
section
variable (P : Program)
def ainsert (t : TypeId) (m k v : AVal) (η : AHeap) : Option AHeap :=
  match P.underlying t, m with
  | some (.map kt _), .mp r => match P.underlying kt, η r with
    | some D, some (.map es) => if akOK D k = true then (match afind D k es 0 with
      | some none => some (upd η r (some (.map (es ++ [(k, v)]))))
      | some (some (i, _)) => some (upd η r (some (.map (es.set i (k, v)))))
      | none => none) else none
    | _, _ => none
  | _, _ => none
end

section
variable (P : Program)
/-- a type's zero -/
def azv (t : TypeId) : Option AVal := match P.info? t with
  | some i => i.zero.map abs
  | none => none
def alookup (t : TypeId) (x k : AVal) (ok : Bool) (η : AHeap) : Option AVal :=
  match P.underlying t with
  | some (.map kt vt) => match P.underlying kt with
    | some D => if akOK D k = true then (match (match x with
        | .nilm => some []
        | .mp r => (match η r with
          | some (.map es) => some es
          | _ => none)
        | _ => none) with
      | some es => match afind D k es 0 with
        | some (some (_, v)) => some (if ok then .tup [v, .bool true] else v)
        | some none => (azv P vt).map fun v => if ok then .tup [v, .bool false] else v
        | none => none
      | none => none) else none
    | none => none
  | _ => none
end
section
variable {P : Program} {own : Own} {M : Mem} {η : AHeap} {n : Nat} {w : World} {K : AVal → AHeap → Nat → Prop}
theorem akeq_sound {D : TypeDesc} {a b : AVal} {u v : Value} {t : Bool} (hu : VR own M a u) (hv : VR own M b v) (h : akeq D a b = some t) : Instr.sameNow D u v = some t := by
  unfold akeq at h
  split at h
  · cases hu; cases hv
    unfold Instr.sameNow
    exact h
  · cases hu; cases hv; unfold Instr.sameNow; exact h
  · cases hu; cases hv; unfold Instr.sameNow; exact h
  · cases h
theorem afind_sound {D : TypeDesc} {k : AVal} {u : Value} (hu : VR own M k u) : ∀ (es : List (AVal × AVal)) (E : List MapEntry) (i : Nat) (r : Option (Nat × AVal)), E.length = es.length →
    (∀ (j : Nat) (e : AVal × AVal) (x : MapEntry), es[j]? = some e → E[j]? = some x → VR own M e.1 x.key ∧ VR own M e.2 x.val) → afind D k es i = some r →
    (r = none ∧ Instr.findNow D u E i = some none) ∨ ∃ j a e x, r = some (i + j, a) ∧ es[j]? = some e ∧ E[j]? = some x ∧ a = e.2 ∧ akeq D k e.1 = some true ∧ Instr.findNow D u E i = some (some (i + j, x.val))
  | [], E, i, r, hl, _, h => by
    have : E = [] := List.eq_nil_of_length_eq_zero (by simpa using hl)
    subst this
    simp [afind] at h
    exact Or.inl ⟨h.symm, rfl⟩
  | e :: es, [], i, r, hl, _, h => by simp at hl
  | e :: es, x :: E, i, r, hl, he, h => by
    obtain ⟨h1, h2⟩ := he 0 e x (by simp) (by simp)
    unfold afind at h
    cases hk : akeq D k e.1 with
    | none => rw [hk] at h; cases h
    | some b =>
      have hs := akeq_sound hu h1 hk
      cases b with
      | true =>
        rw [hk] at h; cases h
        refine Or.inr ⟨0, e.2, e, x, by simp, by simp, by simp, rfl, hk, ?_⟩
        unfold Instr.findNow; rw [hs]; rfl
      | false =>
        rw [hk] at h
        simp only at h
        rcases afind_sound hu es E (i + 1) r (by simpa using hl) (fun j e' x' g1 g2 => he (j + 1) e' x' (by simpa using g1) (by simpa using g2)) h with ⟨g1, g2⟩ | ⟨j, a, e', x', g1, g2, g3, g4, g5, g6⟩
        · refine Or.inl ⟨g1, ?_⟩
          unfold Instr.findNow; rw [hs]; exact g2
        · refine Or.inr ⟨j + 1, a, e', x', by rw [g1]; congr 2; omega, by simpa using g2, by simpa using g3, g4, g5, ?_⟩
          unfold Instr.findNow; rw [hs]
          rw [show i + (j + 1) = i + 1 + j by omega]; exact g6
theorem checkKey_ok {kt : TypeId} {D : TypeDesc} {k : AVal} {u : Value} (b : Bool) (hD : P.underlying kt = some D) (hk : akOK D k = true) (hu : VR own M k u) : (Instr.checkKey b 10000 kt u).run P w = .ok () w := by
  have hr := run_underlying hD w
  unfold akOK at hk
  split at hk
  · cases hu
    unfold Instr.checkKey
    simp only [Sem.run_bind, hr, Result.andThen_ok]; rfl
  · cases hu
    unfold Instr.checkKey
    simp only [Sem.run_bind, hr, Result.andThen_ok]; rfl
  · cases hu
    unfold Instr.checkKey
    simp only [Sem.run_bind, hr, Result.andThen_ok]; rfl
  · cases hk
theorem findKey_ok {kt : TypeId} {D : TypeDesc} {u : Value} {E : List MapEntry} {r : Option (Nat × Value)} (hD : P.underlying kt = some D) (h : Instr.findNow D u E 0 = some r) : (Instr.findKey kt u E).run P w = .ok r w := by
  unfold Instr.findKey
  simp only [Sem.run_bind, run_underlying hD w, Result.andThen_ok, h]; rfl
theorem bytesBeq (a b : ByteArray) : (a == b) = true ↔ a = b := by
  obtain ⟨x⟩ := a; obtain ⟨y⟩ := b
  constructor
  · intro h
    have : (x == y) = true := h
    rw [eq_of_beq this]
  · intro h
    cases h
    show (x == x) = true
    simp
theorem keyStays_ok {D : TypeDesc} {a b : AVal} {u v : Value} (hu : VR own M a u) (hv : VR own M b v) (h : akeq D a b = some true) : (Instr.keyThatStays v u).run P w = .ok u w := by
  have hs : Instr.sameBits 10000 v u = true := by
    unfold akeq at h
    split at h
    · cases hu; cases hv
      split at h
      · rename_i e; subst e
        simp at h; subst h
        simp [Instr.sameBits]
      · cases h
    · cases hu; cases hv; simp only [Option.some.injEq] at h
      simp only [Instr.sameBits]
      rename_i x y
      rw [bytesBeq] at h ⊢
      exact h.symm
    · cases hu; cases hv; simp at h; subst h
      simp [Instr.sameBits]
    · cases h
  unfold Instr.keyThatStays
  simp [hs]

theorem setMap_run {b : Nat} {E E' : Array MapEntry} {c c' : Nat} (h : w.heap[b]? = some (.map E c)) : (setObj b (.map E' c')).run P w = .ok () { w with heap := w.heap.setIfInBounds b (.map E' c') } := by
  simp [setObj, Sem.run, h]
theorem getMap_run {b : Nat} {E : Array MapEntry} {c : Nat} (h : w.heap[b]? = some (.map E c)) : (getObj b).run P w = .ok (.map E c) w := by
  simp [getObj, Sem.run, h]
/-- an entry put into a map -/
theorem insert_sound (hst : St own M η n w) {t : TypeId} {m k v : AVal} {um uk uv : Value} (hm : VR own M m um) (hk : VR own M k uk) (hv : VR own M v uv) {η' : AHeap} (h : ainsert P t m k v η = some η') :
    ∃ w', (Instr.mapUpdate t um uk uv).run P w = .ok () w' ∧ St own M η' n w' ∧ Fr (OB own η) w w' ∧ ∀ b, OB own η' b → OB own η b := by
  unfold ainsert at h
  split at h
  · rename_i kt vt r hu
    split at h
    · rename_i D es hD hη
      split at h
      · rename_i hok
        obtain ⟨p, hp, h1, h2, E, clk, h3, h4, h5, h6⟩ := hst.obj r _ hη
        cases hm with
        | mp _ p' hp' =>
        rw [hp] at hp'; cases hp'
        have hlt := blk_lt' h3
        have hob : OB own η p.b := ⟨r, p, _, hη, hp, h1, rfl⟩
        have go : ∀ (E' : Array MapEntry) (clk' : Nat) (es' : List (AVal × AVal)), E'.size = es'.length → (∀ e ∈ E'.toList, e.born < clk') →
            (∀ (i : Nat) (e : AVal × AVal) (x : MapEntry), es'[i]? = some e → E'[i]? = some x → VR own M e.1 x.key ∧ VR own M e.2 x.val) →
            St own M (upd η r (some (.map es'))) n { w with heap := w.heap.setIfInBounds p.b (.map E' clk') } ∧ Fr (OB own η) w { w with heap := w.heap.setIfInBounds p.b (.map E' clk') } ∧ ∀ b, OB own (upd η r (some (.map es'))) b → OB own η b := fun E' clk' es' g1 g2 g3 => by
          have hb : ∀ b, b ≠ p.b → ({ w with heap := w.heap.setIfInBounds p.b (.map E' clk') } : World).heap[b]? = w.heap[b]? := fun b hb => by
            simp [Array.getElem?_setIfInBounds_ne (Ne.symm hb)]
          refine ⟨hst.turn hη hp ⟨h1, h2, E', clk', by simp [hlt], g1, g2, g3⟩ hb h1, ⟨rfl, rfl, rfl, by simp, fun b _ hd => hb b fun e => hd (e ▸ hob)⟩, fun b hb => OB.turn hη hb⟩
        have hrun : ∀ (R : Option (Nat × Value)), Instr.findNow D uk E.toList 0 = some R → (Instr.mapUpdate t (.map (some p.b)) uk uv).run P w = (match R with
            | some (i, _) => (do
                let key ← Instr.keyThatStays (((E[i]?).map (·.key)).getD uk) uk
                setObj p.b (.map (E.modify i fun e => { e with key, val := uv }) clk) : Sem Unit).run P w
            | none => (setObj p.b (.map (E.push { key := uk, val := uv, born := clk }) (clk + 1)) : Sem Unit).run P w) := fun R hR => by
          unfold Instr.mapUpdate
          simp only [Sem.run_bind, run_underlying hu w, Result.andThen_ok, getMap_run h3, checkKey_ok false hD hok hk, findKey_ok hD hR]
          cases R with
          | none => rfl
          | some q => simp only [Sem.run_bind]
        split at h
        · rename_i hf
          cases h
          rcases afind_sound hk es E.toList 0 none (by simpa using h4) (fun j e x g1 g2 => h6 j e x g1 (by simpa using g2)) hf with ⟨_, g⟩ | ⟨j, a, e, x, g, _⟩
          · refine ⟨_, (hrun none g).trans (setMap_run h3), go _ _ _ (by simp [h4]) (fun e he => ?_) (fun i e x g1 g2 => ?_)⟩
            · simp at he
              rcases he with he | rfl
              · have := h5 e (by simpa using he); omega
              · simp
            · rcases Nat.lt_or_ge i es.length with hi | hi
              · rw [List.getElem?_append_left hi] at g1
                rw [Array.getElem?_push, if_neg (by omega)] at g2
                exact h6 i e x g1 g2
              · have hi2 : i = es.length := by
                  have := (List.getElem?_eq_some_iff.1 g1).1
                  simp at this; omega
                subst hi2
                simp at g1; subst g1
                rw [Array.getElem?_push, if_pos h4.symm] at g2
                cases g2
                exact ⟨hk, hv⟩
          · cases g
        · rename_i i a hf
          cases h
          rcases afind_sound hk es E.toList 0 _ (by simpa using h4) (fun j e x g1 g2 => h6 j e x g1 (by simpa using g2)) hf with ⟨g, _⟩ | ⟨j, a', e, x, g, g2, g3, g4, g5, g6⟩
          · cases g
          · simp only [Nat.zero_add, Option.some.injEq, Prod.mk.injEq] at g g6
            obtain ⟨rfl, rfl⟩ := g
            have g3' : E[i]? = some x := by simpa using g3
            have hks := keyStays_ok (P := P) (w := w) hk (h6 i e x g2 g3').1 g5
            refine ⟨_, (hrun _ g6).trans ?_, go (E.modify i fun e => { e with key := uk, val := uv }) clk _ (by simp [h4]) (fun e he => ?_) (fun i' e' x' q1 q2 => ?_)⟩
            · simp only [g3', Option.map_some, Option.getD_some, Sem.run_bind, hks, Result.andThen_ok]
              exact setMap_run h3
            · obtain ⟨i', hi', rfl⟩ := List.getElem_of_mem he
              simp only [Array.getElem_toList, Array.getElem_modify]
              have : (E[i']'(by simpa using hi')) ∈ E.toList := by simp
              have h7 := h5 _ this
              split <;> exact h7
            · by_cases hi : i = i'
              · subst hi
                rw [Array.getElem?_modify, if_pos rfl, g3'] at q2
                simp at q2; subst q2
                rw [List.getElem?_set] at q1
                simp at q1
                obtain ⟨_, rfl⟩ := q1
                exact ⟨hk, hv⟩
              · rw [Array.getElem?_modify, if_neg hi] at q2
                rw [List.getElem?_set, if_neg hi] at q1
                exact h6 i' e' x' q1 q2
        · cases h
      · cases h
    · cases h
  · cases h
theorem azv_run {t : TypeId} {v : AVal} (h : azv P t = some v) : ∃ u, (zeroValue t).run P w = .ok u w ∧ VR own M v u := by
  unfold azv at h
  split at h
  · rename_i i hi
    cases hz : i.zero with
    | none => rw [hz] at h; cases h
    | some z =>
      rw [hz] at h; cases h
      refine ⟨z, ?_, vr_abs own M z⟩
      unfold zeroValue typeInfo
      simp only [Sem.run_bind, run_program, Result.andThen_ok, hi, Sem.run_pure, hz]
  · cases h
theorem vr_okp {ok b : Bool} {v : AVal} {u : Value} (h : VR own M v u) : VR own M (if ok then .tup [v, .bool b] else v) (if ok then .tuple #[u, .bool b] else u) := by
  cases ok
  · exact h
  · refine .tup _ _ rfl fun i c hi => ?_
    match i, hi with
    | 0, hi => simp at hi; subst hi; exact h
    | 1, hi => simp at hi; subst hi; exact .bool b
    | i + 2, hi => simp at hi
/-- a key looked up -/
theorem lookup_sound (hst : St own M η n w) {t : TypeId} {x k v : AVal} {ux uk : Value} {ok : Bool} (hx : VR own M x ux) (hk : VR own M k uk) (h : alookup P t x k ok η = some v) :
    ∃ u, (Instr.lookup t ux uk ok).run P w = .ok u w ∧ VR own M v u := by
  unfold alookup at h
  split at h
  · rename_i kt vt hu
    split at h
    · rename_i D hD
      split at h
      · rename_i hok
        split at h
        · rename_i es hes
          have key : ∀ (E : Array MapEntry), E.size = es.length → (∀ (j : Nat) (e : AVal × AVal) (x : MapEntry), es[j]? = some e → E[j]? = some x → VR own M e.1 x.key ∧ VR own M e.2 x.val) →
              (∀ (F : Array MapEntry → Sem Value), (do
                let es ← match ux with
                  | .map none => pure #[]
                  | .map (some r) => do
                    let .map es _ ← getObj r | stuck "Lookup: map expected"
                    pure es
                  | _ => stuck "Lookup: map expected"
                F es : Sem Value).run P w = (F E).run P w) → ∃ u, (Instr.lookup t ux uk ok).run P w = .ok u w ∧ VR own M v u := fun E g1 g2 g3 => by
            have hrun : ∀ (R : Option (Nat × Value)), Instr.findNow D uk E.toList 0 = some R → (Instr.lookup t ux uk ok).run P w = (match R with
                | some (_, v) => (pure (if ok then .tuple #[v, .bool true] else v) : Sem Value).run P w
                | none => (do let z ← zeroValue vt; pure (if ok then .tuple #[z, .bool false] else z) : Sem Value).run P w) := fun R hR => by
              unfold Instr.lookup
              simp only [Sem.run_bind, run_underlying hu w, Result.andThen_ok]
              refine (g3 _).trans ?_
              simp only [Sem.run_bind, checkKey_ok _ hD hok hk, findKey_ok hD hR, Result.andThen_ok]
              cases R with
              | none =>
                simp only [Sem.run_bind]
                cases (zeroValue vt).run P w <;> rfl
              | some q => rfl
            split at h
            · rename_i i a hf
              cases h
              rcases afind_sound hk es E.toList 0 _ (by simpa using g1) (fun j e x h1 h2 => g2 j e x h1 (by simpa using h2)) hf with ⟨g, _⟩ | ⟨j, a', e, y, g, k2, k3, k4, k5, k6⟩
              · cases g
              · simp only [Nat.zero_add, Option.some.injEq, Prod.mk.injEq] at g k6
                obtain ⟨rfl, rfl⟩ := g
                refine ⟨_, (hrun _ k6).trans rfl, ?_⟩
                rw [k4]
                exact vr_okp (g2 i e y k2 (by simpa using k3)).2
            · rename_i hf
              rcases afind_sound hk es E.toList 0 _ (by simpa using g1) (fun j e x h1 h2 => g2 j e x h1 (by simpa using h2)) hf with ⟨_, g⟩ | ⟨j, a', e, y, g, _⟩
              · cases hz : azv P vt with
                | none => rw [hz] at h; cases h
                | some z =>
                  rw [hz] at h; cases h
                  obtain ⟨u, u1, u2⟩ := azv_run (own := own) (M := M) (w := w) hz
                  refine ⟨if ok then .tuple #[u, .bool false] else u, (hrun _ g).trans ?_, vr_okp u2⟩
                  simp only [Sem.run_bind, u1, Result.andThen_ok, Sem.run_pure]
              · cases g
            · cases h
          split at hes
          · cases hes
            cases hx
            exact key #[] rfl (fun j e x g => by simp at g) fun F => rfl
          · rename_i r
            split at hes
            · rename_i es' hη
              cases hes
              obtain ⟨p, hp, h1, h2, E, clk, h3, h4, h5, h6⟩ := hst.obj r _ hη
              cases hx with
              | mp _ p' hp' =>
              rw [hp] at hp'; cases hp'
              refine key E h4 h6 fun F => ?_
              simp only [Sem.run_bind, getMap_run h3, Result.andThen_ok, Sem.run_pure]
            · cases hes
          · cases hes
        · cases h
      · cases h
    · cases h
  · cases h
end
end Go.Proofs.Ytkhoelmbcmkhjaa
