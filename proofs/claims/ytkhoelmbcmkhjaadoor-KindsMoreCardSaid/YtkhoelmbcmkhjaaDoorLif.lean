/- A law's call that returns true and turns nothing of what was there meets the row; what an argument reads as lies in memory as the predicates say. No function of the program in sight. -/
import Derived.Test.YtkhoelmbcmkhjaaDoorBase
import Derived.ProofKit
import Derived.LaidMore
import Derived.OpenShut
import Derived.Stop.Joined
import Derived.Carry
import Derived.SizedLaws
import Derived.Deep.Slices
namespace Go.Proofs.YtkhoelmbcmkhjaaDoor
open Go.ChangeShapes Go.WideShapes Go.ChangeAt Go.WideMaps Go.WideElems Go.RowKit

theorem trodAll_below {H : Type} {enc : TypeId × Value → H} {P : Program} {W W' : World} (hl : laidOutB P = true) (hb : Below W.heap.size W W') (sp' : Nat → Bool) :
    ∀ {ts : List TypeId} {vs : List Value} {ds : List (DataW H)} {ps : List MemPlace}, (ts.all fun t => P.readableRec t && decide (t < P.types.size)) = true → DataW.TrodAll enc P W 0 (fun _ => true) true ts vs ds ps →
      (∀ x ∈ ps, x.block < W.heap.size) → (∀ x ∈ ps, sp' x.block = true) → DataW.TrodAll enc P W' 0 sp' true ts vs ds ps
  | [], vs, ds, ps, _, h, _, _ => by
    obtain ⟨rfl, rfl, rfl⟩ := trodAll_nil h
    exact h
  | t :: ts, vs, ds, ps, hp, h, hlt, hsp => by
    obtain ⟨v, vs1, d, ds1, a, b, rfl, rfl, rfl, h1, h2⟩ := trodAll_cons h
    simp only [List.all_cons, Bool.and_eq_true, decide_eq_true_eq] at hp
    refine ⟨a, b, Trod_stays hl hp.1.1 hp.1.2 h1 (fun x hx => hb.same (hlt x (List.mem_append_left _ hx))) (fun x hx => hsp x (List.mem_append_left _ hx)), ?_, rfl⟩
    exact trodAll_below hl hb sp' hp.2 h2 (fun x hx => hlt x (List.mem_append_right _ hx)) (fun x hx => hsp x (List.mem_append_right _ hx))

theorem post_true {H : Type} {enc : TypeId × Value → H} {P : Program} {f : Func} {s : ChangeSpec} {W W' : World} {args : Array Value} {ds gs : List (DataW H)} {before : List MemPlace} {tb : TypeId}
    (hl : laidOutB P = true) (hp : (f.params.toList.all fun t => P.readableRec t && decide (t < P.types.size)) = true) (hv : s.vars = []) (hres : f.resultTypes = #[tb]) (htb : P.underlying tb = some .bool)
    (hW : DataW.Whole enc P f.params.toList s.vars false W args.toList ds gs before) (hs : s.fn H ds = { results := [.lit (.bool true)], args := ds, vars := [] }) (hb : Below W.heap.size W W') :
    s.post enc P f false true false false W args (.bool true) W' := by
  have hlt := hW.lt
  obtain ⟨p, q, hA, hV, rfl, hz, hn⟩ := id hW
  have hV' := hV
  rw [hv] at hV'
  obtain ⟨rfl, rfl⟩ := trodVars_none hV'
  rw [List.append_nil] at *
  refine ⟨ds, [], p, [], p, [], hW, ?_, ?_, ?_, hb.frame _, fun h => by cases h⟩
  · rw [List.append_nil, hs, hres]
    exact trodAll_mk1 (shut_bool htb _)
  · rw [List.append_nil, hs]
    exact trodAll_below hl hb _ hp hA hlt (fun x hx => by simpa using hlt x hx)
  · rw [List.append_nil, hs, hv]
    rw [hv] at hV
    exact hV

theorem weightsAll_mem {H : Type} {P : Program} {e : TypeId} : ∀ {l : List (DataW H)} {i : Nat} {d : DataW H}, l[i]? = some d → ∀ n ∈ d.weights P e, n ∈ DataW.weightsAll P e l
  | d0 :: l, 0, d, h, n, hn => by
    simp only [List.getElem?_cons_zero, Option.some.injEq] at h
    subst h
    simp only [DataW.weightsAll, List.mem_append]
    exact Or.inl hn
  | d0 :: l, i + 1, d, h, n, hn => by
    simp only [List.getElem?_cons_succ] at h
    simp only [DataW.weightsAll, List.mem_append]
    exact Or.inr (weightsAll_mem h n hn)
  | [], _, _, h, _, _ => by simp at h

/-- What reads as a slice lies in memory as a list, if each element lies so. -/
theorem slAt_of {H : Type} {enc : TypeId × Value → H} {P : Program} {w : World} {spare : Nat → Bool} {held : Bool} {t e : TypeId} {fuel : Nat} {v : Value} {d : DataW H} {ps : List MemPlace} {α : Type} {k : Nat} {R : World → List Value → α → Prop}
    (ht : P.underlying t = some (.slice e)) (hc : P.cellsOf e = k) (hk : 0 < k) (hby : 8 ≤ P.bytesOf e) [Inhabited α]
    (h : DataW.trod enc P w 0 spare held fuel t [v] = some (d, ps)) (hsz : ∀ n ∈ d.weights P t, n ≤ reachBytes)
    (hel : ∀ (n : Nat) (cs : List Value) (d' : DataW H) (ps' : List MemPlace), DataW.trod enc P w 0 spare held n e cs = some (d', ps') → (∀ m ∈ d'.weights P e, m ≤ reachBytes) → ∃ x, R w cs x) : ∃ l, SlAt k R w v l := by
  subst hc
  rcases Go.Deep.open_slice ht h with ⟨h1, h2⟩ | ⟨a, len, cap, m, n, D, Pl, h1, _, hl, hm, hmm, h2, hx⟩
  · simp only [List.cons.injEq, and_true] at h1
    subst h1
    exact ⟨[], none, 0, rfl, Nat.le_refl _, ⟨by simp, by omega, fun _ => rfl⟩, fun h => absurd h (by simp), fun b o hb => by cases hb⟩
  · simp only [List.cons.injEq, and_true] at h1
    simp only [Prod.mk.injEq] at h2
    obtain ⟨hd, -⟩ := h2
    subst h1 hd
    have hlm : len ≤ m := by rw [hmm]; split <;> omega
    simp only [DataW.weights, ht] at hsz
    have hw0 := hsz _ (List.mem_cons_self)
    simp only [List.length_map, List.length_range] at hw0
    have hlen : len ≤ 17592186044416 := by
      have h8 : (len + (m - len)) * 8 ≤ reachBytes := Nat.le_trans (Nat.mul_le_mul_left _ hby) hw0
      have : reachBytes = 140737488351232 := rfl
      omega
    obtain ⟨X, hX⟩ := Go.Deep.choose_lt (α := α) (n := len) (p := fun i x => ∃ cs', w.cells? 0 (a.add (i * P.cellsOf e)) (P.cellsOf e) = some cs' ∧ R w cs' x) (fun i hi => by
      obtain ⟨cs', g1, g2⟩ := hx i (by omega)
      obtain ⟨x, g3⟩ := hel _ _ _ _ g2 (fun q hq => hsz q (List.mem_cons_of_mem _ (List.mem_append_left _ (weightsAll_mem (i := i) (by simp [hi]) q hq))))
      exact ⟨x, cs', g1, g3⟩)
    have hspot : 0 < len → a.spot = none := by
      intro h0
      obtain ⟨cs', g1, _⟩ := hX 0 h0
      obtain ⟨_, g2, g3⟩ := World.cells?_some g1
      have g4 := g3 0 hk
      rw [List.getElem?_eq_getElem (by omega)] at g4
      unfold World.cell? at g4
      split at g4
      · split at g4
        · cases g4
        · rename_i hn; simpa [Addr.add] using hn
      · cases g4
    refine ⟨(List.range len).map X, some a, cap, by simp, by simpa using hl, ⟨by simpa using hlen, by simp only [maxLen] at hm; omega, fun h => by cases h⟩, fun h0 => ?_, fun b o hb i x hi => ?_⟩
    · have h0' : 0 < len := by simpa using h0
      exact ⟨a.block, a.off, by rw [← hspot h0']⟩
    · have hb' : a = ⟨b, o, none⟩ := by simpa using hb
      subst hb'
      have hi' : i < len := by
        have := (List.getElem?_eq_some_iff.1 hi).1
        simpa using this
      obtain ⟨cs', g1, g2⟩ := hX i hi'
      have hxi : x = X i := by simpa [hi'] using hi.symm
      obtain ⟨_, g3, g4⟩ := World.cells?_some g1
      refine ⟨cs', g3, fun j c hj => ?_, hxi ▸ g2⟩
      have hj' : j < P.cellsOf e := by rw [← g3]; exact (List.getElem?_eq_some_iff.1 hj).1
      have := g4 j hj'
      rw [hj] at this
      have e1 : ((⟨b, o, none⟩ : Addr).add (i * P.cellsOf e)).add j = ⟨b, o + i * P.cellsOf e + j, none⟩ := by
        unfold Addr.add
        by_cases h1 : i * P.cellsOf e = 0
        · by_cases h2 : j = 0 <;> simp [h1, h2]
        · by_cases h2 : j = 0 <;> simp [h1, h2]
      rw [e1] at this
      exact this

theorem intR_of {H : Type} {enc : TypeId × Value → H} {P : Program} {w : World} {spare : Nat → Bool} {held : Bool} {e : TypeId} (he : P.underlying e = some (.int .i64)) :
    ∀ (n : Nat) (cs : List Value) (d' : DataW H) (ps' : List MemPlace), DataW.trod enc P w 0 spare held n e cs = some (d', ps') → (∀ m ∈ d'.weights P e, m ≤ reachBytes) → ∃ x, IntR w cs x := by
  intro n cs d ps h _
  obtain ⟨x, h1, h2, h3⟩ := DataW.trod_int he h
  refine ⟨x, h1, ?_⟩
  simp only [Lit.wf, Bool.and_eq_true, decide_eq_true_eq] at h3
  exact h3

/-- The same for an argument. -/
theorem slAt_of_arg {H : Type} {enc : TypeId × Value → H} {P : Program} {w : World} {spare : Nat → Bool} {held : Bool} {t e : TypeId} {v : Value} {d : DataW H} {ps : List MemPlace} {α : Type} {k base : Nat} {r : Reach} {R : World → List Value → α → Prop}
    (ht : P.underlying t = some (.slice e)) (hc : P.cellsOf e = k) (hk : 0 < k) (hby : 8 ≤ P.bytesOf e) [Inhabited α] (hv : Value.okWide P w r base t v)
    (h : DataW.Trod enc P w 0 spare held t v d ps) (hsz : ∀ n ∈ d.weights P t, n ≤ reachBytes)
    (hel : ∀ (n : Nat) (cs : List Value) (d' : DataW H) (ps' : List MemPlace), DataW.trod enc P w 0 spare held n e cs = some (d', ps') → (∀ m ∈ d'.weights P e, m ≤ reachBytes) → ∃ x, R w cs x) : ∃ l, SlAt k R w v l := by
  obtain ⟨a, len, cap, rfl⟩ := okWide_slice ht hv
  obtain ⟨n, hn⟩ := h
  exact slAt_of ht hc hk hby hn hsz hel
end Go.Proofs.YtkhoelmbcmkhjaaDoor
