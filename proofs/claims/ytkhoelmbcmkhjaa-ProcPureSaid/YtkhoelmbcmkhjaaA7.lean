/- Abstract Go, 7: operations that make or write memory; contracts of calls. -/
import Derived.Test.YtkhoelmbcmkhjaaA6
import Derived.Laws.CopyRow
import Derived.Laws.MakeOwn
import Derived.Laws.OwnMore
namespace Go.Proofs.Ytkhoelmbcmkhjaa

/-- no block that lay there and that nobody knew is known behind -/
def Kn (own : Own) (M : Mem) (η : AHeap) (size : Nat) (own' : Own) (M' : Mem) (η' : AHeap) : Prop :=
  (∀ b, OB own' η' b → OB own η b ∨ size ≤ b) ∧ ∀ b, M' b ≠ none → M b ≠ none ∨ OB own η b ∨ size ≤ b
/-- what comes out, from where one stood -/
def Out (own : Own) (M : Mem) (η : AHeap) (n : Nat) (w : World) (K : AVal → AHeap → Nat → Prop) (u : Value) (w' : World) : Prop :=
  ∃ v η' n' own' M', K v η' n' ∧ n ≤ n' ∧ St own' M' η' n' w' ∧ VR own' M' v u ∧ own.le own' ∧ M.le M' ∧ Fr (OB own η) w w' ∧ Kn own M η w.heap.size own' M' η'

/-- a function's contract -/
def AC (P : Program) (f : FuncId) (args : List AVal) (η : AHeap) (n : Nat) (K : AVal → AHeap → Nat → Prop) : Prop :=
  ∀ (own : Own) (M : Mem) (w : World) (vals : Array Value), St own M η n w → vals.size = args.length → (∀ (i : Nat) c, args[i]? = some c → VR own M c (vals.getD i undef)) →
    Calls P f vals w fun e w' => ∃ u, e = .returned u ∧ Out own M η n w K u w'

theorem AC.mono {P : Program} {f : FuncId} {args : List AVal} {η : AHeap} {n : Nat} {K K' : AVal → AHeap → Nat → Prop} (h : AC P f args η n K) (hk : ∀ v η' n', K v η' n' → K' v η' n') : AC P f args η n K' :=
  fun own M w vals h1 h2 h3 => (h own M w vals h1 h2 h3).mono fun _ _ ⟨u, e, v, η', n', own', M', k, r⟩ => ⟨u, e, v, η', n', own', M', hk _ _ _ k, r⟩

section
variable (P : Program)
def chunk (z : Nat) : Nat → List AVal → List (List AVal)
  | 0, _ => []
  | n + 1, cs => cs.take z :: chunk z n (cs.drop z)
/-- a slice's rows of k cells -/
def arows (k : Nat) (x : AVal) (η : AHeap) : Option (List (List AVal)) :=
  match x with
  | .nils | .e0 => some []
  | .rs k' rows => if k' = k ∧ 0 < k then some rows else none
  | .sl r o n => match η r with
    | some (.cells k' rows) => if k' = k ∧ o + n ≤ rows.length then some ((rows.drop o).take n) else none
    | _ => none
  | .arr r i j n z => match η r with
    | some (.cells _ rows) => match rows[i]? with
      | some row => if z = k ∧ 0 < k ∧ j + n * z ≤ row.length then some (chunk z n ((row.drop j).take (n * z))) else none
      | none => none
    | _ => none
  | _ => none
def astore (t : TypeId) (p x : AVal) (η : AHeap) : Option AHeap :=
  match p with
  | .ptr r i j => match η r, tsize P t with
    | some (.cells k rows), some z => match rows[i]? with
      | some row => if (acells x).length = z ∧ (acells x).all AVal.sc = true ∧ j + z ≤ k ∧ 0 < z then some (upd η r (some (.cells k (rows.set i (row.take j ++ acells x ++ row.drop (j + z)))))) else none
      | none => none
    | _, _ => none
  | _ => none
def aappend (t t2 : TypeId) (d x : AVal) (η : AHeap) (n : Nat) (K : AVal → AHeap → Nat → Prop) : Prop :=
  match telem P t with
  | some e => match tzero P e, tbytes P e, P.underlying t2 with
    | some zs, some b, some (.int .i64) => match d, x with
      | .nils, .int .i64 m => 0 < zs.length ∧ 0 ≤ m ∧ m * b ≤ 140737488355328 ∧ m ≤ lenMax ∧ K (.sl n 0 m.toNat) (upd η n (some (.cells zs.length (List.replicate m.toNat zs)))) (n + 1)
      | _, _ => False
    | some zs, some b, some (.slice _) => t2 = t ∧ 0 < zs.length ∧
      (match arows zs.length x η with
      | some news => (∀ r ∈ news, ∀ c ∈ r, c.sc = true) ∧
        (match d with
        | .nils | .e0 => news.length * b ≤ 140737488355328 ∧ news.length ≤ lenMax ∧ K (.sl n 0 news.length) (upd η n (some (.cells zs.length news))) (n + 1)
        | .sl r o m => match η r with
          | some (.cells k rows) => k = zs.length ∧ o + m ≤ rows.length ∧ (m + news.length) * b ≤ 140737488355328 ∧ m + news.length ≤ lenMax ∧
              K (.sl n 0 (m + news.length)) (upd (upd η r none) n (some (.cells zs.length ((rows.drop o).take m ++ news)))) (n + 1)
          | _ => False
        | _ => False)
      | none => False)
    | _, _, _ => False
  | none => False
/-- rows written over others, as many as there is room for -/
def acopy (t t2 : TypeId) (d x : AVal) (η : AHeap) (n : Nat) (K : AVal → AHeap → Nat → Prop) : Prop :=
  match telem P t with
  | some e => match tsize P e, P.underlying t2 with
    | some z, some (.slice _) => 0 < z ∧ (match arows z x η with
      | some news => (∀ r ∈ news, ∀ c ∈ r, c.sc = true) ∧ (match d with
        | .nils | .e0 => K (.int .i64 0) η n
        | .sl r o m => match η r with
          | some (.cells k rows) => k = z ∧ o + m ≤ rows.length ∧
              K (.int .i64 (min news.length m : Nat)) (upd η r (some (.cells k (rows.take o ++ news.take (min news.length m) ++ rows.drop (o + min news.length m))))) n
          | _ => False
        | _ => False)
      | none => False)
    | _, _ => False
  | none => False
/-- is a slice nil? -/
def anil (x : AVal) (K : Bool → Prop) : Prop :=
  match x with
  | .rs _ rows => K false ∧ (rows = [] → K true)
  | .sl _ _ n => K false ∧ (n = 0 → K true)
  | .e0 => K false ∧ K true
  | .nils => K true
  | .arr _ _ _ _ _ => K false
  | _ => False
def achg (o : Oper) (ρ : Operand → AVal) (η : AHeap) (n : Nat) (K : AVal → AHeap → Nat → Prop) : Prop :=
  match o.op with
  | .alloc t => match tzero P t with
    | some cs => cs ≠ [] ∧ K (.ptr n 0 0) (upd η n (some (.cells cs.length [cs]))) (n + 1)
    | none => False
  | .box t x => match tsize P t with
    | some z => (acells (ρ x)).length = z ∧ (acells (ρ x)).all AVal.sc = true ∧ 0 < z ∧ K (.ptr n 0 0) (upd η n (some (.cells z [acells (ρ x)]))) (n + 1)
    | none => False
  | .buildSlice t len parts => match telem P t with
    | some e => match tzero P e with
      | some zs => match afillP (fun i => some (i * zs.length, zs.length)) (List.replicate len zs).flatten (parts.toList.map fun p => (p.1, acells (ρ p.2))) with
        | some cs => 0 < zs.length ∧ len * zs.length ≤ 16777216 ∧ K (.sl n 0 len) (upd η n (some (.cells zs.length (chunk zs.length len cs)))) (n + 1)
        | none => False
      | none => False
    | none => False
  | .makeSlice t l c => match telem P t, ρ l, ρ c with
    | some e, .int _ l, .int _ c => match tzero P e, tbytes P e with
      | some zs, some b => 0 < zs.length ∧ 0 ≤ l ∧ l ≤ c ∧ b * c ≤ 281474976710656 ∧ c ≤ 9223372036854775807 ∧ K (.sl n 0 l.toNat) (upd η n (some (.cells zs.length (List.replicate l.toNat zs)))) (n + 1)
      | _, _ => False
    | _, _, _ => False
  | .store t p x => match astore P t (ρ p) (ρ x) η with
    | some η' => K .undef η' n
    | none => False
  | .makeMap _ none => K (.mp n) (upd η n (some (.map []))) (n + 1)
  | .insert t m k v | .mapUpdate t m k v => match ainsert P t (ρ m) (ρ k) (ρ v) η with
    | some η' => K .undef η' n
    | none => False
  | .binOp .eql t x y _ => match P.underlying t, ρ y with
    | some (.slice _), .nils => anil (ρ x) fun b => K (.bool b) η n
    | _, _ => False
  | .binOp .neq t x y _ => match P.underlying t, ρ y with
    | some (.slice _), .nils => anil (ρ x) fun b => K (.bool !b) η n
    | _, _ => False
  | .call c => match c.callee with
    | .builtin b => match b, c.args.toList, c.argTypes.toList with
      | .append, [d, x], [t, t2] => aappend P t t2 (ρ d) (ρ x) η n K
      | .copy, [d, x], [t, t2] => acopy P t t2 (ρ d) (ρ x) η n K
      | _, _, _ => False
    | .value f => match ρ f with
      | .func fid first caps => (P.funcs[fid]?.any fun fn => fn.body.isSome && !(fn.name == "runtime.NumGoroutine")) = true ∧ AC P fid (first ++ c.args.toList.map ρ ++ caps) η n K
      | _ => False
    | _ => False
  | _ => False
end

section
variable {P : Program} {own : Own} {M : Mem} {η : AHeap} {n : Nat} {w : World} {K : AVal → AHeap → Nat → Prop}

/-- a new object, in a new block -/
theorem Out.new (hst : St own M η n w) {k : Nat} {rows : List (List AVal)} {arr : Array Value} {T : TypeId} {v : AVal} {u : Value} {w1 : World} (hk : 0 < k) (hr : ∀ row ∈ rows, row.length = k) (hsz : rows.length * k ≤ arr.size)
    (hc : ∀ (i j : Nat) (row : List AVal) (c : AVal), rows[i]? = some row → row[j]? = some c → VR own M c (arr.getD (i * k + j) undef)) (hw : w1.heap = w.heap ∧ w1.os = w.os ∧ w1.tape = w.tape ∧ w1.output = w.output)
    (hv : VR (own.put n ⟨w.heap.size, 0, arr.size, k⟩) M v u) (hK : K v (upd η n (some (.cells k rows))) (n + 1)) : Out own M η n w K u (w1.alloc (.cells arr T)) := by
  obtain ⟨e1, e2, e3, e4⟩ := hw
  have hfn := hst.fresh n (Nat.le_refl _)
  have hle := Own.le_put hfn ⟨w.heap.size, 0, arr.size, k⟩
  have hold : ∀ b, b < w.heap.size → (w1.alloc (.cells arr T)).heap[b]? = w.heap[b]? := fun b hb => by
    rw [Go.RowKit.Below.heap_alloc _ _ _ (by rw [e1]; exact hb), e1]
  have hnew : (w1.alloc (.cells arr T)).heap[w.heap.size]? = some (.cells arr T (0, 0)) := by
    show (w1.heap.push _)[w.heap.size]? = _
    rw [e1]; simp
  refine ⟨v, _, n + 1, _, M, hK, Nat.le_succ _, hst.add (p := ⟨w.heap.size, 0, arr.size, k⟩) ?_ (fun _ r q o hr hq hs => ?_) (fun b hb => hold b (OB.lt hst hb)) (fun b a hM => hold b (hst.mem_lt hM)), hv, hle, Mem.le_refl _, ?_, ⟨fun b hb => ?_, fun b hb => Or.inl hb⟩⟩
  · refine ⟨rfl, hk, hr, by simpa using hsz, fun _ => ⟨?_, arr, T, hnew, Nat.le_refl _⟩, fun i j row c hi hj => ?_⟩
    · cases hM : M w.heap.size with
      | none => rfl
      | some a => have := hst.mem_lt hM; omega
    · have hil := (List.getElem?_eq_some_iff.1 hi).1
      have hjl := (List.getElem?_eq_some_iff.1 hj).1
      have hrl := hr row (List.mem_of_getElem? hi)
      have h1 : (i + 1) * k ≤ rows.length * k := Nat.mul_le_mul_right k hil
      rw [Nat.succ_mul] at h1
      have hlt : i * k + j < arr.size := by omega
      refine ⟨arr.getD (i * k + j) undef, ?_, (hc i j row c hi hj).mono hle (Mem.le_refl _)⟩
      simp [World.cell?, hnew, hlt, Array.getD_eq_getD_getElem?]
  · obtain ⟨q', g1, g2⟩ := hst.obj r o hr
    rw [hq] at g1; cases g1
    have := g2.lt hs
    simp only; omega
  · exact ⟨e2, e3, e4, by simp [e1], fun b hb _ => hold b hb⟩
  · rcases OB.add hfn hb with h | h
    · exact Or.inl h
    · exact Or.inr (by rw [h]; exact Nat.le_refl _)

theorem getD_mid {α : Type} (l : List α) (vs : List α) (o q : Nat) (d : α) (h : o + vs.length ≤ l.length) :
    (l.take o ++ vs ++ l.drop (o + vs.length)).getD q d = if o ≤ q ∧ q < o + vs.length then vs.getD (q - o) d else l.getD q d := by
  have t1 : (l.take o).length = o := by simp; omega
  have t2 : (l.take o ++ vs).length = o + vs.length := by simp; omega
  simp only [List.getD_eq_getElem?_getD]
  rcases Nat.lt_or_ge q o with k1 | k1
  · rw [if_neg (by omega), List.append_assoc, List.getElem?_append_left (by omega), List.getElem?_take, if_pos k1]
  · rcases Nat.lt_or_ge q (o + vs.length) with k2 | k2
    · rw [if_pos ⟨k1, k2⟩, List.append_assoc, List.getElem?_append_right (by omega), List.getElem?_append_left (by omega), t1]
    · rw [if_neg (by omega), List.getElem?_append_right (by omega), List.getElem?_drop, t2]
      congr 2; omega

/-- cells written into an object's block -/
theorem store_cells (hst : St own M η n w) {r i j : Nat} {k : Nat} {rows : List (List AVal)} {row cs : List AVal} {p : Spot} {A : Array Value} (hη : η r = some (.cells k rows)) (hp : own r = some p) (hi : rows[i]? = some row) (hj : j + cs.length ≤ k) (hcs : 0 < cs.length)
    (hA : A.size = cs.length) (h1 : ∀ v ∈ A.toList, v.oneCell' = true) (hc : ∀ (q : Nat) c, cs[q]? = some c → VR own M c (A.getD q undef)) :
    ∃ w', (storeCells ⟨p.b, p.s + i * p.k + j, none⟩ A.toList).run P w = .ok () w' ∧ St own M (upd η r (some (.cells k (rows.set i (row.take j ++ cs ++ row.drop (j + cs.length)))))) n w' ∧ Fr (OB own η) w w' := by
  obtain ⟨p', g1, g2⟩ := hst.obj r _ hη
  rw [hp] at g1; cases g1
  obtain ⟨e1, hk, hrows, hle, hreal, hcell⟩ := g2
  have hil := (List.getElem?_eq_some_iff.1 hi).1
  have hrl := hrows row (List.mem_of_getElem? hi)
  have hik : (i + 1) * k ≤ rows.length * k := Nat.mul_le_mul_right k hil
  rw [Nat.succ_mul] at hik
  have hre : p.s < p.e := by omega
  obtain ⟨hM, arr, T, hh, hea⟩ := hreal hre
  have hrun := run_storeCells_at P p.b (p.s + i * p.k + j) T A.toList 0 arr w hh (by simp only [Array.length_toList, e1]; omega) h1
  have hrun' := hrun
  simp only [Nat.add_zero] at hrun'
  refine ⟨_, hrun', ?_, ?_⟩
  · refine hst.turn hη hp ?_ (fun b hb => setRow_other w p.b b _ hb) hre
    have hheap := setRow_heap w p.b arr (arr.toList.take (p.s + i * p.k + j) ++ A.toList ++ arr.toList.drop (p.s + i * p.k + j + A.toList.length)).toArray T (0, 0) hh
    have hlen2 : (row.take j ++ cs ++ row.drop (j + cs.length)).length = k := by simp; omega
    refine ⟨e1, hk, fun row' hr' => ?_, by simpa using hle, fun _ => ⟨hM, _, T, hheap, ?_⟩, fun i' j' row' c hi' hj' => ?_⟩
    · rcases List.mem_or_eq_of_mem_set hr' with h | h
      · exact hrows row' h
      · rw [h]; exact hlen2
    · simp only [List.size_toArray, List.length_append, List.length_take, List.length_drop, Array.length_toList]; omega
    · have hi'l : i' < rows.length := by
        have := (List.getElem?_eq_some_iff.1 hi').1; simpa using this
      have hik' : (i' + 1) * k ≤ rows.length * k := Nat.mul_le_mul_right k hi'l
      rw [Nat.succ_mul] at hik'
      have hrow'k : row'.length = k := by
        rcases List.mem_or_eq_of_mem_set (List.mem_of_getElem? hi') with h | h
        · exact hrows row' h
        · rw [h]; exact hlen2
      have hj'l := (List.getElem?_eq_some_iff.1 hj').1
      have hq : p.s + i' * k + j' < arr.size := by omega
      have hget : (w.setRow p.b (arr.toList.take (p.s + i * p.k + j) ++ A.toList ++ arr.toList.drop (p.s + i * p.k + j + A.toList.length)).toArray).cell? ⟨p.b, p.s + i' * k + j', none⟩ =
          some (if p.s + i * k + j ≤ p.s + i' * k + j' ∧ p.s + i' * k + j' < p.s + i * k + j + A.toList.length then A.toList.getD (p.s + i' * k + j' - (p.s + i * k + j)) undef else arr.toList.getD (p.s + i' * k + j') undef) := by
        rw [World.cell?, hheap]
        simp only [Option.isSome_none, Bool.false_eq_true, if_false]
        rw [← getD_mid arr.toList A.toList (p.s + i * k + j) _ undef (by simp; omega), e1]
        rw [List.getElem?_toArray, List.getD_eq_getElem?_getD, List.getElem?_eq_getElem]
        · rfl
        · simp only [List.length_append, List.length_take, List.length_drop, Array.length_toList]; omega
      refine ⟨_, hget, ?_⟩
      by_cases hii : i = i'
      · subst hii
        rw [List.getElem?_set_self hil] at hi'
        simp only [Option.some.injEq] at hi'
        subst hi'
        have hg : (row.take j ++ cs ++ row.drop (j + cs.length)).getD j' .undef = c := by rw [List.getD_eq_getElem?_getD, hj']; rfl
        rw [getD_mid row cs j j' .undef (by omega)] at hg
        by_cases hm : j ≤ j' ∧ j' < j + cs.length
        · rw [if_pos hm] at hg
          rw [if_pos (by simp; omega)]
          have e2 : p.s + i * k + j' - (p.s + i * k + j) = j' - j := by omega
          rw [e2]
          have hcq : cs[j' - j]? = some c := by rw [List.getElem?_eq_getElem (by omega)]; rw [List.getD_eq_getElem?_getD, List.getElem?_eq_getElem (by omega)] at hg; simpa using hg
          have := hc _ c hcq
          have e3 : A.toList.getD (j' - j) undef = A.getD (j' - j) undef := by simp [Array.getD_eq_getD_getElem?]
          rw [e3]; exact this
        · rw [if_neg hm] at hg
          rw [if_neg (by simp; omega)]
          have hcq : row[j']? = some c := by rw [List.getElem?_eq_getElem (by omega)]; rw [List.getD_eq_getElem?_getD, List.getElem?_eq_getElem (by omega)] at hg; simpa using hg
          obtain ⟨v, k1, k2⟩ := hcell i j' row c hi hcq
          have e3 : arr.toList.getD (p.s + i * k + j') undef = v := by
            rw [World.cell?, hh] at k1
            simp at k1
            simp [List.getD_eq_getElem?_getD, k1]
          rw [e3]; exact k2
      · rw [List.getElem?_set_ne hii] at hi'
        obtain ⟨v, k1, k2⟩ := hcell i' j' row' c hi' hj'
        rw [if_neg (by
          simp only [Array.length_toList, hA]
          rcases Nat.lt_or_ge i i' with h | h
          · have : (i + 1) * k ≤ i' * k := Nat.mul_le_mul_right k h
            rw [Nat.succ_mul] at this; omega
          · have : (i' + 1) * k ≤ i * k := Nat.mul_le_mul_right k (by omega)
            rw [Nat.succ_mul] at this; omega)]
        have e3 : arr.toList.getD (p.s + i' * k + j') undef = v := by
          rw [World.cell?, hh] at k1
          simp at k1
          simp [List.getD_eq_getElem?_getD, k1]
        rw [e3]; exact k2
  · exact ⟨rfl, rfl, rfl, by simp [World.setRow], fun b hb hd => setRow_other w p.b b _ fun e => hd ⟨r, p, _, hη, hp, hre, e.symm⟩⟩
end
end Go.Proofs.Ytkhoelmbcmkhjaa
