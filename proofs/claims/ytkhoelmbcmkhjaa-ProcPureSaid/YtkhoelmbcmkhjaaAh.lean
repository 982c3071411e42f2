/- Abstract Go, 17: what a call has left behind and nobody knows is nothing. -/
import Derived.Test.YtkhoelmbcmkhjaaAg
namespace Go.Proofs.Ytkhoelmbcmkhjaa

inductive NR : AVal → Prop
  | undef : NR .undef
  | int (k : IntKind) (n : Int) : NR (.int k n)
  | bool (b : Bool) : NR (.bool b)
  | str (s : ByteArray) : NR (.str s)
  | nilp : NR .nilp
  | nils : NR .nils
  | e0 : NR .e0
  | nilf : NR .nilf
  | nilm : NR .nilm
  | ro (cs : List AVal) (j : Nat) (h : ∀ c ∈ cs, NR c) : NR (.ro cs j)
  | rs (k : Nat) (rows : List (List AVal)) (h : ∀ row ∈ rows, ∀ c ∈ row, NR c) : NR (.rs k rows)
  | func (f : FuncId) (a b : List AVal) (h : ∀ c ∈ a, NR c) (h' : ∀ c ∈ b, NR c) : NR (.func f a b)
  | agg (cs : List AVal) (h : ∀ c ∈ cs, NR c) : NR (.agg cs)
  | tup (cs : List AVal) (h : ∀ c ∈ cs, NR c) : NR (.tup cs)

section
variable {own own' : Own} {M M' : Mem}
theorem VR.back {c : AVal} {v : Value} (h : VR own' M' c v) (hc : NR c) : VR own M' c v := by
  induction h with
  | undef v => exact .undef v
  | int k n => exact .int k n
  | bool b => exact .bool b
  | str s => exact .str s
  | nilp => exact .nilp
  | ptr r i j p h => cases hc
  | ro cs j b o arr hb hl _ ih => cases hc with | ro _ _ h => exact .ro cs j b o arr hb hl fun i c hi => ih i c hi (h c (List.mem_of_getElem? hi))
  | nils => exact .nils
  | e0 a => exact .e0 a
  | sl r o n p a cap h hn hm hc => cases hc
  | rs k rows a cap b o arr hn hm hx ha hb hk hl _ ih => cases hc with | rs _ _ h => exact .rs k rows a cap b o arr hn hm hx ha hb hk hl fun i j row c hi hj => ih i j row c hi hj (h row (List.mem_of_getElem? hi) c (List.mem_of_getElem? hj))
  | func f fs cs F C hF hC _ _ ih1 ih2 => cases hc with | func _ _ _ h h' => exact .func f fs cs F C hF hC (fun i c hi => ih1 i c hi (h c (List.mem_of_getElem? hi))) (fun i c hi => ih2 i c hi (h' c (List.mem_of_getElem? hi)))
  | nilf => exact .nilf
  | nilm => exact .nilm
  | mp r p h => cases hc
  | agg cs A hA hs _ ih => cases hc with | agg _ h => exact .agg cs A hA hs fun i c hi => ih i c hi (h c (List.mem_of_getElem? hi))
  | tup cs A hA _ ih => cases hc with | tup _ h => exact .tup cs A hA fun i c hi => ih i c hi (h c (List.mem_of_getElem? hi))
  | arr r i j n z p a cap h hn hm hcc => cases hc

theorem VR.back2 (hle : own.le own') {c : AVal} {v : Value} (h : VR own' M' c v) : ∀ v0, VR own M c v0 → VR own M' c v := by
  induction h with
  | undef v => exact fun _ _ => .undef v
  | int k n => exact fun _ _ => .int k n
  | bool b => exact fun _ _ => .bool b
  | str s => exact fun _ _ => .str s
  | nilp => exact fun _ _ => .nilp
  | ptr r i j p h =>
    intro v0 h0
    cases h0 with
    | ptr _ _ _ p0 hp0 => have := hle _ _ hp0; rw [h] at this; cases this; exact .ptr r i j p hp0
  | ro cs j b o arr hb hl _ ih =>
    intro v0 h0
    cases h0 with
    | ro _ _ b0 o0 arr0 hb0 hl0 hc0 => exact .ro cs j b o arr hb hl fun i c hi => ih i c hi _ (hc0 i c hi)
  | nils => exact fun _ _ => .nils
  | e0 a => exact fun _ _ => .e0 a
  | sl r o n p a cap h hn hm hc =>
    intro v0 h0
    cases h0 with
    | sl _ _ _ p0 a0 cap0 hp0 => have := hle _ _ hp0; rw [h] at this; cases this; exact .sl r o n p a cap hp0 hn hm hc
  | rs k rows a cap b o arr hn hm hx ha hb hk hl _ ih =>
    intro v0 h0
    cases h0 with
    | rs _ _ a0 cap0 b0 o0 arr0 hn0 hm0 hx0 ha0 hb0 hk0 hl0 hc0 => exact .rs k rows a cap b o arr hn hm hx ha hb hk hl fun i j row c hi hj => ih i j row c hi hj _ (hc0 i j row c hi hj)
  | func f fs cs F C hF hC _ _ ih1 ih2 =>
    intro v0 h0
    cases h0 with
    | func _ _ _ F0 C0 hF0 hC0 hf0 hc0 => exact .func f fs cs F C hF hC (fun i c hi => ih1 i c hi _ (hf0 i c hi)) (fun i c hi => ih2 i c hi _ (hc0 i c hi))
  | nilf => exact fun _ _ => .nilf
  | nilm => exact fun _ _ => .nilm
  | mp r p h =>
    intro v0 h0
    cases h0 with
    | mp _ p0 hp0 => have := hle _ _ hp0; rw [h] at this; cases this; exact .mp r p hp0
  | agg cs A hA hs _ ih =>
    intro v0 h0
    cases h0 with
    | agg _ A0 hA0 hs0 hc0 => exact .agg cs A hA hs fun i c hi => ih i c hi _ (hc0 i c hi)
  | tup cs A hA _ ih =>
    intro v0 h0
    cases h0 with
    | tup _ A0 hA0 hc0 => exact .tup cs A hA fun i c hi => ih i c hi _ (hc0 i c hi)
  | arr r i j n z p a cap h hn hm hc =>
    intro v0 h0
    cases h0 with
    | arr _ _ _ _ _ p0 a0 cap0 hp0 => have := hle _ _ hp0; rw [h] at this; cases this; exact .arr r i j n z p a cap hp0 hn hm hc

theorem OR.back2 {w w' : World} (hle : own.le own') {p : Spot} {o : AObj} (h : OR own' M' w' p o) (h0 : OR own M w p o) : OR own M' w' p o := by
  cases o with
  | cells k rows =>
    obtain ⟨h1, h2, h3, h4, h5, h6⟩ := h
    obtain ⟨_, _, _, _, _, g6⟩ := h0
    refine ⟨h1, h2, h3, h4, h5, fun i j row c hi hj => ?_⟩
    obtain ⟨v, k1, k2⟩ := h6 i j row c hi hj
    obtain ⟨v0, _, k3⟩ := g6 i j row c hi hj
    exact ⟨v, k1, k2.back2 hle v0 k3⟩
  | map es =>
    obtain ⟨h1, h2, E, clk, h3, h4, h5, h6⟩ := h
    obtain ⟨_, _, E0, clk0, _, g4, _, g6⟩ := h0
    refine ⟨h1, h2, E, clk, h3, h4, h5, fun i e x hi hx => ?_⟩
    have hil := (List.getElem?_eq_some_iff.1 hi).1
    obtain ⟨k1, k2⟩ := h6 i e x hi hx
    obtain ⟨k3, k4⟩ := g6 i e _ hi (Array.getElem?_eq_getElem (by omega))
    exact ⟨k1.back2 hle _ k3, k2.back2 hle _ k4⟩
end

/-- what comes back is a value without places, and all is as it was: then no number has been used -/
theorem AC.reset {P : Program} {f : FuncId} {args : List AVal} {η : AHeap} {n : Nat} {R : AVal → Prop} (h : AC P f args η n fun r η' _ => R r ∧ η' = η) (hR : ∀ r, R r → NR r) : AC P f args η n fun r η' n' => R r ∧ η' = η ∧ n' = n := by
  intro own M w vals hst h2 h3
  refine (h own M w vals hst h2 h3).mono fun e w' ⟨u, he, v, η', n', own', M', ⟨k1, k2⟩, k3, k4, k5, k6, k7, k8, k9⟩ => ?_
  subst k2
  refine ⟨u, he, v, η', n, own, M', ⟨k1, rfl, rfl⟩, Nat.le_refl _, ⟨hst.fresh, fun r o hr => ?_, hst.inj, k4.mem⟩, k5.back (hR v k1), Own.le_refl _, k7, k8, fun b hb => Or.inl hb, k9.2⟩
  obtain ⟨p, g1, g2⟩ := hst.obj r o hr
  obtain ⟨p', g3, g4⟩ := k4.obj r o hr
  have := k6 _ _ g1
  rw [g3] at this; cases this
  exact ⟨_, g1, g4.back2 k6 g2⟩

def Rt (v : AVal) (η : AHeap) (n : Nat) : AVal → AHeap → Nat → Prop := fun r η' n' => r = v ∧ η' = η ∧ n' = n
/-- a body that hands back v and leaves all as it was (whatever it made for itself) -/
theorem AC.pure {P : Program} {f : FuncId} {args : List AVal} {η : AHeap} {n : Nat} {v : AVal} (hv : NR v) (h : AC P f args η n fun r η' _ => r = v ∧ η' = η) : AC P f args η n (Rt v η n) :=
  (h.reset (R := fun r => r = v) fun _ e => e ▸ hv).mono fun _ _ _ ⟨a, b, c⟩ => ⟨a, b, c⟩
theorem ACK.rt {P : Program} {f : FuncId} {args : List AVal} {η : AHeap} {n : Nat} {v : AVal} {K : AVal → AHeap → Nat → Prop} {g : Tag K} (h : AC P f args η n (Rt v η n)) (hk : K v η n) : ACK P f args η n K g := ACK.use h fun r η' n' ⟨a, b, c⟩ => by subst a b c; exact hk
theorem resK.rt {v : AVal} {fr : Nat → AVal} {nt : Nat} {η : AHeap} {n : Nat} {K : AVal → AHeap → Nat → Prop} {g : Tag K} (h : K v η n) : resK (some v) ⟨fr, nt, η, n⟩ K g := resK.same h (Nat.le_refl _)

theorem wrap_id {x : Int} (h1 : -9223372036854775808 ≤ x) (h2 : x ≤ 9223372036854775807) : IntKind.i64.wrap x = x := by
  rw [IntKind.wrap_i64]; omega
def I64 (n : Int) : Prop := -9223372036854775808 ≤ n ∧ n ≤ 9223372036854775807

theorem AC.fresh {P : Program} {f : FuncId} {args : List AVal} {η : AHeap} {n : Nat} {K : AVal → AHeap → Nat → Prop} (h : (∀ r, n ≤ r → η r = none) → AC P f args η n K) : AC P f args η n K := by
  intro own M w vals hst
  refine h (fun r hr => ?_) own M w vals hst
  cases he : η r with
  | none => rfl
  | some o => have := hst.lt he; omega
theorem le_upd_iff {η η' : AHeap} {n : Nat} {o : Option AObj} (hn : η n = none) : η.le (upd η' n o) ↔ η.le η' := by
  constructor
  · intro h r o' hr
    have := h r o' hr
    by_cases e : r = n
    · subst e; rw [hn] at hr; cases hr
    · rwa [upd_ne e] at this
  · exact fun h => le_upd h hn
@[simp] theorem le_self (η : AHeap) : η.le η ↔ True := by simp [AHeap.le]

/-! ### Loops -/
def slots : List (Nat × AVal) → (Nat → AVal) → Nat → AVal
  | [], fr => fr
  | p :: l, fr => setf (slots l fr) p.1 p.2
@[simp] theorem slots_nil (fr : Nat → AVal) : slots [] fr = fr := rfl
@[simp] theorem slots_cons (d : Nat) (v : AVal) (l : List (Nat × AVal)) (fr : Nat → AVal) : slots ((d, v) :: l) fr = setf (slots l fr) d v := rfl
/-- alike but for some slots -/
def Agree (W : List Nat) (g fr : Nat → AVal) : Prop := ∀ t, W.contains t = false → g t = fr t
theorem Agree.refl (W : List Nat) (fr : Nat → AVal) : Agree W fr fr := fun _ _ => rfl
theorem Agree.mask (W : List Nat) (fr : Nat → AVal) : Agree W (mask W fr) fr := fun t h => by simp only [mask_apply, h]; rfl
theorem Agree.setf {W : List Nat} {g fr : Nat → AVal} {d : Nat} {v : AVal} (hd : W.contains d = true) (h : Agree W g fr) : Agree W (setf g d v) fr := fun t ht => by
  rw [setf_ne (fun e => by subst e; rw [hd] at ht; cases ht)]; exact h t ht
theorem Agree.inner {W W' : List Nat} {g fr : Nat → AVal} (h : (W'.all fun t => W.contains t) = true) (ha : Agree W g fr) : Agree W (Go.Proofs.Ytkhoelmbcmkhjaa.mask W' g) fr := fun t ht => by
  simp only [mask_apply]
  rw [if_neg]
  · exact ha t ht
  · intro hc
    have := List.all_eq_true.1 h t (by simpa using hc)
    rw [ht] at this; cases this
def slotsAt (l : List (Nat × AVal)) (g : Nat → AVal) : Prop := ∀ p ∈ l, g p.1 = p.2
@[simp] theorem slotsAt_nil (g : Nat → AVal) : slotsAt [] g = True := by simp [slotsAt]
@[simp] theorem slotsAt_cons (d : Nat) (v : AVal) (l : List (Nat × AVal)) (g : Nat → AVal) : slotsAt ((d, v) :: l) g = (g d = v ∧ slotsAt l g) := by simp [slotsAt]
theorem slots_le {W : List Nat} {g fr : Nat → AVal} (ha : Agree W g fr) : ∀ (l : List (Nat × AVal)), slotsAt l g → ∀ t, slots l (mask W fr) t = g t ∨ slots l (mask W fr) t = .undef
  | [], _, t => by
    simp only [slots, mask_apply]
    cases hc : W.contains t with
    | true => exact Or.inr rfl
    | false => exact Or.inl (by simp only [Bool.false_eq_true, if_false]; exact (ha t hc).symm)
  | (d, v) :: l, h, t => by
    rw [slotsAt_cons] at h
    rw [slots_cons]
    by_cases e : t = d
    · subst e; rw [setf_eq]; exact Or.inl h.1.symm
    · rw [setf_ne e]; exact slots_le ha l h.2 t
/-- a round's end: the state is one of the loop's again, and nearer to the end -/
def endK (W : List Nat) (fr : Nat → AVal) (nt : Nat) {ι : Type} (I : ι → Prop) (sl : ι → List (Nat × AVal)) (hp : ι → AHeap) (nn : ι → Nat) (μ : ι → Nat) (m : Nat) (s : AState) : Prop :=
  ∃ x, I x ∧ Gh s ⟨slots (sl x) (mask W fr), nt, hp x, nn x⟩ ∧ μ x < m
theorem endK.intro {W : List Nat} {fr g : Nat → AVal} {nt : Nat} {ι : Type} {I : ι → Prop} {sl : ι → List (Nat × AVal)} {hp : ι → AHeap} {nn : ι → Nat} {μ : ι → Nat} {m : Nat} {η : AHeap} {n : Nat} (x : ι) (hI : I x) (hs : slotsAt (sl x) g) (ha : Agree W g fr) (hη : (hp x).le η) (hn : n ≤ nn x) (hμ : μ x < m) :
    endK W fr nt I sl hp nn μ m ⟨g, nt, η, n⟩ := ⟨x, hI, Gh.of (slots_le ha _ hs) hη hn, hμ⟩
theorem loopK.inv {P : Program} {c : Code} {fr : Nat → AVal} {nt : Nat} {η : AHeap} {n : Nat} {Q : Exit → AState → Prop} {gc : Tag c} {gQ : Tag Q} (W : List Nat) {ι : Type} (I : ι → Prop) (sl : ι → List (Nat × AVal)) (hp : ι → AHeap) (nn : ι → Nat) (μ : ι → Nat) (x0 : ι) (hI : I x0)
    (hs : slotsAt (sl x0) fr) (hη : (hp x0).le η) (hn : n ≤ nn x0)
    (h : ∀ x, I x → wpK P c ⟨slots (sl x) (mask W fr), nt, hp x, nn x⟩ (thenP (endK W fr nt I sl hp nn μ (μ x)) Q) .mk .mk) : loopK P c ⟨fr, nt, η, n⟩ Q gc gQ := by
  refine ⟨{x // I x}, fun x => ⟨slots (sl x.1) (mask W fr), nt, hp x.1, nn x.1⟩, fun x => μ x.1, ⟨x0, hI⟩, Gh.of (slots_le (Agree.refl W fr) _ hs) hη hn, fun x => ?_⟩
  have := h x.1 x.2
  unfold wpK at this
  have e : (thenP (endK W fr nt I sl hp nn μ (μ x.1)) Q) = thenP (fun s' => ∃ x' : {x // I x}, Gh s' ⟨slots (sl x'.1) (mask W fr), nt, hp x'.1, nn x'.1⟩ ∧ μ x'.1 < μ x.1) Q := by
    funext e s
    cases e <;> simp only [thenP]
    unfold endK
    simp only [eq_iff_iff]
    exact ⟨fun ⟨y, h1, h2, h3⟩ => ⟨⟨y, h1⟩, h2, h3⟩, fun ⟨⟨y, h1⟩, h2, h3⟩ => ⟨y, h1, h2, h3⟩⟩
  rw [e] at this
  exact this
@[simp] theorem sc_int (k : IntKind) (n : Int) : AVal.sc (.int k n) = true := rfl
@[simp] theorem sc_bool (b : Bool) : AVal.sc (.bool b) = true := rfl
@[simp] theorem sc_str (s : ByteArray) : AVal.sc (.str s) = true := rfl
@[simp] theorem sc_nilp : AVal.sc .nilp = true := rfl
@[simp] theorem sc_ptr (r i j : Nat) : AVal.sc (.ptr r i j) = true := rfl
@[simp] theorem sc_ro (cs : List AVal) (j : Nat) : AVal.sc (.ro cs j) = true := rfl
@[simp] theorem sc_nils : AVal.sc .nils = true := rfl
@[simp] theorem sc_e0 : AVal.sc .e0 = true := rfl
@[simp] theorem sc_sl (r o n : Nat) : AVal.sc (.sl r o n) = true := rfl
@[simp] theorem sc_arr (r i j n z : Nat) : AVal.sc (.arr r i j n z) = true := rfl
@[simp] theorem ac_arr (r i j n z : Nat) : acells (.arr r i j n z) = [.arr r i j n z] := rfl
@[simp] theorem sc_rs (k : Nat) (rows : List (List AVal)) : AVal.sc (.rs k rows) = true := rfl
@[simp] theorem sc_func (f : FuncId) (a b : List AVal) : AVal.sc (.func f a b) = true := rfl
@[simp] theorem sc_nilf : AVal.sc .nilf = true := rfl
@[simp] theorem sc_nilm : AVal.sc .nilm = true := rfl
@[simp] theorem sc_mp (r : Nat) : AVal.sc (.mp r) = true := rfl
@[simp] theorem ac_agg (cs : List AVal) : acells (.agg cs) = cs := rfl
@[simp] theorem ac_int (k : IntKind) (n : Int) : acells (.int k n) = [.int k n] := rfl
@[simp] theorem ac_bool (b : Bool) : acells (.bool b) = [.bool b] := rfl
@[simp] theorem ac_str (s : ByteArray) : acells (.str s) = [.str s] := rfl
@[simp] theorem ac_nilp : acells .nilp = [.nilp] := rfl
@[simp] theorem ac_ptr (r i j : Nat) : acells (.ptr r i j) = [.ptr r i j] := rfl
@[simp] theorem ac_ro (cs : List AVal) (j : Nat) : acells (.ro cs j) = [.ro cs j] := rfl
@[simp] theorem ac_nils : acells .nils = [.nils] := rfl
@[simp] theorem ac_e0 : acells .e0 = [.e0] := rfl
@[simp] theorem ac_sl (r o n : Nat) : acells (.sl r o n) = [.sl r o n] := rfl
@[simp] theorem ac_rs (k : Nat) (rows : List (List AVal)) : acells (.rs k rows) = [.rs k rows] := rfl
@[simp] theorem ac_func (f : FuncId) (a b : List AVal) : acells (.func f a b) = [.func f a b] := rfl
@[simp] theorem ac_nilf : acells .nilf = [.nilf] := rfl
@[simp] theorem ac_nilm : acells .nilm = [.nilm] := rfl
@[simp] theorem ac_mp (r : Nat) : acells (.mp r) = [.mp r] := rfl
end Go.Proofs.Ytkhoelmbcmkhjaa
