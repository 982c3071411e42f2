/- proc.Step. -/
import Derived.Test.YtkhoelmbcmkhjaaPb
namespace Go.Proofs.Ytkhoelmbcmkhjaa
set_option maxRecDepth 100000

def sta0 : Sta := ⟨0, 0, [], [], false, 0⟩
def eff0 : Eff := ⟨0, 0, (0, 0), 0, [], 0, (0, 0), 0⟩
/-- a state's and an effect's lists, as Step hands them back -/
def StepR (η : AHeap) (n : Nat) (s : Sta) (e : Eff) (err : Int) : AVal → AHeap → Nat → Prop := fun r η' n' => ∃ sv rv av, r = .tup [.agg (stC s sv rv), .agg (effC e av), .int .i64 err] ∧ IsL η' sv s.stack ∧ IsL η' rv s.regs ∧ IsL η' av e.args ∧ (∀ r, r < n → η' r = η r) ∧ n ≤ n'
/-- what an operation does to the work (two values' operations apart) -/
def workF (c : Wc) (x : Wx) : Wx :=
  if c.op = 0 then (x.exits 0 0).stays else if c.op = 1 then x.push c.arg else if c.op = 2 then x.push 1 else if c.op = 3 then x.push 0 else if c.op = 18 then x.push c.self
  else if c.op = 4 then x.load c.arg else if c.op = 5 then x.stow c.arg else if c.op = 13 then x.pop.push (if x.top = 0 then 1 else 0) else if c.op = 16 then x.setpc c.arg
  else if c.op = 17 then x.pop.unl c.arg x.top else if c.op = 19 then x.spawn c.m c.arg else if c.op = 20 then x.pop.send c.arg x.top else if c.op = 21 then x.recv c.own.tabs c.arg c.now c.box
  else if c.op = 22 then x.pop.link x.top else if c.op = 23 then (x.pop.exits 1 x.top).stays else if c.op = 24 then x.pop.out x.top else if c.op = 25 then x.pop else (x.pop.push x.top).push x.top
theorem stack_pop (x : Wx) (h : x.s.stack.length ≤ 17592186044416) : x.pop.s.stack.length ≤ 17592186044416 := by
  unfold Wx.pop Wx.fail; split
  · split <;> exact h
  · simp; omega
/-- the bounds that a work's lists keep -/
structure WOK (c : Wc) (x : Wx) : Prop where
  st : x.s.stack.length ≤ 17592186044416
  box : c.box.length ≤ 17592186044416
  tabs : ∀ t ∈ c.own.tabs, t.cls.length ≤ 17592186044416
  par : ∀ a ∈ c.m, a.params.length ≤ 17592186044416
theorem deed_run {B : Nat} {F : List Nat} {η : AHeap} {g n : Nat} {c : Wc} {x : Wx} {d : Nat × FuncId} {v : AVal} (h : WkAt B F η g c x) (hn : B ≤ n) (ho : WOK c x) (hd : deedOf c.op deedL = some d) (hv : DV η d v)
    (hq : ∀ q f, v = .func f [] [.ptr q 0 0] → ¬ In B F q) : ∃ f caps, v = .func f [] caps ∧ HB Try.prog f = true ∧ AC Try.prog f ([.ptr g 0 0] ++ caps) η n (WPost B F η g c (workF c x) (.tup []) n) := by
  have h0 : ∀ {f : FuncId}, d = (0, f) → HB Try.prog f = true → AC Try.prog f [.ptr g 0 0] η n (WPost B F η g c (workF c x) (.tup []) n) → ∃ f caps, v = .func f [] caps ∧ HB Try.prog f = true ∧ AC Try.prog f ([.ptr g 0 0] ++ caps) η n (WPost B F η g c (workF c x) (.tup []) n) := fun {f} e k1 k2 => by
    subst e
    rcases hv with ⟨_, rfl⟩ | ⟨q, _, ⟨e, _⟩ | ⟨e, _⟩⟩
    · exact ⟨f, [], rfl, k1, k2⟩
    · cases e
    · cases e
  have h1 : ∀ {f : FuncId} {V : Int} {x' : Wx}, d = (1, f) → HB Try.prog f = true → AC Try.prog f [.ptr g 0 0] η n (WPost B F η g c x' (.int .i64 V) n) → workF c x = x'.push V → ∃ f caps, v = .func f [] caps ∧ HB Try.prog f = true ∧ AC Try.prog f ([.ptr g 0 0] ++ caps) η n (WPost B F η g c (workF c x) (.tup []) n) := fun {f V x'} e k1 k2 k3 => by
    subst e
    rcases hv with ⟨e, _⟩ | ⟨q, hqq, ⟨_, rfl⟩ | ⟨e, _⟩⟩
    · cases e
    · exact ⟨_, _, rfl, by simp, by rw [k3]; exact puts1_ac hqq k1 hn k2⟩
    · cases e
  have h2 : ∀ {f : FuncId} {G : Int → Wx → Wx}, d = (2, f) → HB Try.prog f = true → (∀ η n x m, B ≤ n → x.s.stack.length ≤ 17592186044416 → WkAt B F η g c x → AC Try.prog f [.ptr g 0 0, .int .i64 m] η n (WPost B F η g c (G m x) (.tup []) n)) → workF c x = G x.top x.pop → ∃ f caps, v = .func f [] caps ∧ HB Try.prog f = true ∧ AC Try.prog f ([.ptr g 0 0] ++ caps) η n (WPost B F η g c (workF c x) (.tup []) n) := fun {f G} e k1 k2 k3 => by
    subst e
    rcases hv with ⟨e, _⟩ | ⟨q, hqq, ⟨e, _⟩ | ⟨_, rfl⟩⟩
    · cases e
    · cases e
    · exact ⟨_, _, rfl, by simp, by rw [k3]; exact asks1_ac hqq (hq q _ rfl) k1 ho.st k2 hn h⟩
  by_cases e0 : c.op = 0
  · have hw := hd.symm
    simp [deedOf, deedL, e0] at hw
    exact h0 hw (by simp) (by rw [show workF c x = _ by simp [workF, e0]; rfl]; exact d1_ac h)
  by_cases e1 : c.op = 1
  · have hw := hd.symm
    simp [deedOf, deedL, e1] at hw
    exact h1 hw (by simp) (d2_ac h) (by simp [workF, e1])
  by_cases e2 : c.op = 2
  · have hw := hd.symm
    simp [deedOf, deedL, e2] at hw
    exact h1 hw (by simp) (d3_ac h) (by simp [workF, e2])
  by_cases e3 : c.op = 3
  · have hw := hd.symm
    simp [deedOf, deedL, e3] at hw
    exact h1 hw (by simp) (d4_ac h) (by simp [workF, e3])
  by_cases e18 : c.op = 18
  · have hw := hd.symm
    simp [deedOf, deedL, e18] at hw
    exact h1 hw (by simp) (d5_ac h) (by simp [workF, e18])
  by_cases e4 : c.op = 4
  · have hw := hd.symm
    simp [deedOf, deedL, e4] at hw
    exact h0 hw (by simp) (by rw [show workF c x = _ by simp [workF, e4]; rfl]; exact d6_ac h hn)
  by_cases e5 : c.op = 5
  · have hw := hd.symm
    simp [deedOf, deedL, e5] at hw
    exact h0 hw (by simp) (by rw [show workF c x = _ by simp [workF, e5]; rfl]; exact d7_ac h ho.st)
  by_cases e13 : c.op = 13
  · have hw := hd.symm
    simp [deedOf, deedL, e13] at hw
    exact h1 hw (by simp) (d8_ac h ho.st) (by simp [workF, e13])
  by_cases e16 : c.op = 16
  · have hw := hd.symm
    simp [deedOf, deedL, e16] at hw
    exact h0 hw (by simp) (by rw [show workF c x = _ by simp [workF, e16]; rfl]; exact d9_ac h)
  by_cases e17 : c.op = 17
  · have hw := hd.symm
    simp [deedOf, deedL, e17] at hw
    exact h2 (G := fun m x => x.unl c.arg m) hw (by simp) (fun η n x m hn hl h => d10_ac h m) (by simp [workF, e17])
  by_cases e19 : c.op = 19
  · have hw := hd.symm
    simp [deedOf, deedL, e19] at hw
    exact h0 hw (by simp) (by rw [show workF c x = _ by simp [workF, e19]; rfl]; exact spawns_ac h hn ho.st ho.par)
  by_cases e20 : c.op = 20
  · have hw := hd.symm
    simp [deedOf, deedL, e20] at hw
    exact h2 (G := fun m x => x.send c.arg m) hw (by simp) (fun η n x m hn hl h => d11_ac h hl m) (by simp [workF, e20])
  by_cases e21 : c.op = 21
  · have hw := hd.symm
    simp [deedOf, deedL, e21] at hw
    exact h0 hw (by simp) (by rw [show workF c x = _ by simp [workF, e21]; rfl]; exact receives_ac h hn ho.st ho.tabs ho.box)
  by_cases e22 : c.op = 22
  · have hw := hd.symm
    simp [deedOf, deedL, e22] at hw
    exact h2 (G := fun m x => x.link m) hw (by simp) (fun η n x m hn hl h => d12_ac h m) (by simp [workF, e22])
  by_cases e23 : c.op = 23
  · have hw := hd.symm
    simp [deedOf, deedL, e23] at hw
    exact h2 (G := fun m x => (x.exits 1 m).stays) hw (by simp) (fun η n x m hn hl h => d13_ac h m) (by simp [workF, e23])
  by_cases e24 : c.op = 24
  · have hw := hd.symm
    simp [deedOf, deedL, e24] at hw
    exact h2 (G := fun m x => x.out m) hw (by simp) (fun η n x m hn hl h => d14_ac h m) (by simp [workF, e24])
  by_cases e25 : c.op = 25
  · have hw := hd.symm
    simp [deedOf, deedL, e25] at hw
    exact h2 (G := fun _ x => x) hw (by simp) (fun η n x m hn hl h => d15_ac h m) (by simp [workF, e25])
  by_cases e26 : c.op = 26
  · have hw := hd.symm
    simp [deedOf, deedL, e26] at hw
    exact h2 (G := fun m x => (x.push m).push m) hw (by simp) (fun η n x m hn hl h => d16_ac h hn m) (by simp [workF, e26])
  exfalso
  simp [deedOf, deedL, e0, e1, e2, e3, e18, e4, e5, e13, e16, e17, e19, e20, e21, e22, e23, e24, e25, e26] at hd
theorem step_bad_ac (m : List Actr) (self : Int) (s : Sta) (now : Int) (box : List (Int × Int)) (η : AHeap) (n : Nat) (h : soundF m s = false) {sv rv : AVal} (k1 : IsL η sv s.stack) (k2 : IsL η rv s.regs) :
    AC Try.prog 21 [modV m, .int .i64 self, .agg (stC s sv rv), .int .i64 now, .rs 2 (pairs box)] η n (StepR η n sta0 eff0 13) := by
  have hs := fun η n => sound_ac m s η n k1 k2
  have zs1 := k1.sc
  have zs2 := k2.sc
  have zd1 := k1.ac
  have zd2 := k2.ac
  simp only [modV, stC, h] at hs ⊢
  refine AC.fresh fun hf => ?_; refine AC.enter Try.func21 rfl Try.ntmps21 (by simp) ?_
  have a1 : n ≠ n + 1 := by omega
  simp [aload, afield, apart, upd_apply, Nat.add_assoc, zs1, zs2, zd1, zd2]
  refine ACK.rt (hs _ _) ?_
  simp [zs1, zs2, zd1, zd2, abuild, aplace, afillP, astore, upd_apply, Nat.add_assoc, aload, afield, apart]
  exact resK.rt ⟨.nils, .nils, .nils, rfl, Or.inr (Or.inl ⟨rfl, rfl⟩), Or.inr (Or.inl ⟨rfl, rfl⟩), Or.inr (Or.inl ⟨rfl, rfl⟩), fun r hr => by
    simp only [upd_apply]
    repeat rw [if_neg (by omega)], by omega⟩
end Go.Proofs.Ytkhoelmbcmkhjaa
