/- proc's work: what its small methods do. -/
import Derived.Test.YtkhoelmbcmkhjaaP2
namespace Go.Proofs.Ytkhoelmbcmkhjaa
set_option maxRecDepth 100000

structure Wc where
  m : List Actr
  own : Actr
  op : Int
  arg : Int
  self : Int
  now : Int
  box : List (Int × Int)
structure Wx where
  s : Sta
  eff : Eff
  err : Int
def workC (c : Wc) (x : Wx) (sv rv av : AVal) : List AVal :=
  [.rs 5 (actsC c.m), .rs 1 (ints c.own.params), .rs 1 (ints c.own.regs), .rs 1 (ints c.own.msgs), .rs 2 (pairs c.own.code), .rs 2 (tblsC c.own.tabs), .int .i64 c.op, .int .i64 c.arg, .int .i64 c.self, .int .i64 c.now, .rs 2 (pairs c.box),
    .int .i64 x.s.actor, .int .i64 x.s.pc, sv, rv, .bool x.s.waiting, .int .i64 x.s.till,
    .int .i64 x.eff.kind, .int .i64 x.eff.dest, .int .i64 x.eff.msg.1, .int .i64 x.eff.msg.2, .int .i64 x.eff.actor, av, .int .i64 x.eff.n, .int .i64 x.eff.reason.1, .int .i64 x.eff.reason.2, .int .i64 x.eff.taken, .int .i64 x.err]
/-- a place of the work's own -/
def In (B : Nat) (F : List Nat) (r : Nat) : Prop := r ∈ F ∨ B ≤ r
def ArgsAt (B : Nat) (F : List Nat) (η : AHeap) (g sr rr : Nat) (av : AVal) (l : List Int) : Prop :=
  (av = .nils ∧ l = []) ∨ ∃ ar, av = .sl ar 0 l.length ∧ η ar = some (.cells 1 (ints l)) ∧ ar ≠ g ∧ ar ≠ sr ∧ ar ≠ rr ∧ In B F ar
structure WkR (B : Nat) (F : List Nat) (η : AHeap) (g : Nat) (c : Wc) (x : Wx) (sr rr : Nat) (av : AVal) (J : List Int) : Prop where
  blk : η g = some (.cells 28 [workC c x (.sl sr 0 x.s.stack.length) (.sl rr 0 x.s.regs.length) av])
  st : η sr = some (.cells 1 (ints (x.s.stack ++ J)))
  rg : η rr = some (.cells 1 (ints x.s.regs))
  ar : ArgsAt B F η g sr rr av x.eff.args
  gs : g ≠ sr
  gr : g ≠ rr
  srr : sr ≠ rr
  ig : In B F g
  is : In B F sr
  ir : In B F rr
def WkAt (B : Nat) (F : List Nat) (η : AHeap) (g : Nat) (c : Wc) (x : Wx) : Prop := ∃ sr rr av J, WkR B F η g c x sr rr av J
/-- nothing else has turned -/
def Keep (B : Nat) (F : List Nat) (η η' : AHeap) : Prop := ∀ r, ¬ In B F r → η' r = η r
theorem Keep.refl (B : Nat) (F : List Nat) (η : AHeap) : Keep B F η η := fun _ _ => rfl
theorem Keep.trans {B : Nat} {F : List Nat} {a b c : AHeap} (h : Keep B F a b) (k : Keep B F b c) : Keep B F a c := fun r hr => (k r hr).trans (h r hr)
theorem Keep.upd {B : Nat} {F : List Nat} {η η' : AHeap} {r : Nat} {o : Option AObj} (h : Keep B F η η') (hr : In B F r) : Keep B F η (upd η' r o) := fun x hx => by
  rw [upd_ne (fun e => by subst e; exact hx hr)]; exact h x hx

def Wx.fail (x : Wx) (e : Int) : Wx := if x.err = 0 then { x with err := e } else x
def Wx.stays (x : Wx) : Wx := { x with s := { x.s with pc := IntKind.i64.wrap (x.s.pc - 1) } }
def Wx.goes (x : Wx) (q : Int) : Wx := { x with s := { x.s with pc := q, waiting := false, till := -1 } }
def Wx.exits (x : Wx) (k n : Int) : Wx := { x with eff := { kind := 5, dest := 0, msg := (0, 0), actor := 0, args := [], n := 0, reason := (k, n), taken := -1 } }

theorem WkR.turn {cs : List AVal} {B : Nat} {F : List Nat} {η : AHeap} {g : Nat} {c : Wc} {x : Wx} {sr rr : Nat} {av : AVal} {J : List Int} (h : WkR B F η g c x sr rr av J) (x' : Wx) (hs : x'.s.stack = x.s.stack) (hr : x'.s.regs = x.s.regs) (ha : x'.eff.args = x.eff.args)
    (hc : cs = workC c x' (.sl sr 0 x.s.stack.length) (.sl rr 0 x.s.regs.length) av) : WkR B F (upd η g (some (.cells 28 [cs]))) g c x' sr rr av J := by
  subst hc
  refine ⟨by rw [upd_eq, hs, hr], by rw [upd_ne (Ne.symm h.gs), hs]; exact h.st, by rw [upd_ne (Ne.symm h.gr), hr]; exact h.rg, ?_, h.gs, h.gr, h.srr, h.ig, h.is, h.ir⟩
  rw [ha]
  rcases h.ar with k | ⟨ar, k1, k2, k3, k4, k5, k6⟩
  · exact Or.inl k
  · exact Or.inr ⟨ar, k1, by rw [upd_ne k3]; exact k2, k3, k4, k5, k6⟩

def WPost (B : Nat) (F : List Nat) (η : AHeap) (g : Nat) (c : Wc) (x : Wx) (v : AVal) (n : Nat) : AVal → AHeap → Nat → Prop := fun r η' n' => r = v ∧ WkAt B F η' g c x ∧ Keep B F η η' ∧ n ≤ n'

theorem fail_acR {B : Nat} {F : List Nat} {η : AHeap} {g n : Nat} {c : Wc} {x : Wx} {sr rr : Nat} {av : AVal} {J : List Int} (h : WkR B F η g c x sr rr av J) (e : Int) : AC Try.prog 95 [.ptr g 0 0, .int .i64 e] η n
    (fun r η' n' => r = .tup [] ∧ WkR B F η' g c (x.fail e) sr rr av J ∧ Keep B F η η' ∧ n ≤ n') := by
  have hb := h.blk
  by_cases he : x.err = 0
  · have fin := fun cs hc => h.turn (cs := cs) (x.fail e) (by simp [Wx.fail, he]) (by simp [Wx.fail, he]) (by simp [Wx.fail, he]) hc
    refine AC.enter Try.func95 rfl Try.ntmps95 (by simp) ?_
    simp [aload, afield, apart, hb, workC, he, astore]
    exact resK.rt ⟨rfl, fin _ (by simp [workC, Wx.fail, he]), (Keep.refl _ _ _).upd h.ig, Nat.le_refl _⟩
  · refine AC.enter Try.func95 rfl Try.ntmps95 (by simp) ?_
    simp [aload, afield, apart, hb, workC, he, astore]
    exact resK.rt ⟨rfl, by simpa [Wx.fail, he] using h, Keep.refl _ _ _, Nat.le_refl _⟩
theorem fail_ac {B : Nat} {F : List Nat} {η : AHeap} {g n : Nat} {c : Wc} {x : Wx} (h : WkAt B F η g c x) (e : Int) : AC Try.prog 95 [.ptr g 0 0, .int .i64 e] η n (WPost B F η g c (x.fail e) (.tup []) n) := by
  obtain ⟨sr, rr, av, J, h⟩ := h
  exact (fail_acR h e).mono fun r η' n' ⟨h1, h2, h3, h4⟩ => ⟨h1, ⟨_, _, _, _, h2⟩, h3, h4⟩
theorem stays_ac {B : Nat} {F : List Nat} {η : AHeap} {g n : Nat} {c : Wc} {x : Wx} (h : WkAt B F η g c x) : AC Try.prog 97 [.ptr g 0 0] η n (WPost B F η g c x.stays (.tup []) n) := by
  obtain ⟨sr, rr, av, J, h⟩ := h
  have hb := h.blk
  have fin := fun cs hc => h.turn (cs := cs) x.stays rfl rfl rfl hc
  refine AC.enter Try.func97 rfl Try.ntmps97 (by simp) ?_
  simp [aload, afield, apart, hb, workC, astore]
  exact resK.rt ⟨rfl, ⟨sr, rr, av, J, fin _ (by simp [workC, Wx.stays])⟩, (Keep.refl _ _ _).upd h.ig, Nat.le_refl _⟩
theorem goes_ac {B : Nat} {F : List Nat} {η : AHeap} {g n : Nat} {c : Wc} {x : Wx} (h : WkAt B F η g c x) (q : Int) : AC Try.prog 137 [.ptr g 0 0, .int .i64 q] η n (WPost B F η g c (x.goes q) (.tup []) n) := by
  obtain ⟨sr, rr, av, J, h⟩ := h
  have hb := h.blk
  have fin := fun cs hc => h.turn (cs := cs) (x.goes q) rfl rfl rfl hc
  refine AC.enter Try.func137 rfl Try.ntmps137 (by simp) ?_
  simp [aload, afield, apart, hb, workC, astore, upd_eq, upd_upd]
  exact resK.rt ⟨rfl, ⟨sr, rr, av, J, fin _ (by simp [workC, Wx.goes])⟩, (Keep.refl _ _ _).upd h.ig, Nat.le_refl _⟩
theorem exits_ac {B : Nat} {F : List Nat} {η : AHeap} {g n : Nat} {c : Wc} {x : Wx} (h : WkAt B F η g c x) (k q : Int) : AC Try.prog 98 [.ptr g 0 0, .int .i64 k, .int .i64 q] η n (WPost B F η g c (x.exits k q) (.tup []) n) := by
  obtain ⟨sr, rr, av, J, h⟩ := h
  have hb := h.blk
  have fin : ∀ cs, cs = workC c (x.exits k q) (.sl sr 0 x.s.stack.length) (.sl rr 0 x.s.regs.length) .nils → WkR B F (upd η g (some (.cells 28 [cs]))) g c (x.exits k q) sr rr .nils J := fun cs hc => by
    subst hc
    exact ⟨by rw [upd_eq]; rfl, by rw [upd_ne (Ne.symm h.gs)]; exact h.st, by rw [upd_ne (Ne.symm h.gr)]; exact h.rg, Or.inl ⟨rfl, rfl⟩, h.gs, h.gr, h.srr, h.ig, h.is, h.ir⟩
  refine AC.enter Try.func98 rfl Try.ntmps98 (by simp) ?_
  simp [aload, afield, apart, hb, workC, astore, upd_eq, upd_upd, abuild, aplace, afillP]
  exact resK.rt ⟨rfl, ⟨sr, rr, .nils, J, fin _ (by simp [workC, Wx.exits])⟩, (Keep.refl _ _ _).upd h.ig, Nat.le_refl _⟩
theorem named_ac {B : Nat} {F : List Nat} {η : AHeap} {g n : Nat} {c : Wc} {x : Wx} (h : WkAt B F η g c x) (q : Int) : AC Try.prog 106 [.ptr g 0 0, .int .i64 q] η n
    (WPost B F η g c (if 0 ≤ c.arg ∧ c.arg < q then x else x.fail 6) (.bool (decide (0 ≤ c.arg ∧ c.arg < q))) n) := by
  have hf := fun n => fail_ac (n := n) h 6
  obtain ⟨sr, rr, av, J, h⟩ := h
  have hb := h.blk
  by_cases hq : 0 ≤ c.arg ∧ c.arg < q
  · refine AC.enter Try.func106 rfl Try.ntmps106 (by simp) ?_
    simp [aload, afield, apart, hb, workC]
    refine ACK.rt (names_ac _ _ _ _) ?_
    simp [hq]
    exact resK.rt ⟨by simp [hq], ⟨sr, rr, av, J, by simpa [hq] using h⟩, Keep.refl _ _ _, Nat.le_refl _⟩
  · refine AC.enter Try.func106 rfl Try.ntmps106 (by simp) ?_
    simp [aload, afield, apart, hb, workC]
    refine ACK.rt (names_ac _ _ _ _) ?_
    simp [hq]
    refine ACK.use (hf n) ?_
    intro r η' n' ⟨e1, e2, e3, e4⟩
    subst e1
    simp
    exact resK.same ⟨by simp [hq], by simpa [hq] using e2, e3, e4⟩ (Nat.le_refl _)
def Wx.top (x : Wx) : Int := x.s.stack.getLastD 0
def Wx.pop (x : Wx) : Wx := if x.s.stack = [] then x.fail 12 else { x with s := { x.s with stack := x.s.stack.dropLast } }
def Wx.push (x : Wx) (n : Int) : Wx := if 16 ≤ x.s.stack.length then x.fail 12 else { x with s := { x.s with stack := x.s.stack ++ [n] } }
theorem pop_acR {B : Nat} {F : List Nat} {η : AHeap} {g n : Nat} {c : Wc} {x : Wx} {sr rr : Nat} {av : AVal} {J : List Int} (h : WkR B F η g c x sr rr av J) (hl : x.s.stack.length ≤ 17592186044416) : AC Try.prog 96 [.ptr g 0 0] η n 
    (fun r η' n' => r = .int .i64 x.top ∧ (∃ J', WkR B F η' g c x.pop sr rr av J') ∧ Keep B F η η' ∧ n ≤ n') := by
  have hf := fun n => fail_acR (n := n) h 12
  have hb := h.blk
  have hs := h.st
  have hgs := h.gs
  by_cases he : x.s.stack = []
  · have ht : x.top = 0 := by simp [Wx.top, he]
    have hp : x.pop = x.fail 12 := by simp [Wx.pop, he]
    have hw0 : IntKind.i64.wrap ((x.s.stack.length : Int) - 1) = -1 := by rw [wrap_id (by rw [he]; simp) (by rw [he]; simp), he]; simp
    refine AC.enter Try.func96 rfl Try.ntmps96 (by simp) ?_
    simp [aload, afield, apart, hb, workC, alenT, hw0]
    refine ACK.use (hf n) ?_
    intro r η' n' ⟨e1, e2, e3, e4⟩
    subst e1
    simp
    exact resK.same ⟨by rw [ht], by rw [hp]; exact ⟨_, e2⟩, e3, e4⟩ (Nat.le_refl _)
  · have hpos : 0 < x.s.stack.length := List.length_pos_iff.2 he
    have hw : IntKind.i64.wrap ((x.s.stack.length : Int) - 1) = ((x.s.stack.length - 1 : Nat) : Int) := by rw [wrap_id (by omega) (by omega)]; omega
    have n1 : ¬ (((x.s.stack.length - 1 : Nat) : Int) < 0) := by omega
    have hlt : x.s.stack.length - 1 < x.s.stack.length := by omega
    have hget : (ints (x.s.stack ++ J))[x.s.stack.length - 1]? = some [.int .i64 x.top] := by
      rw [ints_get, List.getElem?_append_left hlt, List.getElem?_eq_getElem hlt]
      simp [Wx.top, List.getLastD_eq_getLast?, List.getLast?_eq_getElem?, hlt]
    have hdl : x.s.stack.dropLast ++ (x.s.stack.getLast he :: J) = x.s.stack ++ J := by
      rw [List.append_cons, List.dropLast_concat_getLast he]
    have fin : ∀ cs, cs = workC c x.pop (.sl sr 0 (x.s.stack.length - 1)) (.sl rr 0 x.s.regs.length) av → WkR B F (upd η g (some (.cells 28 [cs]))) g c x.pop sr rr av (x.s.stack.getLast he :: J) := fun cs hc => by
      subst hc
      have e1 : x.pop = { x with s := { x.s with stack := x.s.stack.dropLast } } := by simp [Wx.pop, he]
      refine ⟨by rw [upd_eq, e1]; simp, by rw [upd_ne (Ne.symm h.gs), e1, hs, ← hdl], by rw [upd_ne (Ne.symm h.gr), e1]; exact h.rg, ?_, h.gs, h.gr, h.srr, h.ig, h.is, h.ir⟩
      rw [e1]
      rcases h.ar with k | ⟨ar, k1, k2, k3, k4, k5, k6⟩
      · exact Or.inl k
      · exact Or.inr ⟨ar, k1, by rw [upd_ne k3]; exact k2, k3, k4, k5, k6⟩
    refine AC.enter Try.func96 rfl Try.ntmps96 (by simp) ?_
    simp [aload, afield, apart, hb, workC, alenT, hw, n1, aindex, hs, hget, hlt, asliceV, abnd, astore]
    exact resK.rt ⟨rfl, ⟨_, fin _ (by simp [workC, Wx.pop, he])⟩, (Keep.refl _ _ _).upd h.ig, Nat.le_refl _⟩
theorem pop_ac {B : Nat} {F : List Nat} {η : AHeap} {g n : Nat} {c : Wc} {x : Wx} (h : WkAt B F η g c x) (hl : x.s.stack.length ≤ 17592186044416) : AC Try.prog 96 [.ptr g 0 0] η n (WPost B F η g c x.pop (.int .i64 x.top) n) := by
  obtain ⟨sr, rr, av, J, h⟩ := h
  exact (pop_acR h hl).mono fun r η' n' ⟨h1, ⟨_, h2⟩, h3, h4⟩ => ⟨h1, ⟨_, _, _, _, h2⟩, h3, h4⟩
theorem push_ac {B : Nat} {F : List Nat} {η : AHeap} {g n : Nat} {c : Wc} {x : Wx} (h : WkAt B F η g c x) (hn : B ≤ n) (q : Int) : AC Try.prog 67 [.ptr g 0 0, .int .i64 q] η n (WPost B F η g c (x.push q) (.tup []) n) := by
  have hf := fun n => fail_ac (n := n) h 12
  obtain ⟨sr, rr, av, J, h⟩ := h
  have hb := h.blk
  have hs := h.st
  have hgs := h.gs
  refine AC.fresh fun hfr => ?_
  have hgn : g ≠ n := fun e => by have := hfr g (by omega); rw [hb] at this; cases this
  have hsn : sr ≠ n := fun e => by have := hfr sr (by omega); rw [hs] at this; cases this
  by_cases he : 16 ≤ x.s.stack.length
  · have he' : (16 : Int) ≤ x.s.stack.length := by omega
    have hp : x.push q = x.fail 12 := by simp [Wx.push, he]
    refine AC.enter Try.func67 rfl Try.ntmps67 (by simp) ?_
    simp [aload, afield, apart, hb, workC, alenT, he']
    refine ACK.use (hf n) ?_
    intro r η' n' ⟨e1, e2, e3, e4⟩
    subst e1
    simp
    exact resK.same ⟨rfl, by rw [hp]; exact e2, e3, e4⟩ (Nat.le_refl _)
  · have he' : ¬ (16 : Int) ≤ x.s.stack.length := by omega
    have hgn1 : g ≠ n + 1 := fun e => by have := hfr g (by omega); rw [hb] at this; cases this
    have hr1 : rr ≠ n + 1 := fun e => by have := hfr rr (by omega); rw [h.rg] at this; cases this
    have htk : List.take x.s.stack.length (ints (x.s.stack ++ J)) = ints x.s.stack := by simp [ints]
    have hi : In B F (n + 1) := Or.inr (by omega)
    have hrn : rr ≠ n := fun e => by have := hfr rr (by omega); rw [h.rg] at this; cases this
    refine AC.enter Try.func67 rfl Try.ntmps67 (by simp) ?_
    simp [aload, afield, apart, hb, workC, alenT, he', upd_ne hgn, abuildS, afillP, chunk, appK, aappend, arows, upd_eq, upd_ne hsn, hs, tek, lenMax, astore, upd_ne hrn, upd_ne hgs, upd_ne hgn1, htk]
    refine ⟨by omega, by omega, resK.rt ⟨rfl, ⟨n + 1, rr, av, [], ?_⟩, ((((Keep.refl _ _ _).upd (Or.inr hn)).upd h.is).upd hi).upd h.ig, by omega⟩⟩
    have e1 : x.push q = { x with s := { x.s with stack := x.s.stack ++ [q] } } := by simp [Wx.push, he]
    rw [e1]
    refine ⟨by rw [upd_eq]; simp [workC], by rw [upd_ne (Ne.symm hgn1), upd_eq]; simp [ints], by rw [upd_ne (Ne.symm h.gr), upd_ne hr1, upd_ne (Ne.symm h.srr), upd_ne hrn]; exact h.rg, ?_, hgn1, h.gr, Ne.symm hr1, h.ig, hi, h.ir⟩
    rcases h.ar with k | ⟨ar, k1, k2, k3, k4, k5, k6⟩
    · exact Or.inl k
    · have a1 : ar ≠ n := fun e => by have := hfr ar (by omega); rw [k2] at this; cases this
      have a2 : ar ≠ n + 1 := fun e => by have := hfr ar (by omega); rw [k2] at this; cases this
      exact Or.inr ⟨ar, k1, by rw [upd_ne k3, upd_ne a2, upd_ne k4, upd_ne a1]; exact k2, k3, a2, k5, k6⟩
end Go.Proofs.Ytkhoelmbcmkhjaa
