/- proc's work: what its small methods do. slices.Clone and proc's own: a state of one's own. proc's deeds, the small ones. proc's deeds, those that reach the registers; a value from the stack. proc's two: an operation on two values, or back where it was. proc's spawns. proc's receives (printed by recv9.py). proc's deeds: the map of them; deed. proc.Step. proc.Step, of a sound state. proc.New, Got, Ready. proc.Got, Ready. callboylaw15.lives. Lists compared: callboyref01.SameLongs. Abstract Go, 20: == on structs of whole numbers. Layers 2, 4, 5 on numbers: types, instructions (and the reference's). slices' functions over lists of types. slices.Grow, Concat, Repeat. ContainsFunc; layers 2 and 5: lists of types, actors, modules that are right (printed by gen_cd.py). -/
import Derived.Laws.StructEq
import Derived.Test.YtbomkomipaipmaaGreatVd
namespace Go.Proofs.YtbomkomipaipmaaGreat
set_option maxRecDepth 100000

structure Wc where
  m : List Actr
  own : Actr
  op : Int
  arg : Int
  self : Int
  now : Int
  box : List (Int × Int)
structure Wx where
  s : Sta
  eff : Eff
  err : Int
def workC (c : Wc) (x : Wx) (sv rv av : AVal) : List AVal :=
  [.rs 5 (actsC c.m), .rs 1 (ints c.own.params), .rs 1 (ints c.own.regs), .rs 1 (ints c.own.msgs), .rs 2 (pairs c.own.code), .rs 2 (tblsC c.own.tabs), .int .i64 c.op, .int .i64 c.arg, .int .i64 c.self, .int .i64 c.now, .rs 2 (pairs c.box),
    .int .i64 x.s.actor, .int .i64 x.s.pc, sv, rv, .bool x.s.waiting, .int .i64 x.s.till,
    .int .i64 x.eff.kind, .int .i64 x.eff.dest, .int .i64 x.eff.msg.1, .int .i64 x.eff.msg.2, .int .i64 x.eff.actor, av, .int .i64 x.eff.n, .int .i64 x.eff.reason.1, .int .i64 x.eff.reason.2, .int .i64 x.eff.taken, .int .i64 x.err]
/-- a place of the work's own -/
def In (B : Nat) (F : List Nat) (r : Nat) : Prop := r ∈ F ∨ B ≤ r
def ArgsAt (B : Nat) (F : List Nat) (η : AHeap) (g sr rr : Nat) (av : AVal) (l : List Int) : Prop :=
  (av = .nils ∧ l = []) ∨ ∃ ar, av = .sl ar 0 l.length ∧ η ar = some (.cells 1 (ints l)) ∧ ar ≠ g ∧ ar ≠ sr ∧ ar ≠ rr ∧ In B F ar
structure WkR (B : Nat) (F : List Nat) (η : AHeap) (g : Nat) (c : Wc) (x : Wx) (sr rr : Nat) (av : AVal) (J : List Int) : Prop where
  blk : η g = some (.cells 28 [workC c x (.sl sr 0 x.s.stack.length) (.sl rr 0 x.s.regs.length) av])
  st : η sr = some (.cells 1 (ints (x.s.stack ++ J)))
  rg : η rr = some (.cells 1 (ints x.s.regs))
  ar : ArgsAt B F η g sr rr av x.eff.args
  gs : g ≠ sr
  gr : g ≠ rr
  srr : sr ≠ rr
  ig : In B F g
  is : In B F sr
  ir : In B F rr
def WkAt (B : Nat) (F : List Nat) (η : AHeap) (g : Nat) (c : Wc) (x : Wx) : Prop := ∃ sr rr av J, WkR B F η g c x sr rr av J
/-- nothing else has turned -/
def Keep (B : Nat) (F : List Nat) (η η' : AHeap) : Prop := ∀ r, ¬ In B F r → η' r = η r
theorem Keep.refl (B : Nat) (F : List Nat) (η : AHeap) : Keep B F η η := fun _ _ => rfl
theorem Keep.trans {B : Nat} {F : List Nat} {a b c : AHeap} (h : Keep B F a b) (k : Keep B F b c) : Keep B F a c := fun r hr => (k r hr).trans (h r hr)
theorem Keep.upd {B : Nat} {F : List Nat} {η η' : AHeap} {r : Nat} {o : Option AObj} (h : Keep B F η η') (hr : In B F r) : Keep B F η (upd η' r o) := fun x hx => by
  rw [upd_ne (fun e => by subst e; exact hx hr)]; exact h x hx

def Wx.fail (x : Wx) (e : Int) : Wx := if x.err = 0 then { x with err := e } else x
def Wx.stays (x : Wx) : Wx := { x with s := { x.s with pc := IntKind.i64.wrap (x.s.pc - 1) } }
def Wx.goes (x : Wx) (q : Int) : Wx := { x with s := { x.s with pc := q, waiting := false, till := -1 } }
def Wx.exits (x : Wx) (k n : Int) : Wx := { x with eff := { kind := 5, dest := 0, msg := (0, 0), actor := 0, args := [], n := 0, reason := (k, n), taken := -1 } }

theorem WkR.turn {cs : List AVal} {B : Nat} {F : List Nat} {η : AHeap} {g : Nat} {c : Wc} {x : Wx} {sr rr : Nat} {av : AVal} {J : List Int} (h : WkR B F η g c x sr rr av J) (x' : Wx) (hs : x'.s.stack = x.s.stack) (hr : x'.s.regs = x.s.regs) (ha : x'.eff.args = x.eff.args)
    (hc : cs = workC c x' (.sl sr 0 x.s.stack.length) (.sl rr 0 x.s.regs.length) av) : WkR B F (upd η g (some (.cells 28 [cs]))) g c x' sr rr av J := by
  subst hc
  refine ⟨by rw [upd_eq, hs, hr], by rw [upd_ne (Ne.symm h.gs), hs]; exact h.st, by rw [upd_ne (Ne.symm h.gr), hr]; exact h.rg, ?_, h.gs, h.gr, h.srr, h.ig, h.is, h.ir⟩
  rw [ha]
  rcases h.ar with k | ⟨ar, k1, k2, k3, k4, k5, k6⟩
  · exact Or.inl k
  · exact Or.inr ⟨ar, k1, by rw [upd_ne k3]; exact k2, k3, k4, k5, k6⟩

def WPost (B : Nat) (F : List Nat) (η : AHeap) (g : Nat) (c : Wc) (x : Wx) (v : AVal) (n : Nat) : AVal → AHeap → Nat → Prop := fun r η' n' => r = v ∧ WkAt B F η' g c x ∧ Keep B F η η' ∧ n ≤ n'

theorem fail_acR {B : Nat} {F : List Nat} {η : AHeap} {g n : Nat} {c : Wc} {x : Wx} {sr rr : Nat} {av : AVal} {J : List Int} (h : WkR B F η g c x sr rr av J) (e : Int) : AC Tryz.prog 254 [.ptr g 0 0, .int .i64 e] η n
    (fun r η' n' => r = .tup [] ∧ WkR B F η' g c (x.fail e) sr rr av J ∧ Keep B F η η' ∧ n ≤ n') := by
  have hb := h.blk
  by_cases he : x.err = 0
  · have fin := fun cs hc => h.turn (cs := cs) (x.fail e) (by simp [Wx.fail, he]) (by simp [Wx.fail, he]) (by simp [Wx.fail, he]) hc
    refine AC.enter Tryz.func254 rfl Tryz.ntmps254 (by simp) ?_
    simp [aload, afield, apart, hb, workC, he, astore]
    exact resK.rt ⟨rfl, fin _ (by simp [workC, Wx.fail, he]), (Keep.refl _ _ _).upd h.ig, Nat.le_refl _⟩
  · refine AC.enter Tryz.func254 rfl Tryz.ntmps254 (by simp) ?_
    simp [aload, afield, apart, hb, workC, he]
    exact resK.rt ⟨rfl, by simpa [Wx.fail, he] using h, Keep.refl _ _ _, Nat.le_refl _⟩
theorem fail_ac {B : Nat} {F : List Nat} {η : AHeap} {g n : Nat} {c : Wc} {x : Wx} (h : WkAt B F η g c x) (e : Int) : AC Tryz.prog 254 [.ptr g 0 0, .int .i64 e] η n (WPost B F η g c (x.fail e) (.tup []) n) := by
  obtain ⟨sr, rr, av, J, h⟩ := h
  exact (fail_acR h e).mono fun r η' n' ⟨h1, h2, h3, h4⟩ => ⟨h1, ⟨_, _, _, _, h2⟩, h3, h4⟩
theorem stays_ac {B : Nat} {F : List Nat} {η : AHeap} {g n : Nat} {c : Wc} {x : Wx} (h : WkAt B F η g c x) : AC Tryz.prog 202 [.ptr g 0 0] η n (WPost B F η g c x.stays (.tup []) n) := by
  obtain ⟨sr, rr, av, J, h⟩ := h
  have hb := h.blk
  have fin := fun cs hc => h.turn (cs := cs) x.stays rfl rfl rfl hc
  refine AC.enter Tryz.func202 rfl Tryz.ntmps202 (by simp) ?_
  simp [aload, afield, apart, hb, workC, astore]
  exact resK.rt ⟨rfl, ⟨sr, rr, av, J, fin _ (by simp [workC, Wx.stays])⟩, (Keep.refl _ _ _).upd h.ig, Nat.le_refl _⟩
theorem goes_ac {B : Nat} {F : List Nat} {η : AHeap} {g n : Nat} {c : Wc} {x : Wx} (h : WkAt B F η g c x) (q : Int) : AC Tryz.prog 258 [.ptr g 0 0, .int .i64 q] η n (WPost B F η g c (x.goes q) (.tup []) n) := by
  obtain ⟨sr, rr, av, J, h⟩ := h
  have hb := h.blk
  have fin := fun cs hc => h.turn (cs := cs) (x.goes q) rfl rfl rfl hc
  refine AC.enter Tryz.func258 rfl Tryz.ntmps258 (by simp) ?_
  simp [afield, hb, workC, astore, upd_eq, upd_upd]
  exact resK.rt ⟨rfl, ⟨sr, rr, av, J, fin _ (by simp [workC, Wx.goes])⟩, (Keep.refl _ _ _).upd h.ig, Nat.le_refl _⟩
theorem exits_ac {B : Nat} {F : List Nat} {η : AHeap} {g n : Nat} {c : Wc} {x : Wx} (h : WkAt B F η g c x) (k q : Int) : AC Tryz.prog 203 [.ptr g 0 0, .int .i64 k, .int .i64 q] η n (WPost B F η g c (x.exits k q) (.tup []) n) := by
  obtain ⟨sr, rr, av, J, h⟩ := h
  have hb := h.blk
  have fin : ∀ cs, cs = workC c (x.exits k q) (.sl sr 0 x.s.stack.length) (.sl rr 0 x.s.regs.length) .nils → WkR B F (upd η g (some (.cells 28 [cs]))) g c (x.exits k q) sr rr .nils J := fun cs hc => by
    subst hc
    exact ⟨by rw [upd_eq]; rfl, by rw [upd_ne (Ne.symm h.gs)]; exact h.st, by rw [upd_ne (Ne.symm h.gr)]; exact h.rg, Or.inl ⟨rfl, rfl⟩, h.gs, h.gr, h.srr, h.ig, h.is, h.ir⟩
  refine AC.enter Tryz.func203 rfl Tryz.ntmps203 (by simp) ?_
  simp [afield, hb, workC, astore, abuild, aplace, afillP]
  exact resK.rt ⟨rfl, ⟨sr, rr, .nils, J, fin _ (by simp [workC, Wx.exits])⟩, (Keep.refl _ _ _).upd h.ig, Nat.le_refl _⟩
theorem named_ac {B : Nat} {F : List Nat} {η : AHeap} {g n : Nat} {c : Wc} {x : Wx} (h : WkAt B F η g c x) (q : Int) : AC Tryz.prog 212 [.ptr g 0 0, .int .i64 q] η n
    (WPost B F η g c (if 0 ≤ c.arg ∧ c.arg < q then x else x.fail 6) (.bool (decide (0 ≤ c.arg ∧ c.arg < q))) n) := by
  have hf := fun n => fail_ac (n := n) h 6
  obtain ⟨sr, rr, av, J, h⟩ := h
  have hb := h.blk
  by_cases hq : 0 ≤ c.arg ∧ c.arg < q
  · refine AC.enter Tryz.func212 rfl Tryz.ntmps212 (by simp) ?_
    simp [aload, afield, apart, hb, workC]
    refine ACK.rt (names_ac _ _ _ _) ?_
    simp [hq]
    exact resK.rt ⟨by simp [hq], ⟨sr, rr, av, J, by simpa [hq] using h⟩, Keep.refl _ _ _, Nat.le_refl _⟩
  · refine AC.enter Tryz.func212 rfl Tryz.ntmps212 (by simp) ?_
    simp [aload, afield, apart, hb, workC]
    refine ACK.rt (names_ac _ _ _ _) ?_
    simp [hq]
    refine ACK.use (hf n) ?_
    intro r η' n' ⟨e1, e2, e3, e4⟩
    subst e1
    simp
    exact resK.same ⟨by simp [hq], by simpa [hq] using e2, e3, e4⟩ (Nat.le_refl _)
def Wx.top (x : Wx) : Int := x.s.stack.getLastD 0
def Wx.pop (x : Wx) : Wx := if x.s.stack = [] then x.fail 12 else { x with s := { x.s with stack := x.s.stack.dropLast } }
def Wx.push (x : Wx) (n : Int) : Wx := if 16 ≤ x.s.stack.length then x.fail 12 else { x with s := { x.s with stack := x.s.stack ++ [n] } }
theorem pop_acR {B : Nat} {F : List Nat} {η : AHeap} {g n : Nat} {c : Wc} {x : Wx} {sr rr : Nat} {av : AVal} {J : List Int} (h : WkR B F η g c x sr rr av J) (hl : x.s.stack.length ≤ 17592186044416) : AC Tryz.prog 200 [.ptr g 0 0] η n 
    (fun r η' n' => r = .int .i64 x.top ∧ (∃ J', WkR B F η' g c x.pop sr rr av J') ∧ Keep B F η η' ∧ n ≤ n') := by
  have hf := fun n => fail_acR (n := n) h 12
  have hb := h.blk
  have hs := h.st
  have hgs := h.gs
  by_cases he : x.s.stack = []
  · have ht : x.top = 0 := by simp [Wx.top, he]
    have hp : x.pop = x.fail 12 := by simp [Wx.pop, he]
    have hw0 : IntKind.i64.wrap ((x.s.stack.length : Int) - 1) = -1 := by rw [wrap_id (by rw [he]; simp) (by rw [he]; simp), he]; simp
    refine AC.enter Tryz.func200 rfl Tryz.ntmps200 (by simp) ?_
    simp [aload, afield, apart, hb, workC, alenT, hw0]
    refine ACK.use (hf n) ?_
    intro r η' n' ⟨e1, e2, e3, e4⟩
    subst e1
    simp
    exact resK.same ⟨by rw [ht], by rw [hp]; exact ⟨_, e2⟩, e3, e4⟩ (Nat.le_refl _)
  · have hpos : 0 < x.s.stack.length := List.length_pos_iff.2 he
    have hw : IntKind.i64.wrap ((x.s.stack.length : Int) - 1) = ((x.s.stack.length - 1 : Nat) : Int) := by rw [wrap_id (by omega) (by omega)]; omega
    have n1 : ¬ (((x.s.stack.length - 1 : Nat) : Int) < 0) := by omega
    have hlt : x.s.stack.length - 1 < x.s.stack.length := by omega
    have hget : (ints (x.s.stack ++ J))[x.s.stack.length - 1]? = some [.int .i64 x.top] := by
      rw [ints_get, List.getElem?_append_left hlt, List.getElem?_eq_getElem hlt]
      simp [Wx.top, List.getLastD_eq_getLast?, List.getLast?_eq_getElem?, hlt]
    have hdl : x.s.stack.dropLast ++ (x.s.stack.getLast he :: J) = x.s.stack ++ J := by
      rw [List.append_cons, List.dropLast_concat_getLast he]
    have fin : ∀ cs, cs = workC c x.pop (.sl sr 0 (x.s.stack.length - 1)) (.sl rr 0 x.s.regs.length) av → WkR B F (upd η g (some (.cells 28 [cs]))) g c x.pop sr rr av (x.s.stack.getLast he :: J) := fun cs hc => by
      subst hc
      have e1 : x.pop = { x with s := { x.s with stack := x.s.stack.dropLast } } := by simp [Wx.pop, he]
      refine ⟨by rw [upd_eq, e1]; simp, by rw [upd_ne (Ne.symm h.gs), e1, hs, ← hdl], by rw [upd_ne (Ne.symm h.gr), e1]; exact h.rg, ?_, h.gs, h.gr, h.srr, h.ig, h.is, h.ir⟩
      rw [e1]
      rcases h.ar with k | ⟨ar, k1, k2, k3, k4, k5, k6⟩
      · exact Or.inl k
      · exact Or.inr ⟨ar, k1, by rw [upd_ne k3]; exact k2, k3, k4, k5, k6⟩
    refine AC.enter Tryz.func200 rfl Tryz.ntmps200 (by simp) ?_
    simp [aload, afield, apart, hb, workC, alenT, hw, n1, aindex, hs, hget, hlt, asliceV, abnd, astore]
    exact resK.rt ⟨rfl, ⟨_, fin _ (by simp [workC, Wx.pop, he])⟩, (Keep.refl _ _ _).upd h.ig, Nat.le_refl _⟩
theorem pop_ac {B : Nat} {F : List Nat} {η : AHeap} {g n : Nat} {c : Wc} {x : Wx} (h : WkAt B F η g c x) (hl : x.s.stack.length ≤ 17592186044416) : AC Tryz.prog 200 [.ptr g 0 0] η n (WPost B F η g c x.pop (.int .i64 x.top) n) := by
  obtain ⟨sr, rr, av, J, h⟩ := h
  exact (pop_acR h hl).mono fun r η' n' ⟨h1, ⟨_, h2⟩, h3, h4⟩ => ⟨h1, ⟨_, _, _, _, h2⟩, h3, h4⟩
theorem push_ac {B : Nat} {F : List Nat} {η : AHeap} {g n : Nat} {c : Wc} {x : Wx} (h : WkAt B F η g c x) (hn : B ≤ n) (q : Int) : AC Tryz.prog 204 [.ptr g 0 0, .int .i64 q] η n (WPost B F η g c (x.push q) (.tup []) n) := by
  have hf := fun n => fail_ac (n := n) h 12
  obtain ⟨sr, rr, av, J, h⟩ := h
  have hb := h.blk
  have hs := h.st
  have hgs := h.gs
  refine AC.fresh fun hfr => ?_
  have hgn : g ≠ n := fun e => by have := hfr g (by omega); rw [hb] at this; cases this
  have hsn : sr ≠ n := fun e => by have := hfr sr (by omega); rw [hs] at this; cases this
  by_cases he : 16 ≤ x.s.stack.length
  · have he' : (16 : Int) ≤ x.s.stack.length := by omega
    have hp : x.push q = x.fail 12 := by simp [Wx.push, he]
    refine AC.enter Tryz.func204 rfl Tryz.ntmps204 (by simp) ?_
    simp [aload, afield, apart, hb, workC, alenT, he']
    refine ACK.use (hf n) ?_
    intro r η' n' ⟨e1, e2, e3, e4⟩
    subst e1
    simp
    exact resK.same ⟨rfl, by rw [hp]; exact e2, e3, e4⟩ (Nat.le_refl _)
  · have he' : ¬ (16 : Int) ≤ x.s.stack.length := by omega
    have hgn1 : g ≠ n + 1 := fun e => by have := hfr g (by omega); rw [hb] at this; cases this
    have hr1 : rr ≠ n + 1 := fun e => by have := hfr rr (by omega); rw [h.rg] at this; cases this
    have htk : List.take x.s.stack.length (ints (x.s.stack ++ J)) = ints x.s.stack := by simp [ints]
    have hi : In B F (n + 1) := Or.inr (by omega)
    have hrn : rr ≠ n := fun e => by have := hfr rr (by omega); rw [h.rg] at this; cases this
    refine AC.enter Tryz.func204 rfl Tryz.ntmps204 (by simp) ?_
    simp [aload, afield, apart, hb, workC, alenT, he', upd_ne hgn, abuildS, afillP, chunk, appK, aappend, arows, upd_eq, upd_ne hsn, hs, tek, lenMax, astore, upd_ne hgs, upd_ne hgn1, htk]
    refine ⟨by omega, by omega, resK.rt ⟨rfl, ⟨n + 1, rr, av, [], ?_⟩, ((((Keep.refl _ _ _).upd (Or.inr hn)).upd h.is).upd hi).upd h.ig, by omega⟩⟩
    have e1 : x.push q = { x with s := { x.s with stack := x.s.stack ++ [q] } } := by simp [Wx.push, he]
    rw [e1]
    refine ⟨by rw [upd_eq]; simp [workC], by rw [upd_ne (Ne.symm hgn1), upd_eq]; simp [ints], by rw [upd_ne (Ne.symm h.gr), upd_ne hr1, upd_ne (Ne.symm h.srr), upd_ne hrn]; exact h.rg, ?_, hgn1, h.gr, Ne.symm hr1, h.ig, hi, h.ir⟩
    rcases h.ar with k | ⟨ar, k1, k2, k3, k4, k5, k6⟩
    · exact Or.inl k
    · have a1 : ar ≠ n := fun e => by have := hfr ar (by omega); rw [k2] at this; cases this
      have a2 : ar ≠ n + 1 := fun e => by have := hfr ar (by omega); rw [k2] at this; cases this
      exact Or.inr ⟨ar, k1, by rw [upd_ne k3, upd_ne a2, upd_ne k4, upd_ne a1]; exact k2, k3, a2, k5, k6⟩
end Go.Proofs.YtbomkomipaipmaaGreat
namespace Go.Proofs.YtbomkomipaipmaaGreat
set_option maxRecDepth 100000

theorem clone_ac {η : AHeap} {n : Nat} {v : AVal} {l : List Int} (h : IsL η v l) (hl : l.length ≤ 17592186044416) : AC Tryz.prog 53 [v] η n (NewL η n l) := by
  refine AC.nilOwn 1 (by decide) ?_
  have fin : ∀ n' η', n ≤ n' → (∀ r, r < n → η' r = η r) → l = [] → NewL η n l (.sl n' 0 0) (upd η' n' (some (.cells 1 []))) (n' + 1) := fun n' η' h1 h2 h3 => by
    subst h3
    exact ⟨n', rfl, by rw [upd_eq]; rfl, h1, by omega, fun r hr => by rw [upd_ne (by omega)]; exact h2 r hr⟩
  have fin2 : ∀ o1 o2, NewL η n l (.sl (n + 1) 0 l.length) (upd (upd (upd η n o1) n o2) (n + 1) (some (.cells 1 (ints l)))) (n + 1 + 1) := fun _ _ => ⟨n + 1, rfl, upd_eq .., by omega, by omega, fun r hr => by rw [upd_ne (by omega), upd_ne (by omega), upd_ne (by omega)]⟩
  have hfl := ints_len l
  have hnil : ints l = [] → l = [] := fun h => by simpa [ints] using h
  rcases h with rfl | ⟨rfl, rfl⟩ | ⟨r, o, I, J, rfl, ho, hr⟩
  · refine AC.enter Tryz.func53 rfl Tryz.ntmps53 (by simp) ?_
    simp [nilcmp, anil, abuildS, afillP, chunk, appK, aappend, arows, hfl, tek, upd_eq, lenMax, hl]
    exact ⟨⟨ints_sc, by omega, resK.rt (Or.inl (fin2 _ _))⟩, fun e => resK.rt (Or.inr ⟨rfl, fin _ _ (Nat.le_refl _) (fun _ _ => rfl) (hnil e)⟩)⟩
  · refine AC.enter Tryz.func53 rfl Tryz.ntmps53 (by simp) ?_
    simp
    exact resK.rt (Or.inr ⟨rfl, fin _ _ (Nat.le_refl _) (fun _ _ => rfl) rfl⟩)
  · have ht := take_ints I l J
    rw [← ho] at ht
    have hlen : o + l.length ≤ I.length + (l.length + J.length) := by omega
    refine AC.fresh fun hf => ?_
    have hrn : r ≠ n := fun e => by have := hf r (by omega); rw [hr] at this; cases this
    refine AC.enter Tryz.func53 rfl Tryz.ntmps53 (by simp) ?_
    simp [nilcmp, anil, abuildS, afillP, chunk, appK, aappend, arows, upd_ne hrn, hr, ht, hlen, hfl, tek, upd_eq, lenMax, hl]
    exact ⟨⟨ints_sc, by omega, resK.rt (Or.inl (fin2 _ _))⟩, fun e => resK.rt (Or.inr ⟨rfl, fin _ _ (Nat.le_refl _) (fun _ _ => rfl) e⟩)⟩

def stA (s : Sta) (sv rv : AVal) : List AVal := [.int .i64 s.actor, .int .i64 s.pc, sv, rv, .bool s.waiting, .int .i64 s.till]
def NewS (η : AHeap) (n : Nat) (s : Sta) : AVal → AHeap → Nat → Prop := fun u η' n' => ∃ sr rr, u = .agg (stA s (.sl sr 0 s.stack.length) (.sl rr 0 s.regs.length)) ∧ η' sr = some (.cells 1 (ints s.stack)) ∧ η' rr = some (.cells 1 (ints s.regs)) ∧ n ≤ sr ∧ n ≤ rr ∧ sr ≠ rr ∧ sr < n' ∧ rr < n' ∧ ∀ r, r < n → η' r = η r
theorem own_ac {η : AHeap} {n : Nat} {s : Sta} {sv rv : AVal} (h1 : IsL η sv s.stack) (h2 : IsL η rv s.regs) (hl1 : s.stack.length ≤ 17592186044416) (hl2 : s.regs.length ≤ 17592186044416) : AC Tryz.prog 98 [.agg (stA s sv rv)] η n (NewS η n s) := by
  have s1 := h1.sc
  have s2 := h2.sc
  refine AC.fresh fun hf => ?_; refine AC.enter Tryz.func98 rfl Tryz.ntmps98 (by simp) ?_
  simp [stA, s1, s2]
  refine drawK.intro mixed [(0, []), (1, []), (3, []), (4, []), (2, [4]), (6, []), (5, []), (7, []), (8, []), (9, [])] (by kernel_rfl) ?_
  have hn : n ≠ n + 1 := by omega
  have f2 : ∀ o1 o2 r, n + 1 + 1 ≤ r → upd (upd η n o1) (n + 1) o2 r = none := fun o1 o2 r hr => by rw [upd_ne (by omega), upd_ne (by omega)]; exact hf r (by omega)
  have k2 : ∀ o1 o2 r, r < n → upd (upd η n o1) (n + 1) o2 r = η r := fun o1 o2 r hr => by rw [upd_ne (by omega), upd_ne (by omega)]
  simp [aload, afield, apart, upd_eq, upd_ne hn]
  refine ACK.use (clone_ac (l := s.stack) (h1.keep hf (k2 _ _)) hl1) ?_
  intro r η1 n1 ⟨q1, e1, a1, a2, a3, a4⟩
  subst e1
  have b0 := a4 n (by omega)
  have b1 := a4 (n + 1) (by omega)
  rw [upd_ne hn, upd_eq] at b0
  rw [upd_eq] at b1
  have c2 : ∀ r, n + 1 + 1 ≤ r → upd (upd η n (some (.cells 6 [stA s sv rv]))) (n + 1) (some (.cells 6 [[.int .i64 0, .int .i64 0, .nils, .nils, .bool false, .int .i64 0]])) r = none := f2 _ _
  have hr2 : IsL η1 rv s.regs := h2.keep hf fun r hr => by rw [a4 r (by omega)]; exact k2 _ _ r hr
  simp [lk_some, chkK, afield, b0]
  refine ACK.use (clone_ac (l := s.regs) hr2 hl2) ?_
  intro r η2 n2 ⟨q2, e2, d1, d2, d3, d4⟩
  subst e2
  have g0 := (d4 n (by omega)).trans b0
  have g1 := (d4 (n + 1) (by omega)).trans b1
  have g2 := (d4 q1 (by omega)).trans a1
  simp [aload, afield, apart, g0, astore, upd_eq, upd_ne (Ne.symm hn), g1, upd_upd]
  exact resK.rt ⟨q1, q2, rfl, by rw [upd_ne (by omega), upd_ne (by omega)]; exact g2, by rw [upd_ne (by omega), upd_ne (by omega)]; exact d1, by omega, by omega, by omega, by omega, by omega, fun r hr => by
    rw [upd_ne (by omega), upd_ne (by omega), d4 r (by omega), a4 r (by omega)]; exact k2 _ _ r hr⟩
end Go.Proofs.YtbomkomipaipmaaGreat
namespace Go.Proofs.YtbomkomipaipmaaGreat
set_option maxRecDepth 100000

section
variable {B : Nat} {F : List Nat} {η : AHeap} {g n : Nat} {c : Wc} {x : Wx}
def Wx.setpc (x : Wx) (a : Int) : Wx := { x with s := { x.s with pc := a } }
def Wx.unl (x : Wx) (a m : Int) : Wx := if m = 0 then x.setpc a else x
def Wx.link (x : Wx) (m : Int) : Wx := { x with eff := { x.eff with kind := 4, dest := m } }
def Wx.out (x : Wx) (m : Int) : Wx := { x with eff := { x.eff with kind := 1, n := m } }
theorem d1_ac (h : WkAt B F η g c x) : AC Tryz.prog 205 [.ptr g 0 0] η n (WPost B F η g c (x.exits 0 0).stays (.tup []) n) := by
  have h1 := exits_ac (n := n) h 0 0
  refine AC.enter Tryz.func205 rfl Tryz.ntmps205 (by simp) ?_
  simp
  refine ACK.use h1 ?_
  intro r η1 n1 ⟨e1, e2, e3, e4⟩
  subst e1
  simp
  refine ACK.use (stays_ac e2) ?_
  intro r η2 n2 ⟨f1, f2, f3, f4⟩
  subst f1
  simp
  exact resK.rt ⟨rfl, f2, e3.trans f3, by omega⟩
theorem d2_ac (h : WkAt B F η g c x) : AC Tryz.prog 207 [.ptr g 0 0] η n (WPost B F η g c x (.int .i64 c.arg) n) := by
  have hh := h
  obtain ⟨sr, rr, av, J, h⟩ := h
  have hb := h.blk
  refine AC.enter Tryz.func207 rfl Tryz.ntmps207 (by simp) ?_
  simp [aload, afield, apart, hb, workC]
  exact resK.rt ⟨rfl, hh, Keep.refl _ _ _, Nat.le_refl _⟩
theorem d3_ac (h : WkAt B F η g c x) : AC Tryz.prog 208 [.ptr g 0 0] η n (WPost B F η g c x (.int .i64 1) n) := by
  refine AC.enter Tryz.func208 rfl Tryz.ntmps208 (by simp) ?_
  simp
  exact resK.rt ⟨rfl, h, Keep.refl _ _ _, Nat.le_refl _⟩
theorem d4_ac (h : WkAt B F η g c x) : AC Tryz.prog 209 [.ptr g 0 0] η n (WPost B F η g c x (.int .i64 0) n) := by
  refine AC.enter Tryz.func209 rfl Tryz.ntmps209 (by simp) ?_
  simp
  exact resK.rt ⟨rfl, h, Keep.refl _ _ _, Nat.le_refl _⟩
theorem d5_ac (h : WkAt B F η g c x) : AC Tryz.prog 210 [.ptr g 0 0] η n (WPost B F η g c x (.int .i64 c.self) n) := by
  have hh := h
  obtain ⟨sr, rr, av, J, h⟩ := h
  have hb := h.blk
  refine AC.enter Tryz.func210 rfl Tryz.ntmps210 (by simp) ?_
  simp [aload, afield, apart, hb, workC]
  exact resK.rt ⟨rfl, hh, Keep.refl _ _ _, Nat.le_refl _⟩
theorem d8_ac (h : WkAt B F η g c x) (hl : x.s.stack.length ≤ 17592186044416) : AC Tryz.prog 214 [.ptr g 0 0] η n (WPost B F η g c x.pop (.int .i64 (if x.top = 0 then 1 else 0)) n) := by
  have h1 := pop_ac (n := n) h hl
  refine AC.enter Tryz.func214 rfl Tryz.ntmps214 (by simp) ?_
  simp
  refine ACK.use h1 ?_
  intro r η1 n1 ⟨e1, e2, e3, e4⟩
  subst e1
  simp
  refine ACK.rt (truth_ac _ _ _) ?_
  simp
  exact resK.rt ⟨by simp [truthF], e2, e3, e4⟩
theorem d9_ac (h : WkAt B F η g c x) : AC Tryz.prog 216 [.ptr g 0 0] η n (WPost B F η g c (x.setpc c.arg) (.tup []) n) := by
  obtain ⟨sr, rr, av, J, h⟩ := h
  have hb := h.blk
  have fin := fun cs hc => h.turn (cs := cs) (x.setpc c.arg) rfl rfl rfl hc
  refine AC.enter Tryz.func216 rfl Tryz.ntmps216 (by simp) ?_
  simp [aload, afield, apart, hb, workC, astore]
  exact resK.rt ⟨rfl, ⟨sr, rr, av, J, fin _ (by simp [workC, Wx.setpc])⟩, (Keep.refl _ _ _).upd h.ig, Nat.le_refl _⟩
theorem d10_ac (h : WkAt B F η g c x) (m : Int) : AC Tryz.prog 218 [.ptr g 0 0, .int .i64 m] η n (WPost B F η g c (x.unl c.arg m) (.tup []) n) := by
  have hh := h
  obtain ⟨sr, rr, av, J, h⟩ := h
  have hb := h.blk
  by_cases hm : m = 0
  · have fin := fun cs hc => h.turn (cs := cs) (x.setpc c.arg) rfl rfl rfl hc
    have hu : x.unl c.arg m = x.setpc c.arg := if_pos hm
    rw [hu]
    refine AC.enter Tryz.func218 rfl Tryz.ntmps218 (by simp) ?_
    simp [aload, afield, apart, hb, workC, astore, hm]
    exact resK.rt ⟨rfl, ⟨sr, rr, av, J, fin _ (by simp [workC, Wx.setpc])⟩, (Keep.refl _ _ _).upd h.ig, Nat.le_refl _⟩
  · have hu : x.unl c.arg m = x := if_neg hm
    rw [hu]
    refine AC.enter Tryz.func218 rfl Tryz.ntmps218 (by simp) ?_
    simp [hm]
    exact resK.rt ⟨rfl, hh, Keep.refl _ _ _, Nat.le_refl _⟩
theorem d12_ac (h : WkAt B F η g c x) (m : Int) : AC Tryz.prog 222 [.ptr g 0 0, .int .i64 m] η n (WPost B F η g c (x.link m) (.tup []) n) := by
  obtain ⟨sr, rr, av, J, h⟩ := h
  have hb := h.blk
  have fin := fun cs hc => h.turn (cs := cs) (x.link m) rfl rfl rfl hc
  refine AC.enter Tryz.func222 rfl Tryz.ntmps222 (by simp) ?_
  simp [afield, hb, workC, astore, upd_eq, upd_upd]
  exact resK.rt ⟨rfl, ⟨sr, rr, av, J, fin _ (by simp [workC, Wx.link])⟩, (Keep.refl _ _ _).upd h.ig, Nat.le_refl _⟩
theorem d13_ac (h : WkAt B F η g c x) (m : Int) : AC Tryz.prog 223 [.ptr g 0 0, .int .i64 m] η n (WPost B F η g c (x.exits 1 m).stays (.tup []) n) := by
  have h1 := exits_ac (n := n) h 1 m
  refine AC.enter Tryz.func223 rfl Tryz.ntmps223 (by simp) ?_
  simp
  refine ACK.use h1 ?_
  intro r η1 n1 ⟨e1, e2, e3, e4⟩
  subst e1
  simp
  refine ACK.use (stays_ac e2) ?_
  intro r η2 n2 ⟨f1, f2, f3, f4⟩
  subst f1
  simp
  exact resK.rt ⟨rfl, f2, e3.trans f3, by omega⟩
theorem d14_ac (h : WkAt B F η g c x) (m : Int) : AC Tryz.prog 224 [.ptr g 0 0, .int .i64 m] η n (WPost B F η g c (x.out m) (.tup []) n) := by
  obtain ⟨sr, rr, av, J, h⟩ := h
  have hb := h.blk
  have fin := fun cs hc => h.turn (cs := cs) (x.out m) rfl rfl rfl hc
  refine AC.enter Tryz.func224 rfl Tryz.ntmps224 (by simp) ?_
  simp [afield, hb, workC, astore, upd_eq, upd_upd]
  exact resK.rt ⟨rfl, ⟨sr, rr, av, J, fin _ (by simp [workC, Wx.out])⟩, (Keep.refl _ _ _).upd h.ig, Nat.le_refl _⟩
theorem d15_ac (h : WkAt B F η g c x) (m : Int) : AC Tryz.prog 225 [.ptr g 0 0, .int .i64 m] η n (WPost B F η g c x (.tup []) n) := by
  refine AC.enter Tryz.func225 rfl Tryz.ntmps225 (by simp) ?_
  simp
  exact resK.rt ⟨rfl, h, Keep.refl _ _ _, Nat.le_refl _⟩
theorem d16_ac (h : WkAt B F η g c x) (hn : B ≤ n) (m : Int) : AC Tryz.prog 226 [.ptr g 0 0, .int .i64 m] η n (WPost B F η g c ((x.push m).push m) (.tup []) n) := by
  have h1 := push_ac (n := n) h hn m
  refine AC.enter Tryz.func226 rfl Tryz.ntmps226 (by simp) ?_
  simp
  refine ACK.use h1 ?_
  intro r η1 n1 ⟨e1, e2, e3, e4⟩
  subst e1
  simp
  refine ACK.use (push_ac e2 (by omega) m) ?_
  intro r η2 n2 ⟨f1, f2, f3, f4⟩
  subst f1
  simp
  exact resK.rt ⟨rfl, f2, e3.trans f3, by omega⟩
/-- a deed that puts a value onto the stack -/
theorem puts1_ac {q f : Nat} {V : Int} {x' : Wx} (hq : η q = some (.cells 1 [[.func f [] []]])) (hb : HB Tryz.prog f = true) (hn : B ≤ n) (hc : AC Tryz.prog f [.ptr g 0 0] η n (WPost B F η g c x' (.int .i64 V) n)) :
    AC Tryz.prog 256 [.ptr g 0 0, .ptr q 0 0] η n (WPost B F η g c (x'.push V) (.tup []) n) := by
  refine AC.enter Tryz.func256 rfl Tryz.ntmps256 (by simp) ?_
  simp [aload, apart, hq, hb]
  refine ACK.use hc ?_
  intro r η1 n1 ⟨e1, e2, e3, e4⟩
  subst e1
  simp
  refine ACK.use (push_ac e2 (by omega) V) ?_
  intro r η2 n2 ⟨f1, f2, f3, f4⟩
  subst f1
  simp
  exact resK.rt ⟨rfl, f2, e3.trans f3, by omega⟩
end
end Go.Proofs.YtbomkomipaipmaaGreat
namespace Go.Proofs.YtbomkomipaipmaaGreat
set_option maxRecDepth 100000

section
variable {B : Nat} {F : List Nat} {η : AHeap} {g n : Nat} {c : Wc} {x : Wx}
def Wx.load (x : Wx) (a : Int) : Wx := if 0 ≤ a ∧ a < x.s.regs.length then x.push (x.s.regs.getD a.toNat 0) else x.fail 6
def Wx.stow (x : Wx) (a : Int) : Wx := if 0 ≤ a ∧ a < x.s.regs.length then { x.pop with s := { x.pop.s with regs := x.s.regs.set a.toNat x.top } } else x.fail 6
def Wx.send (x : Wx) (tag m : Int) : Wx := { x.pop with eff := { x.pop.eff with kind := 2, dest := x.top, msg := (tag, m) } }
/-- a deed that takes a value from the stack -/
theorem asks1_ac {q f : Nat} {G : Int → Wx → Wx} (hq : η q = some (.cells 1 [[.func f [] []]])) (hqi : ¬ In B F q) (hb : HB Tryz.prog f = true) (hl : x.s.stack.length ≤ 17592186044416)
    (hc : ∀ η n x m, B ≤ n → x.s.stack.length ≤ 17592186044416 → WkAt B F η g c x → AC Tryz.prog f [.ptr g 0 0, .int .i64 m] η n (WPost B F η g c (G m x) (.tup []) n)) (hn : B ≤ n) (h : WkAt B F η g c x) :
    AC Tryz.prog 257 [.ptr g 0 0, .ptr q 0 0] η n (WPost B F η g c (G x.top x.pop) (.tup []) n) := by
  have h1 := pop_ac (n := n) h hl
  have hl2 : x.pop.s.stack.length ≤ 17592186044416 := by
    unfold Wx.pop Wx.fail; split
    · split <;> exact hl
    · simp; omega
  refine AC.enter Tryz.func257 rfl Tryz.ntmps257 (by simp) ?_
  simp
  refine drawK.intro mixed [(0, []), (1, []), (2, []), (3, [0]), (4, [])] (by kernel_rfl) ?_
  simp [aload, apart, hq]
  refine ACK.use h1 ?_
  intro r η1 n1 ⟨e1, e2, e3, e4⟩
  subst e1
  have hq1 := (e3 q hqi).trans hq
  simp [lk_some, chkK, hq1, hb]
  refine ACK.use (hc η1 n1 _ _ (by omega) hl2 e2) ?_
  intro r η2 n2 ⟨f1, f2, f3, f4⟩
  subst f1
  have hq2 := (f3 q hqi).trans hq1
  simp
  exact resK.rt ⟨rfl, f2, e3.trans f3, by omega⟩
theorem regs_get {l : List Int} {a : Int} (h : 0 ≤ a ∧ a < l.length) : (ints l)[a.toNat]? = some [.int .i64 (l.getD a.toNat 0)] := by
  have : a.toNat < l.length := by omega
  rw [ints_get, List.getElem?_eq_getElem this, List.getD_eq_getElem?_getD, List.getElem?_eq_getElem this]; rfl
theorem d6_ac (h : WkAt B F η g c x) (hn : B ≤ n) : AC Tryz.prog 211 [.ptr g 0 0] η n (WPost B F η g c (x.load c.arg) (.tup []) n) := by
  have h1 := named_ac (n := n) h x.s.regs.length
  obtain ⟨sr, rr, av, J, h⟩ := h
  have hb := h.blk
  have hr := h.rg
  by_cases hd : 0 ≤ c.arg ∧ c.arg < x.s.regs.length
  · have hu : x.load c.arg = x.push (x.s.regs.getD c.arg.toNat 0) := if_pos hd
    have hg := regs_get hd
    rw [if_pos hd, decide_eq_true hd] at h1
    rw [hu]
    refine AC.enter Tryz.func211 rfl Tryz.ntmps211 (by simp) ?_
    simp [aload, afield, apart, hb, workC, alenT]
    refine ACK.use h1 ?_
    intro r η1 n1 ⟨e1, e2, e3, e4⟩
    subst e1
    simp
    refine drawK.intro mixed [(0, []), (1, []), (2, []), (3, []), (4, []), (5, []), (6, []), (7, []), (8, []), (9, []), (10, []), (11, []), (12, []), (13, [])] (by kernel_rfl) ?_
    have e2' := e2
    obtain ⟨sr, rr, av, J, k⟩ := e2'
    have hb1 := k.blk
    have hr1 := k.rg
    simp [aload, afield, apart, hb1, workC, aindex, hr1, hd]
    refine ACK.use (push_ac e2 (by omega) _) ?_
    intro r η2 n2 ⟨f1, f2, f3, f4⟩
    subst f1
    simp
    exact resK.rt ⟨rfl, by rw [List.getD_eq_getElem?_getD, List.getElem?_eq_getElem (show c.arg.toNat < x.s.regs.length by omega)]; exact f2, e3.trans f3, by omega⟩
  · have hu : x.load c.arg = x.fail 6 := if_neg hd
    rw [if_neg hd, decide_eq_false hd] at h1
    rw [hu]
    refine AC.enter Tryz.func211 rfl Tryz.ntmps211 (by simp) ?_
    simp [aload, afield, apart, hb, workC, alenT]
    refine ACK.use h1 ?_
    intro r η1 n1 ⟨e1, e2, e3, e4⟩
    subst e1
    simp
    exact resK.rt ⟨rfl, e2, e3, e4⟩
theorem regs_set {l : List Int} {a m : Int} : (ints l).set a.toNat [.int .i64 m] = ints (l.set a.toNat m) := by simp [ints, List.map_set]
theorem d7_ac (h : WkAt B F η g c x) (hl : x.s.stack.length ≤ 17592186044416) : AC Tryz.prog 213 [.ptr g 0 0] η n (WPost B F η g c (x.stow c.arg) (.tup []) n) := by
  have h1 := named_ac (n := n) h x.s.regs.length
  obtain ⟨sr, rr, av, J, h⟩ := h
  have hb := h.blk
  have hr := h.rg
  by_cases hd : 0 ≤ c.arg ∧ c.arg < x.s.regs.length
  · have hu : x.stow c.arg = { x.pop with s := { x.pop.s with regs := x.s.regs.set c.arg.toNat x.top } } := if_pos hd
    have hp : x.pop.s.regs = x.s.regs := by unfold Wx.pop Wx.fail; split <;> (try split) <;> rfl
    have hlt : c.arg.toNat < x.s.regs.length := by omega
    have hz : (ints x.s.regs)[c.arg.toNat]? = some [.int .i64 (x.s.regs.getD c.arg.toNat 0)] := regs_get hd
    rw [if_pos hd, decide_eq_true hd] at h1
    rw [hu]
    refine AC.enter Tryz.func213 rfl Tryz.ntmps213 (by simp) ?_
    simp [aload, afield, apart, hb, workC, alenT]
    refine ACK.use h1 ?_
    intro r η1 n1 ⟨e1, e2, e3, e4⟩
    subst e1
    simp
    refine drawK.intro mixed [(0, []), (1, []), (2, []), (3, []), (4, []), (5, []), (6, []), (7, []), (8, []), (9, []), (10, []), (11, [4, 9]), (12, []), (13, [])] (by kernel_rfl) ?_
    obtain ⟨sr, rr, av, J, k⟩ := e2
    have hb1 := k.blk
    simp [aload, afield, apart, hb1, workC]
    refine ACK.use (pop_acR k hl) ?_
    intro r η2 n2 ⟨f1, ⟨J', f2⟩, f3, f4⟩
    subst f1
    have hb2 := f2.blk
    have hr2 := f2.rg
    rw [hp] at hr2 hb2
    simp [hb2, workC, aindex, hr2, hd, lk_some, chkK, astore, regs_set]
    refine resK.rt ⟨rfl, ⟨sr, rr, av, J', ?_⟩, (e3.trans f3).upd f2.ir, by omega⟩
    refine ⟨by rw [upd_ne f2.gr, f2.blk, hp]; simp [workC], by rw [upd_ne f2.srr]; exact f2.st, upd_eq .., ?_, f2.gs, f2.gr, f2.srr, f2.ig, f2.is, f2.ir⟩
    rcases f2.ar with k | ⟨ar, k1, k2, k3, k4, k5, k6⟩
    · exact Or.inl k
    · exact Or.inr ⟨ar, k1, by rw [upd_ne k5]; exact k2, k3, k4, k5, k6⟩
  · have hu : x.stow c.arg = x.fail 6 := if_neg hd
    rw [if_neg hd, decide_eq_false hd] at h1
    rw [hu]
    refine AC.enter Tryz.func213 rfl Tryz.ntmps213 (by simp) ?_
    simp [aload, afield, apart, hb, workC, alenT]
    refine ACK.use h1 ?_
    intro r η1 n1 ⟨e1, e2, e3, e4⟩
    subst e1
    simp
    exact resK.rt ⟨rfl, e2, e3, e4⟩
theorem d11_ac (h : WkAt B F η g c x) (hl : x.s.stack.length ≤ 17592186044416) (m : Int) : AC Tryz.prog 220 [.ptr g 0 0, .int .i64 m] η n (WPost B F η g c (x.send c.arg m) (.tup []) n) := by
  obtain ⟨sr, rr, av, J, h⟩ := h
  have hb := h.blk
  refine AC.enter Tryz.func220 rfl Tryz.ntmps220 (by simp) ?_
  simp
  refine drawK.intro mixed [(0, []), (1, []), (2, []), (3, []), (5, []), (6, []), (7, []), (8, []), (9, []), (10, []), (11, []), (4, [9]), (12, []), (13, []), (14, []), (15, []), (16, []), (17, []), (18, []), (19, []), (20, []), (21, []), (22, []), (23, [])] (by kernel_rfl) ?_
  simp [aload, afield, apart, hb, workC, abuild, aplace, afillP]
  refine ACK.use (pop_acR h hl) ?_
  intro r η2 n2 ⟨f1, ⟨J', f2⟩, f3, f4⟩
  subst f1
  have hb2 := f2.blk
  simp [afield, hb2, workC, lk_some, chkK, astore, upd_eq, upd_upd]
  exact resK.rt ⟨rfl, ⟨sr, rr, av, J', f2.turn (x.send c.arg m) rfl rfl rfl (by simp [workC, Wx.send])⟩, f3.upd f2.ig, by omega⟩
end
end Go.Proofs.YtbomkomipaipmaaGreat
namespace Go.Proofs.YtbomkomipaipmaaGreat
set_option maxRecDepth 100000

/-- the places of the work alone: what is made later is none of them -/
theorem WkAt.tight {B : Nat} {F : List Nat} {η : AHeap} {g n : Nat} {c : Wc} {x : Wx} (h : WkAt B F η g c x) (hf : ∀ r, n ≤ r → η r = none) : ∃ F', (∀ r ∈ F', In B F r ∧ r < n) ∧ ∀ m η', (∀ r, r < n → η' r = η r) → WkAt m F' η' g c x := by
  obtain ⟨sr, rr, av, J, h⟩ := h
  have lt : ∀ r o, η r = some o → r < n := fun r o hr => by
    rcases Nat.lt_or_ge r n with h' | h'
    · exact h'
    · rw [hf r h'] at hr; cases hr
  have lg := lt _ _ h.blk
  have ls := lt _ _ h.st
  have lr := lt _ _ h.rg
  rcases h.ar with k | ⟨ar, k1, k2, k3, k4, k5, k6⟩
  · refine ⟨[g, sr, rr], ?_, fun m η' he => ⟨sr, rr, av, J, by rw [he _ lg]; exact h.blk, by rw [he _ ls]; exact h.st, by rw [he _ lr]; exact h.rg, Or.inl k, h.gs, h.gr, h.srr, Or.inl (by simp), Or.inl (by simp), Or.inl (by simp)⟩⟩
    intro r hr
    simp at hr
    rcases hr with rfl | rfl | rfl
    · exact ⟨h.ig, lg⟩
    · exact ⟨h.is, ls⟩
    · exact ⟨h.ir, lr⟩
  · have la := lt _ _ k2
    refine ⟨[g, sr, rr, ar], ?_, fun m η' he => ⟨sr, rr, av, J, by rw [he _ lg]; exact h.blk, by rw [he _ ls]; exact h.st, by rw [he _ lr]; exact h.rg, Or.inr ⟨ar, k1, by rw [he _ la]; exact k2, k3, k4, k5, Or.inl (by simp)⟩, h.gs, h.gr, h.srr, Or.inl (by simp), Or.inl (by simp), Or.inl (by simp)⟩⟩
    intro r hr
    simp at hr
    rcases hr with rfl | rfl | rfl | rfl
    · exact ⟨h.ig, lg⟩
    · exact ⟨h.is, ls⟩
    · exact ⟨h.ir, lr⟩
    · exact ⟨k6, la⟩
/-- what was there already, and is none of the places, stays; and back to the wider places -/
theorem Keep.wide {B m : Nat} {F F' : List Nat} {η η' : AHeap} (h : Keep m F' η η') (hF : ∀ r ∈ F', In B F r) (hm : B ≤ m) : Keep B F η η' := fun r hr => h r fun hi => hr (by
  rcases hi with hi | hi
  · exact hF r hi
  · exact Or.inr (by omega))
theorem WkAt.wide {B m : Nat} {F F' : List Nat} {η : AHeap} {g : Nat} {c : Wc} {x : Wx} (h : WkAt m F' η g c x) (hF : ∀ r ∈ F', In B F r) (hm : B ≤ m) : WkAt B F η g c x := by
  have w : ∀ r, In m F' r → In B F r := fun r hi => by
    rcases hi with hi | hi
    · exact hF r hi
    · exact Or.inr (by omega)
  obtain ⟨sr, rr, av, J, h⟩ := h
  refine ⟨sr, rr, av, J, h.blk, h.st, h.rg, ?_, h.gs, h.gr, h.srr, w _ h.ig, w _ h.is, w _ h.ir⟩
  rcases h.ar with k | ⟨ar, k1, k2, k3, k4, k5, k6⟩
  · exact Or.inl k
  · exact Or.inr ⟨ar, k1, k2, k3, k4, k5, w _ k6⟩
section
variable {B : Nat} {F : List Nat} {η : AHeap} {g n : Nat} {c : Wc} {x : Wx}
def Wx.div0 (z : Wx) (s : Sta) : Wx := ({ z with s := s } : Wx).stays.exits 2 0
def Wx.two (x : Wx) (op : Int) : Wx :=
  if (twoF op x.pop.top x.top).2 = 15 ∧ x.pop.pop.err = 0 then x.pop.pop.div0 x.s else x.pop.pop.push (twoF op x.pop.top x.top).1
theorem wtwo_ac (h : WkAt B F η g c x) (hn : B ≤ n) (hl : x.s.stack.length ≤ 17592186044416) (hr : x.s.regs.length ≤ 17592186044416) : AC Tryz.prog 155 [.ptr g 0 0] η n (WPost B F η g c (x.two c.op) (.tup []) n) := by
  refine AC.fresh fun hf => ?_
  obtain ⟨F', hF', H⟩ := h.tight hf
  have hin := fun r hr => (hF' r hr).1
  have lo : ∀ m r, n ≤ r → r < m → ¬ In m F' r := fun m r h1 h2 hi => by
    rcases hi with hi | hi
    · have := (hF' r hi).2; omega
    · omega
  have fin : ∀ m η1 η' x' n', n ≤ m → (∀ r, r < n → η1 r = η r) → WkAt m F' η' g c x' → Keep m F' η1 η' → n ≤ n' → WPost B F η g c x' (.tup []) n (.tup []) η' n' := fun m η1 η' x' n' h1 h1' h2 h3 h4 => ⟨rfl, h2.wide hin (by omega), fun r hr => by
    by_cases hrn : r < n
    · rw [(h3.wide hin (by omega)) r hr, h1' r hrn]
    · exact absurd (Or.inr (by omega)) hr, h4⟩
  obtain ⟨sr, rr, av, J, k⟩ := h
  have hb := k.blk
  have i1 : IsL η (.sl sr 0 x.s.stack.length) x.s.stack := IsL.own k.st
  have i2 : IsL η (.sl rr 0 x.s.regs.length) x.s.regs := IsL.own (J := []) (by rw [List.append_nil]; exact k.rg)
  have ho := own_ac (n := n) (s := x.s) i1 i2 hl hr
  have hl2 : x.pop.s.stack.length ≤ 17592186044416 := by
    unfold Wx.pop Wx.fail; split
    · split <;> exact hl
    · simp; omega
  simp only [stA] at ho
  refine AC.enter Tryz.func155 rfl Tryz.ntmps155 (by simp) ?_
  simp [aload, afield, apart, hb, workC]
  refine ACK.use ho ?_
  intro r η1 n1 ⟨q1, q2, e1, a1, a2, a3, a4, a5, a6, a7, a8⟩
  subst e1
  simp [stA, astore, upd_eq, upd_upd]
  have keep1 : ∀ o r, r < n → upd η1 n1 o r = η r := fun o r hr => by rw [upd_ne (by omega)]; exact a8 r hr
  refine ACK.use (pop_ac (H (n1 + 1) _ (keep1 _)) hl) ?_
  intro r η2 n2 ⟨e1, k2, k3, k4⟩
  subst e1
  simp
  refine ACK.use (pop_ac k2 hl2) ?_
  intro r η3 n3 ⟨e1, k5, k6, k7⟩
  subst e1
  have kk := k3.trans k6
  have b1 := kk n1 (lo _ _ (by omega) (by omega))
  have s1 := kk q1 (lo _ _ (by omega) (by omega))
  have s2 := kk q2 (lo _ _ (by omega) (by omega))
  rw [upd_eq] at b1
  rw [upd_ne (by omega)] at s1 s2
  rw [a1] at s1
  rw [a2] at s2
  have k5' := k5
  obtain ⟨tr, ur, aw, J2, k8⟩ := k5'
  have hb3 := k8.blk
  simp [aload, afield, apart, hb3, workC]
  have bad : ∀ x', (twoF c.op x.pop.top x.top).2 ≠ 15 ∨ x.pop.pop.err ≠ 0 → x' = x.pop.pop.push (twoF c.op x.pop.top x.top).1 → x' = x.two c.op := fun x' h e => by
    rw [e, Wx.two, if_neg (by rcases h with h | h <;> simp [h])]
  have hin2 : ∀ r ∈ q1 :: q2 :: F', In B F r := fun r hr => by
    simp at hr
    rcases hr with rfl | rfl | hr
    · exact Or.inr (by omega)
    · exact Or.inr (by omega)
    · exact hin r hr
  have up : ∀ r, In (n1 + 1) F' r → In (n1 + 1) (q1 :: q2 :: F') r := fun r hi => by
    rcases hi with hi | hi
    · exact Or.inl (by simp [hi])
    · exact Or.inr hi
  have ne1 : ∀ r, In (n1 + 1) F' r → r ≠ q1 ∧ r ≠ q2 := fun r hi => ⟨fun e => lo (n1 + 1) q1 (by omega) (by omega) (e ▸ hi), fun e => lo (n1 + 1) q2 (by omega) (by omega) (e ▸ hi)⟩
  have K9 : ∀ cs, cs = workC c { x.pop.pop with s := x.s } (.sl q1 0 x.s.stack.length) (.sl q2 0 x.s.regs.length) aw → WkAt (n1 + 1) (q1 :: q2 :: F') (upd η3 g (some (.cells 28 [cs]))) g c { x.pop.pop with s := x.s } := fun cs hc => by
    subst hc
    have g1 := ne1 g k8.ig
    refine ⟨q1, q2, aw, [], upd_eq .., by rw [upd_ne g1.1.symm, List.append_nil]; exact s1, by rw [upd_ne g1.2.symm]; exact s2, ?_, g1.1, g1.2, a5, up _ k8.ig, Or.inl (by simp), Or.inl (by simp)⟩
    rcases k8.ar with k | ⟨ar, m1, m2, m3, m4, m5, m6⟩
    · exact Or.inl k
    · have g2 := ne1 ar m6
      exact Or.inr ⟨ar, m1, by rw [upd_ne m3]; exact m2, m3, g2.1, g2.2, up _ m6⟩
  refine ACK.rt (two_ac _ _ _ _ _) ?_
  simp
  refine CondP.dec (fun h15 => ?_) (fun h15 => ?_)
  · simp [h15, aload, afield, apart, hb3, workC]
    refine CondP.dec (fun he => ?_) (fun he => ?_)
    · have e2 : x.two c.op = x.pop.pop.div0 x.s := if_pos ⟨h15, he⟩
      simp [he, aload, afield, apart, hb3, b1, workC, astore]
      refine ACK.use (stays_ac (K9 _ (by simp [workC, he]))) ?_
      intro r η4 n4 ⟨e1, l2, l3, l4⟩
      subst e1
      simp
      refine ACK.use (exits_ac l2 2 0) ?_
      intro r η5 n5 ⟨e1, l5, l6, l7⟩
      subst e1
      simp
      rw [e2]
      refine resK.rt ⟨rfl, l5.wide hin2 (by omega), fun r hr => ?_, by omega⟩
      have hrn : r < n := by
        rcases Nat.lt_or_ge r n with h' | h'
        · exact h'
        · exact absurd (Or.inr (by omega)) hr
      rw [((l3.trans l6).wide hin2 (by omega)) r hr, upd_ne (fun e => by subst e; exact hr k.ig), (kk.wide hin (by omega)) r hr]
      exact keep1 _ r hrn
    · simp [he]
      refine ACK.use (push_ac k5 (by omega) _) ?_
      intro r η4 n4 ⟨e1, l2, l3, l4⟩
      subst e1
      simp
      exact resK.rt (fin _ _ _ _ _ (by omega) (keep1 _) (bad _ (Or.inr he) rfl ▸ l2) (kk.trans l3) (by omega))
  · simp [h15]
    refine ACK.use (push_ac k5 (by omega) _) ?_
    intro r η4 n4 ⟨e1, l2, l3, l4⟩
    subst e1
    simp
    exact resK.rt (fin _ _ _ _ _ (by omega) (keep1 _) (bad _ (Or.inl h15) rfl ▸ l2) (kk.trans l3) (by omega))
end
end Go.Proofs.YtbomkomipaipmaaGreat
namespace Go.Proofs.YtbomkomipaipmaaGreat
set_option maxRecDepth 100000

section
variable {B : Nat} {F : List Nat} {η : AHeap} {g n : Nat} {c : Wc} {x : Wx}
def noActr : Actr := ⟨[], [], [], [], []⟩
def actr0 (acts : List Actr) (a : Int) : Actr := acts.getD a.toNat noActr
def Wx.spawned (x : Wx) (a : Int) (k : Nat) : Wx := { x with s := { x.s with stack := x.s.stack.take k }, eff := { x.eff with kind := 3, actor := a, args := x.s.stack.drop k } }
def Wx.spawn (x : Wx) (acts : List Actr) (a : Int) : Wx :=
  if 0 ≤ a ∧ a < acts.length then
    (if (actr0 acts a).params.length ≤ x.s.stack.length then x.spawned a (x.s.stack.length - (actr0 acts a).params.length) else x.fail 12)
  else x.fail 6
theorem actr0_get {l : List Actr} {a : Int} (h : 0 ≤ a ∧ a < l.length) : (actsC l)[a.toNat]? = some (actC (actr0 l a)) := by
  have : a.toNat < l.length := by omega
  rw [actsC_get, List.getElem?_eq_getElem this, actr0, List.getD_eq_getElem?_getD, List.getElem?_eq_getElem this]; rfl
theorem spawns_ac (h : WkAt B F η g c x) (hn : B ≤ n) (hl : x.s.stack.length ≤ 17592186044416) (hp : ∀ a ∈ c.m, a.params.length ≤ 17592186044416) :
    AC Tryz.prog 219 [.ptr g 0 0] η n (WPost B F η g c (x.spawn c.m c.arg) (.tup []) n) := by
  have h1 := named_ac (n := n) h c.m.length
  obtain ⟨sr, rr, av, J, h⟩ := h
  have hb := h.blk
  by_cases hd : 0 ≤ c.arg ∧ c.arg < c.m.length
  · rw [if_pos hd, decide_eq_true hd] at h1
    have hlt : c.arg.toNat < c.m.length := by omega
    have hg := actr0_get hd
    have hpl : (actr0 c.m c.arg).params.length ≤ 17592186044416 := by
      rw [actr0, List.getD_eq_getElem?_getD, List.getElem?_eq_getElem hlt]; exact hp _ (List.getElem_mem ..)
    have hw : IntKind.i64.wrap ((x.s.stack.length : Int) - (actr0 c.m c.arg).params.length) = (x.s.stack.length : Int) - (actr0 c.m c.arg).params.length := wrap_id (by omega) (by omega)
    have ea : actr0 c.m c.arg = c.m[c.arg.toNat]'hlt := by
      rw [actr0, List.getD_eq_getElem?_getD, List.getElem?_eq_getElem hlt]; rfl
    have hw2 := hw
    rw [ea] at hw2
    by_cases hq : (actr0 c.m c.arg).params.length ≤ x.s.stack.length
    · obtain ⟨k, hk⟩ : ∃ k : Nat, x.s.stack.length - (actr0 c.m c.arg).params.length = k := ⟨_, rfl⟩
      have hu : x.spawn c.m c.arg = x.spawned c.arg k := by rw [Wx.spawn, if_pos hd, if_pos hq, hk]
      have hkl : k ≤ x.s.stack.length := by omega
      have hw3 : IntKind.i64.wrap ((x.s.stack.length : Int) - (c.m[c.arg.toNat]'hlt).params.length) = (k : Int) := by rw [hw2, ← ea]; omega
      have hk0 : ¬ (k : Int) < 0 := by omega
      have hdl : (x.s.stack.drop k).length = x.s.stack.length - k := by simp
      have htl : (x.s.stack.take k).length = k := by simp; omega
      have hdc : (x.s.stack.drop k).length ≤ 17592186044416 := by omega
      rw [hu]
      refine AC.enter Tryz.func219 rfl Tryz.ntmps219 (by simp) ?_
      simp [aload, afield, apart, hb, workC, alenT]
      refine ACK.use h1.freshP ?_
      intro r η1 n1 ⟨⟨e1, e2, e3, e4⟩, hf1⟩
      subst e1
      simp
      refine drawK.intro mixed [(0, []), (1, []), (2, []), (3, []), (4, []), (5, []), (6, []), (7, []), (8, []), (9, []), (10, []), (11, []), (12, []), (13, []), (14, []), (15, []), (16, []), (17, []), (18, []), (19, []), (20, []), (21, [])] (by kernel_rfl) ?_
      obtain ⟨sr, rr, av, J, y⟩ := e2
      have hb1 := y.blk
      have lt : ∀ r o, η1 r = some o → r < n1 := fun r o hr => by
        rcases Nat.lt_or_ge r n1 with h' | h'
        · exact h'
        · rw [hf1 r h'] at hr; cases hr
      have lg := lt _ _ y.blk
      have ls := lt _ _ y.st
      have lr := lt _ _ y.rg
      have hs1 := y.st
      have i1 : IsL η1 (.sl sr k (x.s.stack.length - k)) (x.s.stack.drop k) := Or.inr (Or.inr ⟨sr, k, x.s.stack.take k, J, by rw [hdl], htl.symm, by rw [← List.append_assoc, List.take_append_drop]; exact hs1⟩)
      simp [aload, afield, apart, hb1, workC, alenT, aindex, hd, actC, hw3, hk0]
      refine drawK.intro mixed [(0, []), (1, []), (2, []), (3, []), (4, []), (5, []), (6, []), (7, []), (8, []), (9, []), (10, []), (11, []), (12, []), (13, []), (14, []), (15, [7]), (16, []), (17, []), (18, []), (19, []), (20, []), (21, []), (22, []), (23, []), (24, []), (25, []), (26, []), (27, [])] (by kernel_rfl) ?_
      simp [aload, afield, apart, hb1, workC, asliceV, abnd, hkl, hs1, lk_some, chkK]
      refine ACK.use (clone_ac i1 hdc) ?_
      intro r η2 n2 ⟨q, e1, a1, a2, a3, a4⟩
      subst e1
      have hb2 := (a4 g lg).trans hb1
      have hs2 := (a4 sr ls).trans hs1
      have hr2 := (a4 rr lr).trans y.rg
      have hgs := y.gs
      rw [hdl]
      simp [aload, afield, apart, hb2, workC, asliceV, abnd, hkl, hs2, astore, upd_eq, upd_upd, upd_ne hgs.symm]
      have K2 : Keep B F η1 η2 := fun r hr => a4 r (by
        rcases Nat.lt_or_ge r n1 with h' | h'
        · exact h'
        · exact absurd (Or.inr (by omega)) hr)
      refine resK.rt ⟨rfl, ⟨sr, rr, .sl q 0 (x.s.stack.length - k), x.s.stack.drop k ++ J, ?_⟩, (e3.trans K2).upd y.ig, by omega⟩
      have hmin : min k x.s.stack.length = k := by omega
      refine ⟨by rw [upd_eq]; simp [workC, Wx.spawned, hmin], by rw [upd_ne hgs.symm, hs2]; simp [Wx.spawned, ← List.append_assoc], by rw [upd_ne y.gr.symm, hr2]; rfl, Or.inr ⟨q, by simp [Wx.spawned], by rw [upd_ne (by omega)]; exact a1, by omega, by omega, by omega, Or.inr (by omega)⟩, y.gs, y.gr, y.srr, y.ig, y.is, y.ir⟩
    · have hu : x.spawn c.m c.arg = x.fail 12 := by rw [Wx.spawn, if_pos hd, if_neg hq]
      have hq' : (x.s.stack.length : Int) - (actr0 c.m c.arg).params.length < 0 := by omega
      have hq2 := hq'
      rw [ea] at hq2
      rw [hu]
      refine AC.enter Tryz.func219 rfl Tryz.ntmps219 (by simp) ?_
      simp [aload, afield, apart, hb, workC, alenT]
      refine ACK.use h1 ?_
      intro r η1 n1 ⟨e1, e2, e3, e4⟩
      subst e1
      simp
      refine drawK.intro mixed [(0, []), (1, []), (2, []), (3, []), (4, []), (5, []), (6, []), (7, []), (8, []), (9, []), (10, []), (11, []), (12, []), (13, []), (14, []), (15, []), (16, []), (17, []), (18, []), (19, []), (20, []), (21, [])] (by kernel_rfl) ?_
      have e2' := e2
      obtain ⟨sr, rr, av, J, k⟩ := e2'
      have hb1 := k.blk
      simp [aload, afield, apart, hb1, workC, alenT, aindex, hd, actC, hw2, hq2]
      refine ACK.use (fail_ac e2 12) ?_
      intro r η2 n2 ⟨f1, f2, f3, f4⟩
      subst f1
      simp
      exact resK.rt ⟨rfl, f2, e3.trans f3, by omega⟩
  · have hu : x.spawn c.m c.arg = x.fail 6 := by rw [Wx.spawn, if_neg hd]
    rw [if_neg hd, decide_eq_false hd] at h1
    rw [hu]
    refine AC.enter Tryz.func219 rfl Tryz.ntmps219 (by simp) ?_
    simp [aload, afield, apart, hb, workC, alenT]
    refine ACK.use h1 ?_
    intro r η1 n1 ⟨e1, e2, e3, e4⟩
    subst e1
    simp
    exact resK.rt ⟨rfl, e2, e3, e4⟩
end
end Go.Proofs.YtbomkomipaipmaaGreat
namespace Go.Proofs.YtbomkomipaipmaaGreat
set_option maxRecDepth 100000

def noTbl : Tbl := ⟨[], 0⟩
def Wx.till (x : Wx) (u : Int) : Wx := { x with s := { x.s with till := u } }
/-- a receive's clock -/
def Wx.clock (x : Wx) (tmo now : Int) : Wx :=
  if x.s.waiting = true then x else if 0 ≤ tmo then (x.till (-1)).pop.till (clipF (clipF now + clipF (x.till (-1)).top)) else x.till (-1)
def Wx.took (x : Wx) (m at_ k : Int) : Wx := { (x.push m).goes at_ with eff := { ((x.push m).goes at_).eff with taken := k } }
def Wx.waits (x : Wx) : Wx := { x with s := { x.s with waiting := true }, eff := { x.eff with kind := 6, n := x.s.till } }
def Wx.gets (x : Wx) (t : Tbl) (now : Int) (box : List (Int × Int)) : Wx :=
  if (matchF t.cls box 0).2.2 = true then x.took (box.getD (matchF t.cls box 0).1.toNat (0, 0)).2 (matchF t.cls box 0).2.1 (matchF t.cls box 0).1
  else if dueF x.s.till now = true then x.goes t.tmo else x.waits
def Wx.recv (x : Wx) (tabs : List Tbl) (a now : Int) (box : List (Int × Int)) : Wx :=
  if 0 ≤ a ∧ a < tabs.length then (x.stays.clock (tabs.getD a.toNat noTbl).tmo now).gets (tabs.getD a.toNat noTbl) now box else x.fail 6
theorem matchF_in {cls : List (Int × Int)} : ∀ (box : List (Int × Int)) (i : Int), (matchF cls box i).2.2 = true → ∃ k, k < box.length ∧ (matchF cls box i).1 = i + (k : Nat)
  | [], i, h => by simp [matchF] at h
  | m :: r, i, h => by
    by_cases hm : (toF cls m.1).2 = true
    · rw [matchF, if_pos hm]; exact ⟨0, by simp, by simp⟩
    · rw [matchF, if_neg hm] at h ⊢
      obtain ⟨k, h1, h2⟩ := matchF_in r (i + 1) h
      exact ⟨k + 1, by simp; omega, by rw [h2]; omega⟩
theorem clip_wf (a : Int) : 0 ≤ clipF a ∧ clipF a ≤ 1099511627776 := by unfold clipF; omega

section
variable {B : Nat} {F : List Nat} {η : AHeap} {g n : Nat} {c : Wc} {x : Wx}
theorem receives_ac (h : WkAt B F η g c x) (hn : B ≤ n) (hl : x.s.stack.length ≤ 17592186044416) (hp : ∀ t ∈ c.own.tabs, t.cls.length ≤ 17592186044416) (hbx : c.box.length ≤ 17592186044416) :
    AC Tryz.prog 221 [.ptr g 0 0] η n (WPost B F η g c (x.recv c.own.tabs c.arg c.now c.box) (.tup []) n) := by
  have h1 := named_ac (n := n) h c.own.tabs.length
  obtain ⟨sr, rr, av, J, h⟩ := h
  have hb := h.blk
  by_cases hd : 0 ≤ c.arg ∧ c.arg < c.own.tabs.length
  · rw [if_pos hd, decide_eq_true hd] at h1
    have hlt : c.arg.toNat < c.own.tabs.length := by omega
    obtain ⟨T, hT⟩ : ∃ T, c.own.tabs[c.arg.toNat]'hlt = T := ⟨_, rfl⟩
    have hTl : T.cls.length ≤ 17592186044416 := by rw [← hT]; exact hp _ (List.getElem_mem ..)
    have hu : x.recv c.own.tabs c.arg c.now c.box = (x.stays.clock T.tmo c.now).gets T c.now c.box := by
      rw [Wx.recv, if_pos hd, List.getD_eq_getElem?_getD, List.getElem?_eq_getElem hlt, hT]; rfl
    rw [hu]
    refine AC.enter Tryz.func221 rfl Tryz.ntmps221 (by simp) ?_
    simp [aload, afield, apart, hb, workC, alenT]
    refine ACK.use h1.freshP ?_
    intro r η1 n1 ⟨⟨e1, e2, e3, e4⟩, hf1⟩
    subst e1
    simp
    refine drawK.intro mixed [(0, []), (1, []), (2, []), (3, []), (4, []), (5, []), (6, []), (7, []), (8, []), (9, []), (10, []), (11, []), (12, [4, 9, 10, 11]), (13, [])] (by kernel_rfl) ?_
    obtain ⟨F', hF', H⟩ := e2.tight hf1
    have hin := fun r hr => (hF' r hr).1
    have fin : ∀ o η' x' n', WkAt (n1 + 1) F' η' g c x' → Keep (n1 + 1) F' (upd η1 n1 o) η' → n ≤ n' → WPost B F η g c x' (.tup []) n (.tup []) η' n' := fun o η' x' n' h2 h3 h4 => ⟨rfl, h2.wide hin (by omega), fun r hr => by
      by_cases hrn : r < n1
      · rw [(h3.wide hin (by omega)) r hr, upd_ne (by omega)]; exact e3 r hr
      · exact absurd (Or.inr (by omega)) hr, h4⟩
    have nin : ¬ In (n1 + 1) F' n1 := fun hi => by
      rcases hi with hi | hi
      · have := (hF' n1 hi).2; omega
      · omega
    obtain ⟨sr1, rr1, av1, J1, y⟩ := e2
    have hb1 := y.blk
    have hgn : g ≠ n1 := fun e => by have := hf1 g (by omega); rw [hb1] at this; cases this
    simp [aload, afield, apart, hb1, workC, aindex, hd, tblC, hT, lk_some, chkK, upd_eq, upd_ne hgn, astore, upd_upd]
    refine ACK.use (stays_ac (H (n1 + 1) _ fun r hr => upd_ne (by omega))) ?_
    intro r η2 n2 ⟨e1, k2, k3, k4⟩
    subst e1
    have t2 := (k3 n1 nin).trans (upd_eq ..)
    have R2 := k2
    obtain ⟨sr2, rr2, av2, J2, z2⟩ := R2
    have hb2 := z2.blk
    by_cases hwt : x.stays.s.waiting = true
    · have hc : x.stays.clock T.tmo c.now = x.stays := by rw [Wx.clock, if_pos hwt]
      rw [hc]
      simp [aload, afield, apart, hb2, workC, hwt]
      refine drawK.intro mixed [(0, []), (1, []), (2, []), (3, []), (4, []), (5, []), (6, []), (7, []), (8, []), (9, []), (10, []), (11, []), (12, [])] (by kernel_rfl) ?_
      simp [aload, afield, apart, hb2, workC, t2]
      refine ACK.rt (match_ac T c.box _ _ hTl hbx) ?_
      by_cases hm : (matchF T.cls c.box 0).2.2 = true
      · obtain ⟨j, hj1, hj2⟩ := matchF_in c.box 0 hm
        rw [Int.zero_add] at hj2
        have hg : (x.stays).gets T c.now c.box = (x.stays).took (c.box[j]'hj1).2 (matchF T.cls c.box 0).2.1 j := by
          rw [Wx.gets, if_pos hm, hj2, List.getD_eq_getElem?_getD, show (j : Int).toNat = j by omega, List.getElem?_eq_getElem hj1]; rfl
        rw [hg]
        simp [aload, afield, apart, hb2, workC, hm, hj2, aindex, hj1]
        refine ACK.use (push_ac k2 (by omega) _) ?_
        intro r θ1 m1 ⟨e1, u1, u2, u3⟩
        subst e1
        simp
        refine ACK.use (goes_ac u1 _) ?_
        intro r θ2 m2 ⟨e1, v1, v2, v3⟩
        subst e1
        obtain ⟨sa, ra, aa, Ja, v4⟩ := v1
        have hbv := v4.blk
        simp [afield, hbv, workC, astore]
        exact resK.rt (fin _ _ _ _ ⟨sa, ra, aa, Ja, v4.turn ((x.stays).took (c.box[j]'hj1).2 (matchF T.cls c.box 0).2.1 j) rfl rfl rfl (by simp [workC, Wx.took])⟩ (((k3.trans u2).trans v2).upd v4.ig) (by omega))
      · have hg : (x.stays).gets T c.now c.box = if dueF (x.stays).s.till c.now = true then (x.stays).goes T.tmo else (x.stays).waits := by
          rw [Wx.gets, if_neg hm]
        rw [hg]
        simp [hm]
        refine drawK.intro mixed [(0, []), (1, []), (2, []), (3, []), (4, []), (5, []), (6, []), (7, []), (8, []), (9, []), (10, [])] (by kernel_rfl) ?_
        simp [aload, afield, apart, hb2, workC]
        refine ACK.rt (due_ac _ _ _ _) ?_
        by_cases hdu : dueF (x.stays).s.till c.now = true
        · have hdu2 : dueF x.stays.s.till c.now = true := hdu
          rw [if_pos hdu]
          simp [aload, afield, apart, t2, hdu2]
          refine ACK.use (goes_ac k2 _) ?_
          intro r θ1 m1 ⟨e1, u1, u2, u3⟩
          subst e1
          simp
          exact resK.rt (fin _ _ _ _ u1 (k3.trans u2) (by omega))
        · have hdu2 : ¬ dueF x.stays.s.till c.now = true := hdu
          rw [if_neg hdu]
          have finw := fun cs hc => z2.turn (cs := cs) (x.stays).waits rfl rfl rfl hc
          simp [aload, afield, apart, hb2, workC, hdu2, astore, upd_eq, upd_upd]
          exact resK.rt (fin _ _ _ _ ⟨_, _, _, _, finw _ (by simp [workC, Wx.waits])⟩ (k3.upd z2.ig) (by omega))
    · have hwf : x.stays.s.waiting = false := by simpa using hwt
      have fin3 := fun cs hc => z2.turn (cs := cs) (x.stays.till (-1)) rfl rfl rfl hc
      have K3 : ∀ cs, _ → WkAt (n1 + 1) F' (upd η2 g (some (.cells 28 [cs]))) g c (x.stays.till (-1)) := fun cs hc => ⟨_, _, _, _, fin3 cs hc⟩
      have hl3 : (x.stays.till (-1)).s.stack.length ≤ 17592186044416 := hl
      by_cases htm : 0 ≤ T.tmo
      · have hc : x.stays.clock T.tmo c.now = (x.stays.till (-1)).pop.till (clipF (clipF c.now + clipF (x.stays.till (-1)).top)) := by rw [Wx.clock, if_neg hwt, if_pos htm]
        rw [hc]
        have hgn' := upd_ne (η := η2) (o := some (.cells 28 [workC c (x.stays.till (-1)) (.sl sr2 0 x.stays.s.stack.length) (.sl rr2 0 x.stays.s.regs.length) av2])) hgn.symm
        simp [aload, afield, apart, hb2, workC, hwf, astore, upd_eq, upd_ne hgn.symm, t2, htm]
        refine ACK.rt (clip_ac _ _ _) ?_
        simp
        refine ACK.use (pop_ac (K3 _ (by simp [workC, Wx.till, hwf])) hl3) ?_
        intro r η4 n4 ⟨e1, p1, p2, p3⟩
        subst e1
        have t4 := (p2 n1 nin).trans ((upd_ne hgn.symm).trans t2)
        have k4' := (k3.upd z2.ig).trans p2
        obtain ⟨sr4, rr4, av4, J4, z4⟩ := p1
        have hb4 := z4.blk
        have hwr : IntKind.i64.wrap (clipF c.now + clipF (x.stays.till (-1)).top) = clipF c.now + clipF (x.stays.till (-1)).top := wrap_id (by have := clip_wf c.now; have := clip_wf (x.stays.till (-1)).top; omega) (by have := clip_wf c.now; have := clip_wf (x.stays.till (-1)).top; omega)
        simp
        refine ACK.rt (clip_ac _ _ _) ?_
        simp [hwr]
        refine ACK.rt (clip_ac _ _ _) ?_
        have fin5 := fun cs hc => z4.turn (cs := cs) ((x.stays.till (-1)).pop.till (clipF (clipF c.now + clipF (x.stays.till (-1)).top))) rfl rfl rfl hc
        have K5 : ∀ cs, _ → WkAt (n1 + 1) F' (upd η4 g (some (.cells 28 [cs]))) g c ((x.stays.till (-1)).pop.till (clipF (clipF c.now + clipF (x.stays.till (-1)).top))) := fun cs hc => ⟨_, _, _, _, fin5 cs hc⟩
        simp [afield, hb4, workC, astore]
        refine drawK.intro mixed [(0, []), (1, []), (2, []), (3, []), (4, []), (5, []), (6, []), (7, []), (8, []), (9, []), (10, []), (11, []), (12, [])] (by kernel_rfl) ?_
        simp [aload, afield, apart, upd_eq, upd_ne hgn.symm, t4]
        refine ACK.rt (match_ac T c.box _ _ hTl hbx) ?_
        by_cases hm : (matchF T.cls c.box 0).2.2 = true
        · obtain ⟨j, hj1, hj2⟩ := matchF_in c.box 0 hm
          rw [Int.zero_add] at hj2
          have hg : (((x.stays.till (-1)).pop.till (clipF (clipF c.now + clipF (x.stays.till (-1)).top)))).gets T c.now c.box = (((x.stays.till (-1)).pop.till (clipF (clipF c.now + clipF (x.stays.till (-1)).top)))).took (c.box[j]'hj1).2 (matchF T.cls c.box 0).2.1 j := by
            rw [Wx.gets, if_pos hm, hj2, List.getD_eq_getElem?_getD, show (j : Int).toNat = j by omega, List.getElem?_eq_getElem hj1]; rfl
          rw [hg]
          simp [aload, afield, apart, upd_eq, hm, hj2, aindex, hj1]
          refine ACK.use (push_ac (K5 _ (by simp [workC, Wx.till])) (by omega) _) ?_
          intro r θ1 m1 ⟨e1, u1, u2, u3⟩
          subst e1
          simp
          refine ACK.use (goes_ac u1 _) ?_
          intro r θ2 m2 ⟨e1, v1, v2, v3⟩
          subst e1
          obtain ⟨sa, ra, aa, Ja, v4⟩ := v1
          have hbv := v4.blk
          simp [afield, hbv, workC, astore]
          exact resK.rt (fin _ _ _ _ ⟨sa, ra, aa, Ja, v4.turn ((((x.stays.till (-1)).pop.till (clipF (clipF c.now + clipF (x.stays.till (-1)).top)))).took (c.box[j]'hj1).2 (matchF T.cls c.box 0).2.1 j) rfl rfl rfl (by simp [workC, Wx.took])⟩ ((((k4'.upd z4.ig).trans u2).trans v2).upd v4.ig) (by omega))
        · have hg : (((x.stays.till (-1)).pop.till (clipF (clipF c.now + clipF (x.stays.till (-1)).top)))).gets T c.now c.box = if dueF (((x.stays.till (-1)).pop.till (clipF (clipF c.now + clipF (x.stays.till (-1)).top)))).s.till c.now = true then (((x.stays.till (-1)).pop.till (clipF (clipF c.now + clipF (x.stays.till (-1)).top)))).goes T.tmo else (((x.stays.till (-1)).pop.till (clipF (clipF c.now + clipF (x.stays.till (-1)).top)))).waits := by
            rw [Wx.gets, if_neg hm]
          rw [hg]
          simp [hm]
          refine drawK.intro mixed [(0, []), (1, []), (2, []), (3, []), (4, []), (5, []), (6, []), (7, []), (8, []), (9, []), (10, [])] (by kernel_rfl) ?_
          simp [aload, afield, apart, upd_eq]
          refine ACK.rt (due_ac _ _ _ _) ?_
          by_cases hdu : dueF (((x.stays.till (-1)).pop.till (clipF (clipF c.now + clipF (x.stays.till (-1)).top)))).s.till c.now = true
          · have hdu2 : dueF (clipF (clipF c.now + clipF (x.stays.till (-1)).top)) c.now = true := hdu
            rw [if_pos hdu]
            simp [aload, afield, apart, upd_ne hgn.symm, t4, hdu2]
            refine ACK.use (goes_ac (K5 _ (by simp [workC, Wx.till])) _) ?_
            intro r θ1 m1 ⟨e1, u1, u2, u3⟩
            subst e1
            simp
            exact resK.rt (fin _ _ _ _ u1 ((k4'.upd z4.ig).trans u2) (by omega))
          · have hdu2 : ¬ dueF (clipF (clipF c.now + clipF (x.stays.till (-1)).top)) c.now = true := hdu
            rw [if_neg hdu]
            have finw := fun cs hc => z4.turn (cs := cs) (((x.stays.till (-1)).pop.till (clipF (clipF c.now + clipF (x.stays.till (-1)).top)))).waits rfl rfl rfl hc
            simp [aload, afield, apart, upd_eq, hdu2, astore, upd_eq, upd_upd]
            exact resK.rt (fin _ _ _ _ ⟨_, _, _, _, finw _ (by simp [workC, Wx.waits, Wx.till])⟩ (k4'.upd z4.ig) (by omega))
      · have hc : x.stays.clock T.tmo c.now = x.stays.till (-1) := by rw [Wx.clock, if_neg hwt, if_neg htm]
        rw [hc]
        simp [aload, afield, apart, hb2, workC, hwf, astore, upd_ne hgn.symm, t2, htm]
        refine drawK.intro mixed [(0, []), (1, []), (2, []), (3, []), (4, []), (5, []), (6, []), (7, []), (8, []), (9, []), (10, []), (11, []), (12, [])] (by kernel_rfl) ?_
        simp [aload, afield, apart, upd_eq, upd_ne hgn.symm, t2]
        refine ACK.rt (match_ac T c.box _ _ hTl hbx) ?_
        by_cases hm : (matchF T.cls c.box 0).2.2 = true
        · obtain ⟨j, hj1, hj2⟩ := matchF_in c.box 0 hm
          rw [Int.zero_add] at hj2
          have hg : ((x.stays.till (-1))).gets T c.now c.box = ((x.stays.till (-1))).took (c.box[j]'hj1).2 (matchF T.cls c.box 0).2.1 j := by
            rw [Wx.gets, if_pos hm, hj2, List.getD_eq_getElem?_getD, show (j : Int).toNat = j by omega, List.getElem?_eq_getElem hj1]; rfl
          rw [hg]
          simp [aload, afield, apart, upd_eq, hm, hj2, aindex, hj1]
          refine ACK.use (push_ac (K3 _ (by simp [workC, Wx.till, hwf])) (by omega) _) ?_
          intro r θ1 m1 ⟨e1, u1, u2, u3⟩
          subst e1
          simp
          refine ACK.use (goes_ac u1 _) ?_
          intro r θ2 m2 ⟨e1, v1, v2, v3⟩
          subst e1
          obtain ⟨sa, ra, aa, Ja, v4⟩ := v1
          have hbv := v4.blk
          simp [afield, hbv, workC, astore]
          exact resK.rt (fin _ _ _ _ ⟨sa, ra, aa, Ja, v4.turn (((x.stays.till (-1))).took (c.box[j]'hj1).2 (matchF T.cls c.box 0).2.1 j) rfl rfl rfl (by simp [workC, Wx.took])⟩ ((((k3.upd z2.ig).trans u2).trans v2).upd v4.ig) (by omega))
        · have hg : ((x.stays.till (-1))).gets T c.now c.box = if dueF ((x.stays.till (-1))).s.till c.now = true then ((x.stays.till (-1))).goes T.tmo else ((x.stays.till (-1))).waits := by
            rw [Wx.gets, if_neg hm]
          rw [hg]
          simp [hm]
          refine drawK.intro mixed [(0, []), (1, []), (2, []), (3, []), (4, []), (5, []), (6, []), (7, []), (8, []), (9, []), (10, [])] (by kernel_rfl) ?_
          simp [aload, afield, apart, upd_eq]
          refine ACK.rt (due_ac _ _ _ _) ?_
          by_cases hdu : dueF ((x.stays.till (-1))).s.till c.now = true
          · have hdu2 : dueF (-1) c.now = true := hdu
            rw [if_pos hdu]
            simp [aload, afield, apart, upd_ne hgn.symm, t2, hdu2]
            refine ACK.use (goes_ac (K3 _ (by simp [workC, Wx.till, hwf])) _) ?_
            intro r θ1 m1 ⟨e1, u1, u2, u3⟩
            subst e1
            simp
            exact resK.rt (fin _ _ _ _ u1 ((k3.upd z2.ig).trans u2) (by omega))
          · have hdu2 : ¬ dueF (-1) c.now = true := hdu
            rw [if_neg hdu]
            have finw := fun cs hc => z2.turn (cs := cs) ((x.stays.till (-1))).waits rfl rfl rfl hc
            simp [aload, afield, apart, upd_eq, hdu2, astore, upd_eq, upd_upd]
            exact resK.rt (fin _ _ _ _ ⟨_, _, _, _, finw _ (by simp [workC, Wx.waits, Wx.till])⟩ (k3.upd z2.ig) (by omega))
  · have hu : x.recv c.own.tabs c.arg c.now c.box = x.fail 6 := by rw [Wx.recv, if_neg hd]
    rw [if_neg hd, decide_eq_false hd] at h1
    rw [hu]
    refine AC.enter Tryz.func221 rfl Tryz.ntmps221 (by simp) ?_
    simp [aload, afield, apart, hb, workC, alenT]
    refine ACK.use h1 ?_
    intro r η1 n1 ⟨e1, e2, e3, e4⟩
    subst e1
    simp
    exact resK.rt ⟨rfl, e2, e3, e4⟩
end
end Go.Proofs.YtbomkomipaipmaaGreat
namespace Go.Proofs.YtbomkomipaipmaaGreat
set_option maxRecDepth 100000

theorem puts_ac (f : FuncId) (η : AHeap) (n : Nat) : AC Tryz.prog 206 [.func f [] []] η n (fun r η' n' => r = .func 256 [] [.ptr n 0 0] ∧ η' = upd η n (some (.cells 1 [[.func f [] []]])) ∧ n' = n + 1) := by
  refine AC.enter Tryz.func206 rfl Tryz.ntmps206 (by simp) ?_
  simp
  exact resK.rt ⟨rfl, rfl, rfl⟩
theorem asks_ac (f : FuncId) (η : AHeap) (n : Nat) : AC Tryz.prog 217 [.func f [] []] η n (fun r η' n' => r = .func 257 [] [.ptr n 0 0] ∧ η' = upd η n (some (.cells 1 [[.func f [] []]])) ∧ n' = n + 1) := by
  refine AC.enter Tryz.func217 rfl Tryz.ntmps217 (by simp) ?_
  simp
  exact resK.rt ⟨rfl, rfl, rfl⟩
/-- how a deed is made: 0: the function itself; 1: puts of it; 2: asks of it -/
def deedL : List (Int × Nat × FuncId) := [(0, 0, 205), (1, 1, 207), (2, 1, 208), (3, 1, 209), (18, 1, 210), (4, 0, 211), (5, 0, 213), (13, 1, 214),
  (16, 0, 216), (17, 2, 218), (19, 0, 219), (20, 2, 220), (21, 0, 221), (22, 2, 222), (23, 2, 223), (24, 2, 224), (25, 2, 225), (26, 2, 226)]
/-- a deed's value -/
def DV (η : AHeap) (d : Nat × FuncId) (v : AVal) : Prop :=
  (d.1 = 0 ∧ v = .func d.2 [] []) ∨ ∃ q, η q = some (.cells 1 [[.func d.2 [] []]]) ∧ ((d.1 = 1 ∧ v = .func 256 [] [.ptr q 0 0]) ∨ (d.1 = 2 ∧ v = .func 257 [] [.ptr q 0 0]))
def DM (η : AHeap) : List (AVal × AVal) → List (Int × Nat × FuncId) → Prop
  | [], [] => True
  | e :: es, d :: L => e.1 = .int .i64 d.1 ∧ DV η d.2 e.2 ∧ DM η es L
  | _, _ => False
def deedOf (op : Int) : List (Int × Nat × FuncId) → Option (Nat × FuncId)
  | [] => none
  | d :: L => if op = d.1 then some d.2 else deedOf op L
theorem DM.find {η : AHeap} (op : Int) : ∀ (L : List (Int × Nat × FuncId)) (es : List (AVal × AVal)) (i : Nat), DM η es L →
    (deedOf op L = none ∧ afind (.int .i64) (.int .i64 op) es i = some none) ∨ ∃ d j v, deedOf op L = some d ∧ afind (.int .i64) (.int .i64 op) es i = some (some (j, v)) ∧ DV η d v
  | [], [], i, _ => Or.inl ⟨rfl, rfl⟩
  | [], e :: es, i, h => h.elim
  | d :: L, [], i, h => h.elim
  | d :: L, e :: es, i, ⟨h1, h2, h3⟩ => by
    by_cases ho : op = d.1
    · exact Or.inr ⟨d.2, i, e.2, by simp [deedOf, ho], by simp [afind, akeq, h1, ho], h2⟩
    · have hb : (op == d.1) = false := by simpa using ho
      rcases DM.find op L es (i + 1) h3 with ⟨g1, g2⟩ | ⟨d', j, v, g1, g2, g3⟩
      · exact Or.inl ⟨by simp [deedOf, ho, g1], by simp [afind, akeq, h1, hb, g2]⟩
      · exact Or.inr ⟨d', j, v, by simp [deedOf, ho, g1], by simp [afind, akeq, h1, hb, g2], g3⟩
theorem deeds_ac (η : AHeap) (n : Nat) : AC Tryz.prog 156 [] η n (fun r η' n' => r = .mp n ∧ n < n' ∧ (∀ r, r < n → η' r = η r) ∧ ∃ es, η' n = some (.map es) ∧ DM η' es deedL) := by
  refine AC.enter Tryz.func156 rfl Tryz.ntmps156 (by simp) ?_
  simp [ainsert, akOK, afind, upd_eq, upd_upd]
  refine ACK.use (puts_ac _ _ _) ?_
  intro r η1 n1 ⟨e1, e2, e3⟩
  subst e1 e2 e3
  simp [ainsert, akOK, afind, akeq, upd_apply, Nat.add_assoc]
  refine ACK.use (puts_ac _ _ _) ?_
  intro r η1 n1 ⟨e1, e2, e3⟩
  subst e1 e2 e3
  simp [ainsert, akOK, afind, akeq, upd_apply, Nat.add_assoc]
  refine ACK.use (puts_ac _ _ _) ?_
  intro r η1 n1 ⟨e1, e2, e3⟩
  subst e1 e2 e3
  simp [ainsert, akOK, afind, akeq, upd_apply, Nat.add_assoc]
  refine ACK.use (puts_ac _ _ _) ?_
  intro r η1 n1 ⟨e1, e2, e3⟩
  subst e1 e2 e3
  simp [ainsert, akOK, afind, akeq, upd_apply, upd_upd, Nat.add_assoc]
  refine ACK.use (puts_ac _ _ _) ?_
  intro r η1 n1 ⟨e1, e2, e3⟩
  subst e1 e2 e3
  simp [ainsert, akOK, afind, akeq, upd_apply, upd_upd, Nat.add_assoc]
  refine ACK.use (asks_ac _ _ _) ?_
  intro r η1 n1 ⟨e1, e2, e3⟩
  subst e1 e2 e3
  simp [ainsert, akOK, afind, akeq, upd_apply, upd_upd, Nat.add_assoc]
  refine ACK.use (asks_ac _ _ _) ?_
  intro r η1 n1 ⟨e1, e2, e3⟩
  subst e1 e2 e3
  simp [ainsert, akOK, afind, akeq, upd_apply, upd_upd, Nat.add_assoc]
  refine ACK.use (asks_ac _ _ _) ?_
  intro r η1 n1 ⟨e1, e2, e3⟩
  subst e1 e2 e3
  simp [ainsert, akOK, afind, akeq, upd_apply, Nat.add_assoc]
  refine ACK.use (asks_ac _ _ _) ?_
  intro r η1 n1 ⟨e1, e2, e3⟩
  subst e1 e2 e3
  simp [ainsert, akOK, afind, akeq, upd_apply, Nat.add_assoc]
  refine ACK.use (asks_ac _ _ _) ?_
  intro r η1 n1 ⟨e1, e2, e3⟩
  subst e1 e2 e3
  simp [ainsert, akOK, afind, akeq, upd_apply, Nat.add_assoc]
  refine ACK.use (asks_ac _ _ _) ?_
  intro r η1 n1 ⟨e1, e2, e3⟩
  subst e1 e2 e3
  simp [ainsert, akOK, afind, akeq, upd_apply, Nat.add_assoc]
  refine ACK.use (asks_ac _ _ _) ?_
  intro r η1 n1 ⟨e1, e2, e3⟩
  subst e1 e2 e3
  simp [ainsert, akOK, afind, akeq, upd_apply, Nat.add_assoc]
  refine resK.rt ⟨rfl, by omega, fun r hr => ?_, _, upd_eq .., ?_⟩
  · simp only [upd_apply]
    repeat rw [if_neg (by omega)]
  · simp [DM, deedL, DV, upd_apply]
theorem azv103 : azv Tryz.prog 189 = some .nilf := by kernel_rfl
def isTwo (op : Int) : Prop := 6 ≤ op ∧ op ≤ 15 ∧ op ≠ 13
theorem deed_ac (op : Int) (η : AHeap) (n : Nat) : AC Tryz.prog 99 [.int .i64 op] η n (fun r η' n' => n ≤ n' ∧ (∀ r, r < n → η' r = η r) ∧
    ((isTwo op ∧ r = .func 155 [] []) ∨ (¬ isTwo op ∧ deedOf op deedL = none ∧ r = .nilf) ∨ ∃ d, ¬ isTwo op ∧ deedOf op deedL = some d ∧ DV η' d r)) := by
  by_cases ht : isTwo op
  · obtain ⟨h1, h2, h3⟩ := ht
    refine AC.enter Tryz.func99 rfl Tryz.ntmps99 (by simp) ?_
    simp [h1, h2, h3]
    exact resK.rt ⟨Nat.le_refl _, fun _ _ => rfl, Or.inl ⟨⟨h1, h2, h3⟩, rfl⟩⟩
  · have tail : (6 ≤ op → op ≤ 15 → op = 13) := fun h1 h2 => Classical.byContradiction fun h3 => ht ⟨h1, h2, h3⟩
    by_cases h1 : 6 ≤ op
    · by_cases h2 : op ≤ 15
      · have h3 := tail h1 h2
        subst h3
        refine AC.enter Tryz.func99 rfl Tryz.ntmps99 (by simp) ?_
        simp
        refine ACK.use (deeds_ac _ _) ?_
        intro r η1 n1 ⟨e1, e2, e3, es, e4, e5⟩
        subst e1
        rcases DM.find 13 _ _ 0 e5 with ⟨g1, g2⟩ | ⟨d, j, v, g1, g2, g3⟩
        · simp [alookup, akOK, e4, g2, azv103]
          exact resK.rt ⟨by omega, e3, Or.inr (Or.inl ⟨ht, g1, rfl⟩)⟩
        · simp [alookup, akOK, e4, g2]
          exact resK.rt ⟨by omega, e3, Or.inr (Or.inr ⟨d, ht, g1, g3⟩)⟩
      · refine AC.enter Tryz.func99 rfl Tryz.ntmps99 (by simp) ?_
        simp [h1, h2]
        refine ACK.use (deeds_ac _ _) ?_
        intro r η1 n1 ⟨e1, e2, e3, es, e4, e5⟩
        subst e1
        rcases DM.find op _ _ 0 e5 with ⟨g1, g2⟩ | ⟨d, j, v, g1, g2, g3⟩
        · simp [alookup, akOK, e4, g2, azv103]
          exact resK.rt ⟨by omega, e3, Or.inr (Or.inl ⟨ht, g1, rfl⟩)⟩
        · simp [alookup, akOK, e4, g2]
          exact resK.rt ⟨by omega, e3, Or.inr (Or.inr ⟨d, ht, g1, g3⟩)⟩
    · refine AC.enter Tryz.func99 rfl Tryz.ntmps99 (by simp) ?_
      simp [h1]
      refine ACK.use (deeds_ac _ _) ?_
      intro r η1 n1 ⟨e1, e2, e3, es, e4, e5⟩
      subst e1
      rcases DM.find op _ _ 0 e5 with ⟨g1, g2⟩ | ⟨d, j, v, g1, g2, g3⟩
      · simp [alookup, akOK, e4, g2, azv103]
        exact resK.rt ⟨by omega, e3, Or.inr (Or.inl ⟨ht, g1, rfl⟩)⟩
      · simp [alookup, akOK, e4, g2]
        exact resK.rt ⟨by omega, e3, Or.inr (Or.inr ⟨d, ht, g1, g3⟩)⟩
end Go.Proofs.YtbomkomipaipmaaGreat
namespace Go.Proofs.YtbomkomipaipmaaGreat
set_option maxRecDepth 100000

def sta0 : Sta := ⟨0, 0, [], [], false, 0⟩
def eff0 : Eff := ⟨0, 0, (0, 0), 0, [], 0, (0, 0), 0⟩
/-- a state's and an effect's lists, as Step hands them back -/
def StepR (η : AHeap) (n : Nat) (s : Sta) (e : Eff) (err : Int) : AVal → AHeap → Nat → Prop := fun r η' n' => ∃ sv rv av, r = .tup [.agg (stC s sv rv), .agg (effC e av), .int .i64 err] ∧ IsL η' sv s.stack ∧ IsL η' rv s.regs ∧ IsL η' av e.args ∧ (∀ r, r < n → η' r = η r) ∧ n ≤ n'
/-- a row that was made behind n, with room for m -/
def OwnFrom (η : AHeap) (n : Nat) (v : AVal) (m : Nat) : Prop := (v = .nils ∧ m = 0) ∨ ∃ r rows, v = .sl r 0 m ∧ η r = some (.cells 1 rows) ∧ m ≤ rows.length ∧ n ≤ r
/-- the same, all lists in new rows -/
def StepW (η : AHeap) (n : Nat) (s : Sta) (e : Eff) (err : Int) : AVal → AHeap → Nat → Prop := fun r η' n' => ∃ sv rv av, r = .tup [.agg (stC s sv rv), .agg (effC e av), .int .i64 err] ∧ IsL η' sv s.stack ∧ IsL η' rv s.regs ∧ IsL η' av e.args ∧ (∀ r, r < n → η' r = η r) ∧ n ≤ n' ∧
  OwnFrom η' n sv s.stack.length ∧ OwnFrom η' n rv s.regs.length ∧ OwnFrom η' n av e.args.length
/-- what an operation does to the work (two values' operations apart) -/
def workF (c : Wc) (x : Wx) : Wx :=
  if c.op = 0 then (x.exits 0 0).stays else if c.op = 1 then x.push c.arg else if c.op = 2 then x.push 1 else if c.op = 3 then x.push 0 else if c.op = 18 then x.push c.self
  else if c.op = 4 then x.load c.arg else if c.op = 5 then x.stow c.arg else if c.op = 13 then x.pop.push (if x.top = 0 then 1 else 0) else if c.op = 16 then x.setpc c.arg
  else if c.op = 17 then x.pop.unl c.arg x.top else if c.op = 19 then x.spawn c.m c.arg else if c.op = 20 then x.pop.send c.arg x.top else if c.op = 21 then x.recv c.own.tabs c.arg c.now c.box
  else if c.op = 22 then x.pop.link x.top else if c.op = 23 then (x.pop.exits 1 x.top).stays else if c.op = 24 then x.pop.out x.top else if c.op = 25 then x.pop else (x.pop.push x.top).push x.top
/-- the bounds that a work's lists keep -/
structure WOK (c : Wc) (x : Wx) : Prop where
  st : x.s.stack.length ≤ 17592186044416
  box : c.box.length ≤ 17592186044416
  tabs : ∀ t ∈ c.own.tabs, t.cls.length ≤ 17592186044416
  par : ∀ a ∈ c.m, a.params.length ≤ 17592186044416
theorem deed_run {B : Nat} {F : List Nat} {η : AHeap} {g n : Nat} {c : Wc} {x : Wx} {d : Nat × FuncId} {v : AVal} (h : WkAt B F η g c x) (hn : B ≤ n) (ho : WOK c x) (hd : deedOf c.op deedL = some d) (hv : DV η d v)
    (hq : ∀ q f, v = .func f [] [.ptr q 0 0] → ¬ In B F q) : ∃ f caps, v = .func f [] caps ∧ HB Tryz.prog f = true ∧ AC Tryz.prog f ([.ptr g 0 0] ++ caps) η n (WPost B F η g c (workF c x) (.tup []) n) := by
  have h0 : ∀ {f : FuncId}, d = (0, f) → HB Tryz.prog f = true → AC Tryz.prog f [.ptr g 0 0] η n (WPost B F η g c (workF c x) (.tup []) n) → ∃ f caps, v = .func f [] caps ∧ HB Tryz.prog f = true ∧ AC Tryz.prog f ([.ptr g 0 0] ++ caps) η n (WPost B F η g c (workF c x) (.tup []) n) := fun {f} e k1 k2 => by
    subst e
    rcases hv with ⟨_, rfl⟩ | ⟨q, _, ⟨e, _⟩ | ⟨e, _⟩⟩
    · exact ⟨f, [], rfl, k1, k2⟩
    · cases e
    · cases e
  have h1 : ∀ {f : FuncId} {V : Int} {x' : Wx}, d = (1, f) → HB Tryz.prog f = true → AC Tryz.prog f [.ptr g 0 0] η n (WPost B F η g c x' (.int .i64 V) n) → workF c x = x'.push V → ∃ f caps, v = .func f [] caps ∧ HB Tryz.prog f = true ∧ AC Tryz.prog f ([.ptr g 0 0] ++ caps) η n (WPost B F η g c (workF c x) (.tup []) n) := fun {f V x'} e k1 k2 k3 => by
    subst e
    rcases hv with ⟨e, _⟩ | ⟨q, hqq, ⟨_, rfl⟩ | ⟨e, _⟩⟩
    · cases e
    · exact ⟨_, _, rfl, by simp, by rw [k3]; exact puts1_ac hqq k1 hn k2⟩
    · cases e
  have h2 : ∀ {f : FuncId} {G : Int → Wx → Wx}, d = (2, f) → HB Tryz.prog f = true → (∀ η n x m, B ≤ n → x.s.stack.length ≤ 17592186044416 → WkAt B F η g c x → AC Tryz.prog f [.ptr g 0 0, .int .i64 m] η n (WPost B F η g c (G m x) (.tup []) n)) → workF c x = G x.top x.pop → ∃ f caps, v = .func f [] caps ∧ HB Tryz.prog f = true ∧ AC Tryz.prog f ([.ptr g 0 0] ++ caps) η n (WPost B F η g c (workF c x) (.tup []) n) := fun {f G} e k1 k2 k3 => by
    subst e
    rcases hv with ⟨e, _⟩ | ⟨q, hqq, ⟨e, _⟩ | ⟨_, rfl⟩⟩
    · cases e
    · cases e
    · exact ⟨_, _, rfl, by simp, by rw [k3]; exact asks1_ac hqq (hq q _ rfl) k1 ho.st k2 hn h⟩
  by_cases e0 : c.op = 0
  · have hw := hd.symm
    simp [deedOf, deedL, e0] at hw
    exact h0 hw (by simp) (by rw [show workF c x = _ by simp [workF, e0]; rfl]; exact d1_ac h)
  by_cases e1 : c.op = 1
  · have hw := hd.symm
    simp [deedOf, deedL, e1] at hw
    exact h1 hw (by simp) (d2_ac h) (by simp [workF, e1])
  by_cases e2 : c.op = 2
  · have hw := hd.symm
    simp [deedOf, deedL, e2] at hw
    exact h1 hw (by simp) (d3_ac h) (by simp [workF, e2])
  by_cases e3 : c.op = 3
  · have hw := hd.symm
    simp [deedOf, deedL, e3] at hw
    exact h1 hw (by simp) (d4_ac h) (by simp [workF, e3])
  by_cases e18 : c.op = 18
  · have hw := hd.symm
    simp [deedOf, deedL, e18] at hw
    exact h1 hw (by simp) (d5_ac h) (by simp [workF, e18])
  by_cases e4 : c.op = 4
  · have hw := hd.symm
    simp [deedOf, deedL, e4] at hw
    exact h0 hw (by simp) (by rw [show workF c x = _ by simp [workF, e4]; rfl]; exact d6_ac h hn)
  by_cases e5 : c.op = 5
  · have hw := hd.symm
    simp [deedOf, deedL, e5] at hw
    exact h0 hw (by simp) (by rw [show workF c x = _ by simp [workF, e5]; rfl]; exact d7_ac h ho.st)
  by_cases e13 : c.op = 13
  · have hw := hd.symm
    simp [deedOf, deedL, e13] at hw
    exact h1 hw (by simp) (d8_ac h ho.st) (by simp [workF, e13])
  by_cases e16 : c.op = 16
  · have hw := hd.symm
    simp [deedOf, deedL, e16] at hw
    exact h0 hw (by simp) (by rw [show workF c x = _ by simp [workF, e16]; rfl]; exact d9_ac h)
  by_cases e17 : c.op = 17
  · have hw := hd.symm
    simp [deedOf, deedL, e17] at hw
    exact h2 (G := fun m x => x.unl c.arg m) hw (by simp) (fun η n x m hn hl h => d10_ac h m) (by simp [workF, e17])
  by_cases e19 : c.op = 19
  · have hw := hd.symm
    simp [deedOf, deedL, e19] at hw
    exact h0 hw (by simp) (by rw [show workF c x = _ by simp [workF, e19]; rfl]; exact spawns_ac h hn ho.st ho.par)
  by_cases e20 : c.op = 20
  · have hw := hd.symm
    simp [deedOf, deedL, e20] at hw
    exact h2 (G := fun m x => x.send c.arg m) hw (by simp) (fun η n x m hn hl h => d11_ac h hl m) (by simp [workF, e20])
  by_cases e21 : c.op = 21
  · have hw := hd.symm
    simp [deedOf, deedL, e21] at hw
    exact h0 hw (by simp) (by rw [show workF c x = _ by simp [workF, e21]; rfl]; exact receives_ac h hn ho.st ho.tabs ho.box)
  by_cases e22 : c.op = 22
  · have hw := hd.symm
    simp [deedOf, deedL, e22] at hw
    exact h2 (G := fun m x => x.link m) hw (by simp) (fun η n x m hn hl h => d12_ac h m) (by simp [workF, e22])
  by_cases e23 : c.op = 23
  · have hw := hd.symm
    simp [deedOf, deedL, e23] at hw
    exact h2 (G := fun m x => (x.exits 1 m).stays) hw (by simp) (fun η n x m hn hl h => d13_ac h m) (by simp [workF, e23])
  by_cases e24 : c.op = 24
  · have hw := hd.symm
    simp [deedOf, deedL, e24] at hw
    exact h2 (G := fun m x => x.out m) hw (by simp) (fun η n x m hn hl h => d14_ac h m) (by simp [workF, e24])
  by_cases e25 : c.op = 25
  · have hw := hd.symm
    simp [deedOf, deedL, e25] at hw
    exact h2 (G := fun _ x => x) hw (by simp) (fun η n x m hn hl h => d15_ac h m) (by simp [workF, e25])
  by_cases e26 : c.op = 26
  · have hw := hd.symm
    simp [deedOf, deedL, e26] at hw
    exact h2 (G := fun m x => (x.push m).push m) hw (by simp) (fun η n x m hn hl h => d16_ac h hn m) (by simp [workF, e26])
  exfalso
  simp [deedOf, deedL, e0, e1, e2, e3, e18, e4, e5, e13, e16, e17, e19, e20, e21, e22, e23, e24, e25, e26] at hd
theorem step_bad_ac (m : List Actr) (self : Int) (s : Sta) (now : Int) (box : List (Int × Int)) (η : AHeap) (n : Nat) (h : soundF m s = false) {sv rv : AVal} (k1 : IsL η sv s.stack) (k2 : IsL η rv s.regs) :
    AC Tryz.prog 49 [modV m, .int .i64 self, .agg (stC s sv rv), .int .i64 now, .rs 2 (pairs box)] η n (StepW η n sta0 eff0 13) := by
  have hs := fun η n => sound_ac m s η n k1 k2
  have zs1 := k1.sc
  have zs2 := k2.sc
  have zd1 := k1.ac
  have zd2 := k2.ac
  simp only [modV, stC, h] at hs ⊢
  refine AC.fresh fun hf => ?_; refine AC.enter Tryz.func49 rfl Tryz.ntmps49 (by simp) ?_
  have a1 : n ≠ n + 1 := by omega
  simp [aload, apart, upd_apply, Nat.add_assoc, zs1, zs2]
  refine ACK.rt (hs _ _) ?_
  simp [abuild, aplace, afillP, astore, upd_apply, aload, apart]
  exact resK.rt ⟨.nils, .nils, .nils, rfl, Or.inr (Or.inl ⟨rfl, rfl⟩), Or.inr (Or.inl ⟨rfl, rfl⟩), Or.inr (Or.inl ⟨rfl, rfl⟩), fun r hr => by
    simp only [upd_apply]
    repeat rw [if_neg (by omega)], by omega, Or.inl ⟨rfl, rfl⟩, Or.inl ⟨rfl, rfl⟩, Or.inl ⟨rfl, rfl⟩⟩
end Go.Proofs.YtbomkomipaipmaaGreat
namespace Go.Proofs.YtbomkomipaipmaaGreat
set_option maxRecDepth 100000

/-- lists of a length that memory holds -/
structure ModOK (m : List Actr) : Prop where
  par : ∀ a ∈ m, a.params.length ≤ 17592186044416
  cls : ∀ a ∈ m, ∀ t ∈ a.tabs, t.cls.length ≤ 17592186044416
def wc0 (m : List Actr) (self : Int) (s : Sta) (now : Int) (box : List (Int × Int)) : Wc :=
  ⟨m, actr m s.actor, (ins (actr m s.actor) s.pc).1, (ins (actr m s.actor) s.pc).2, self, now, box⟩
def wx0 (s : Sta) : Wx := ⟨s, { eff0 with taken := -1 }, 0⟩
instance (op : Int) : Decidable (isTwo op) := by unfold isTwo; infer_instance
def stepEnd (x : Wx) : Sta × Eff × Int := if x.err = 0 then (x.s, x.eff, 0) else (sta0, eff0, x.err)
def stepG (c : Wc) (x : Wx) : Sta × Eff × Int :=
  if isTwo c.op then stepEnd (x.two c.op) else match deedOf c.op deedL with
    | none => (sta0, eff0, 9)
    | some _ => stepEnd (workF c x)
/-- one step -/
def stepF (m : List Actr) (self : Int) (s : Sta) (now : Int) (box : List (Int × Int)) : Sta × Eff × Int :=
  if soundF m s = true then stepG (wc0 m self s now box) ((wx0 s).setpc (IntKind.i64.wrap (s.pc + 1))) else (sta0, eff0, 13)
theorem step_good_ac (m : List Actr) (self : Int) (s : Sta) (now : Int) (box : List (Int × Int)) (η : AHeap) (n : Nat) (h : soundF m s = true) (hm : ModOK m) (hb : box.length ≤ 17592186044416) (hr : s.regs.length ≤ 17592186044416) {sv rv : AVal} (k1 : IsL η sv s.stack) (k2 : IsL η rv s.regs) :
    AC Tryz.prog 49 [modV m, .int .i64 self, .agg (stC s sv rv), .int .i64 now, .rs 2 (pairs box)] η n (StepW η n (stepG (wc0 m self s now box) ((wx0 s).setpc (IntKind.i64.wrap (s.pc + 1)))).1 (stepG (wc0 m self s now box) ((wx0 s).setpc (IntKind.i64.wrap (s.pc + 1)))).2.1 (stepG (wc0 m self s now box) ((wx0 s).setpc (IntKind.i64.wrap (s.pc + 1)))).2.2) := by
  have hs := fun η n => sound_ac m s η n k1 k2
  have zs1 := k1.sc
  have zs2 := k2.sc
  have zd1 := k1.ac
  have zd2 := k2.ac
  have hd := h
  simp only [soundF, decide_eq_true_eq] at hd
  obtain ⟨p1, p2, p3, p4, p5, p6, p7⟩ := hd
  simp only [modV, stC, h] at hs ⊢
  have q1 : s.actor.toNat < m.length := by omega
  obtain ⟨A, hA⟩ : ∃ A, m[s.actor.toNat]'q1 = A := ⟨_, rfl⟩
  have hA2 : actr m s.actor = A := by rw [actr, List.getD_eq_getElem?_getD, List.getElem?_eq_getElem q1, hA]; rfl
  rw [hA2] at p4
  have q2 : s.pc.toNat < A.code.length := by omega
  obtain ⟨I, hI⟩ : ∃ I, A.code[s.pc.toNat]'q2 = I := ⟨_, rfl⟩
  have hI2 : ins A s.pc = I := by rw [ins, List.getD_eq_getElem?_getD, List.getElem?_eq_getElem q2, hI]; rfl
  have ho := fun (hf : ∀ r, n ≤ r → η r = none) η2 n2 (hk : ∀ r, r < n → η2 r = η r) => own_ac (η := η2) (n := n2) (s := s) (k1.keep hf hk) (k2.keep hf hk) (by omega) hr
  simp only [stA] at ho
  refine AC.fresh fun hf => ?_; refine AC.enter Tryz.func49 rfl Tryz.ntmps49 (by simp) ?_
  simp [zs1, zs2, aload, apart, upd_apply, Nat.add_assoc]
  refine ACK.rt (hs _ _) ?_
  simp [aload, afield, apart, upd_apply, Nat.add_assoc, aindex, p1, p2, hA, actC, astore]
  refine drawK.intro mixed [(0, []), (1, []), (2, []), (3, []), (4, []), (5, []), (6, []), (7, []), (8, []), (9, []), (10, []), (11, []), (13, []), (12, [0, 1, 3, 5, 6, 7]), (14, []), (15, []), (16, [])] (by kernel_rfl) ?_
  simp [zs1, zs2, aload, afield, apart, upd_apply, aindex, p3, p4, hI, abuild, aplace, afillP, lk_some, chkK]
  refine ACK.use (ho hf _ _ (fun r hr => by
    simp only [upd_apply]
    repeat rw [if_neg (by omega)])).freshP ?_
  intro r η2 g ⟨⟨q1, q2, e1, a1, a2, a3, a4, a5, a6, a7, a8⟩, hf2⟩
  subst e1
  have b0 := a8 n (by omega)
  have b1 := a8 (n + 1) (by omega)
  have b2 := a8 (n + 2) (by omega)
  have b3 := a8 (n + 3) (by omega)
  have b4 := a8 (n + 4) (by omega)
  simp [upd_apply] at b0 b1 b2 b3 b4
  simp [zs1, zs2, aload, afield, apart, b0, b1, b4, stA, p3, p4, hI, abuild, aplace, afillP, upd_eq]
  refine ACK.use (deed_ac I.1 _ _).freshP ?_
  intro r η3 n3 ⟨⟨d1, d2, d3⟩, hf3⟩
  have hc0 : (wc0 m self s now box).op = I.1 := by rw [wc0, hA2, hI2]
  have g0 : ∀ r, r < n + 5 → r < g := fun r hr => by omega
  have fr0 : ∀ r, r < g → η3 r = η2 r := fun r hr => (d2 r (by omega)).trans (upd_ne (by omega))
  rcases d3 with ⟨t1, t2⟩ | ⟨t1, t2, t3⟩ | ⟨d, t1, t2, t3⟩
  · have w1 : η3 g = _ := (d2 g (by omega)).trans (upd_eq ..)
    have q1l : q1 < g := by omega
    have q2l : q2 < g := by omega
    have K5 : ∀ cs, cs = workC (wc0 m self s now box) ((wx0 s).setpc (IntKind.i64.wrap (s.pc + 1))) (.sl q1 0 s.stack.length) (.sl q2 0 s.regs.length) .nils → WkAt n3 [g, q1, q2] (upd η3 g (some (.cells 28 [cs]))) g (wc0 m self s now box) ((wx0 s).setpc (IntKind.i64.wrap (s.pc + 1))) := fun cs hc => by
      subst hc
      exact ⟨q1, q2, .nils, [], upd_eq .., by rw [upd_ne (by omega), fr0 q1 q1l, a1]; simp [wx0, Wx.setpc], by rw [upd_ne (by omega), fr0 q2 q2l, a2]; rfl, Or.inl ⟨rfl, rfl⟩, by omega, by omega, a5, Or.inl (by simp), Or.inl (by simp), Or.inl (by simp)⟩
    have nin : ∀ r, r < n + 5 → ¬ In n3 [g, q1, q2] r := fun r hr hi => by
      rcases hi with hi | hi
      · simp at hi; omega
      · omega
    have e9 : stepG (wc0 m self s now box) ((wx0 s).setpc (IntKind.i64.wrap (s.pc + 1))) = stepEnd (((wx0 s).setpc (IntKind.i64.wrap (s.pc + 1))).two (wc0 m self s now box).op) := by
      rw [stepG, hc0, if_pos t1]
    rw [e9]
    subst t2
    simp [aload, afield, apart, w1, astore]
    refine ACK.use (wtwo_ac (K5 _ (by simp [workC, wc0, wx0, Wx.setpc, eff0, hA2, hI2])) (Nat.le_refl _) (show s.stack.length ≤ _ by omega) hr) ?_
    intro r η4 n4 ⟨u1, u2, u3, u4⟩
    subst u1
    obtain ⟨x2, hx2⟩ : ∃ x2, ((wx0 s).setpc (IntKind.i64.wrap (s.pc + 1))).two (wc0 m self s now box).op = x2 := ⟨_, rfl⟩
    rw [hx2] at u2 ⊢
    have v2 := (u3 (n + 2) (nin _ (by omega))).trans ((upd_ne (by omega)).trans ((fr0 (n + 2) (by omega)).trans b2))
    have v3 := (u3 (n + 3) (nin _ (by omega))).trans ((upd_ne (by omega)).trans ((fr0 (n + 3) (by omega)).trans b3))
    obtain ⟨sr, rr, av, J, y⟩ := u2
    have hb4 := y.blk
    have ia : IsL η4 av x2.eff.args := by
      rcases y.ar with ⟨k1, k2⟩ | ⟨ar, k1, k2, _⟩
      · exact Or.inr (Or.inl ⟨k1, k2⟩)
      · rw [k1]; exact IsL.own (J := []) (by rw [List.append_nil]; exact k2)
    have hsc := ia.sc
    have hg2 : ¬ g = n + 2 := by omega
    have hg3 : ¬ g = n + 3 := by omega
    have old : ∀ r, r < n → η4 r = η r := fun r hr => by
      rw [u3 r (nin _ (by omega)), upd_ne (by omega), fr0 r (by omega), a8 r (by omega)]
      simp only [upd_apply]
      repeat rw [if_neg (by omega)]
    have s2 : IsL η4 (.sl sr 0 x2.s.stack.length) x2.s.stack := IsL.own y.st
    have s3 : IsL η4 (.sl rr 0 x2.s.regs.length) x2.s.regs := IsL.own (J := []) (by rw [List.append_nil]; exact y.rg)
    by_cases he : x2.err = 0
    · simp [aload, afield, apart, hb4, workC, he]
      refine drawK.intro mixed [(0, []), (1, []), (2, []), (3, []), (4, []), (5, []), (6, []), (7, []), (8, [7]), (9, []), (10, [])] (by kernel_rfl) ?_
      simp [aload, afield, apart, hb4, workC, he, v2, v3, astore, upd_apply, lk_some, chkK, hsc, hg2]
      have ee : stepEnd x2 = (x2.s, x2.eff, 0) := if_pos he
      rw [ee]
      have kp : ∀ o1 o2 v l, IsL η4 v l → IsL (upd (upd η4 (n + 2) o1) (n + 3) o2) v l := fun o1 o2 v l hv => by
        rcases hv with k | k | ⟨r, o, I, J, k1, k0, k2⟩
        · exact Or.inl k
        · exact Or.inr (Or.inl k)
        · have r1 : r ≠ n + 2 := fun e => by rw [e, v2] at k2; cases k2
          have r2 : r ≠ n + 3 := fun e => by rw [e, v3] at k2; cases k2
          exact Or.inr (Or.inr ⟨r, o, I, J, k1, k0, by rw [upd_ne r2, upd_ne r1]; exact k2⟩)
      have hge : ∀ r, In n3 [g, q1, q2] r → n ≤ r ∧ r ≠ n + 2 ∧ r ≠ n + 3 := fun r hi => by
        rcases hi with hi | hi
        · simp at hi; omega
        · omega
      have ow : ∀ o1 o2 r l J, In n3 [g, q1, q2] r → η4 r = some (.cells 1 (ints (l ++ J))) → OwnFrom (upd (upd η4 (n + 2) o1) (n + 3) o2) n (.sl r 0 l.length) l.length := fun o1 o2 r l J hi hr => by
        obtain ⟨h1, h2, h3⟩ := hge r hi
        exact Or.inr ⟨r, _, rfl, by rw [upd_ne h3, upd_ne h2]; exact hr, by simp, h1⟩
      have oa : ∀ o1 o2, OwnFrom (upd (upd η4 (n + 2) o1) (n + 3) o2) n av x2.eff.args.length := fun o1 o2 => by
        rcases y.ar with ⟨k1, k2⟩ | ⟨ar, k1, k2, _, _, _, k6⟩
        · exact Or.inl ⟨k1, by rw [k2]; rfl⟩
        · rw [k1]; exact ow o1 o2 ar _ [] k6 (by rw [List.append_nil]; exact k2)
      exact resK.rt ⟨_, _, _, rfl, kp _ _ _ _ s2, kp _ _ _ _ s3, kp _ _ _ _ ia, fun r hr => by rw [upd_ne (by omega), upd_ne (by omega)]; exact old r hr, by omega, ow _ _ _ _ _ y.is y.st, ow _ _ _ _ [] y.ir (by rw [List.append_nil]; exact y.rg), oa _ _⟩
    · simp [aload, afield, apart, hb4, workC, he]
      refine drawK.intro mixed [(0, []), (1, []), (2, []), (3, []), (4, []), (5, []), (6, [5]), (7, [5]), (8, [])] (by kernel_rfl) ?_
      simp [aload, afield, apart, hb4, workC, v2, v3, astore, upd_apply, lk_some, chkK, abuild, aplace, afillP, hg2, hg3]
      have ee : stepEnd x2 = (sta0, eff0, x2.err) := if_neg he
      rw [ee]
      exact resK.rt ⟨.nils, .nils, .nils, rfl, Or.inr (Or.inl ⟨rfl, rfl⟩), Or.inr (Or.inl ⟨rfl, rfl⟩), Or.inr (Or.inl ⟨rfl, rfl⟩), fun r hr => by rw [upd_ne (by omega), upd_ne (by omega)]; exact old r hr, by omega, Or.inl ⟨rfl, rfl⟩, Or.inl ⟨rfl, rfl⟩, Or.inl ⟨rfl, rfl⟩⟩
  · have e9 : stepG (wc0 m self s now box) ((wx0 s).setpc (IntKind.i64.wrap (s.pc + 1))) = (sta0, eff0, 9) := by
      rw [stepG, hc0, if_neg t1, t2]
    rw [e9]
    subst t3
    have c2 := (fr0 (n + 2) (by omega)).trans b2
    have c3 := (fr0 (n + 3) (by omega)).trans b3
    simp [abuild, aplace, afillP, aload, apart, upd_apply, c2, c3, astore]
    exact resK.rt ⟨.nils, .nils, .nils, rfl, Or.inr (Or.inl ⟨rfl, rfl⟩), Or.inr (Or.inl ⟨rfl, rfl⟩), Or.inr (Or.inl ⟨rfl, rfl⟩), fun r hr => by
      simp only [upd_apply]
      repeat rw [if_neg (by omega)]
      rw [fr0 r (by omega), a8 r (by omega)]
      simp only [upd_apply]
      repeat rw [if_neg (by omega)], by omega, Or.inl ⟨rfl, rfl⟩, Or.inl ⟨rfl, rfl⟩, Or.inl ⟨rfl, rfl⟩⟩
  · have hcw : wc0 m self s now box = (⟨m, A, I.1, I.2, self, now, box⟩ : Wc) := by rw [wc0, hA2, hI2]
    have hCo : ((⟨m, A, I.1, I.2, self, now, box⟩ : Wc)).op = I.1 := rfl
    have w1 : η3 g = _ := (d2 g (by omega)).trans (upd_eq ..)
    have q1l : q1 < g := by omega
    have q2l : q2 < g := by omega
    have K5 : ∀ cs, cs = workC (⟨m, A, I.1, I.2, self, now, box⟩ : Wc) ((wx0 s).setpc (IntKind.i64.wrap (s.pc + 1))) (.sl q1 0 s.stack.length) (.sl q2 0 s.regs.length) .nils → WkAt n3 [g, q1, q2] (upd η3 g (some (.cells 28 [cs]))) g (⟨m, A, I.1, I.2, self, now, box⟩ : Wc) ((wx0 s).setpc (IntKind.i64.wrap (s.pc + 1))) := fun cs hc => by
      subst hc
      exact ⟨q1, q2, .nils, [], upd_eq .., by rw [upd_ne (by omega), fr0 q1 q1l, a1]; simp [wx0, Wx.setpc], by rw [upd_ne (by omega), fr0 q2 q2l, a2]; rfl, Or.inl ⟨rfl, rfl⟩, by omega, by omega, a5, Or.inl (by simp), Or.inl (by simp), Or.inl (by simp)⟩
    have nin : ∀ r, r < n + 5 → ¬ In n3 [g, q1, q2] r := fun r hr hi => by
      rcases hi with hi | hi
      · simp at hi; omega
      · omega
    have e9 : stepG (⟨m, A, I.1, I.2, self, now, box⟩ : Wc) ((wx0 s).setpc (IntKind.i64.wrap (s.pc + 1))) = stepEnd (workF (⟨m, A, I.1, I.2, self, now, box⟩ : Wc) ((wx0 s).setpc (IntKind.i64.wrap (s.pc + 1)))) := by
      rw [stepG, hCo, if_neg t1, t2]
    rw [hcw, e9]
    have bx : ∀ q f, η3 q = some (.cells 1 [[.func f [] []]]) → q ≠ g ∧ q ≠ q1 ∧ q ≠ q2 := fun q f hq => by
      refine ⟨fun e => ?_, fun e => ?_, fun e => ?_⟩
      · rw [e, w1] at hq; cases hq
      · rw [e, fr0 q1 q1l, a1] at hq
        cases hl : s.stack with
        | nil => rw [hl] at hq; simp [ints] at hq
        | cons z zs => rw [hl] at hq; simp [ints] at hq
      · rw [e, fr0 q2 q2l, a2] at hq
        cases hl : s.regs with
        | nil => rw [hl] at hq; simp [ints] at hq
        | cons z zs => rw [hl] at hq; simp [ints] at hq
    have hdv : ∀ o, DV (upd η3 g o) d r := fun o => by
      rcases t3 with k | ⟨q, k1, k2⟩
      · exact Or.inl k
      · exact Or.inr ⟨q, by rw [upd_ne (bx q _ k1).1]; exact k1, k2⟩
    have hq : ∀ q f, r = .func f [] [.ptr q 0 0] → ¬ In n3 [g, q1, q2] q := fun q f e hi => by
      rcases t3 with ⟨_, k⟩ | ⟨q', k1, k2⟩
      · rw [k] at e; cases e
      · have : q' = q := by
          rcases k2 with ⟨_, k⟩ | ⟨_, k⟩ <;> (rw [k] at e; cases e; rfl)
        subst this
        have b := bx q' _ k1
        rcases hi with hi | hi
        · simp at hi; omega
        · rw [hf3 q' hi] at k1; cases k1
    have hA3 : A ∈ m := by rw [← hA]; exact List.getElem_mem ..
    obtain ⟨f, caps, hr1, hbf, hac⟩ := deed_run (c := (⟨m, A, I.1, I.2, self, now, box⟩ : Wc)) (K5 _ rfl) (Nat.le_refl n3) ⟨show s.stack.length ≤ _ by omega, hb, hm.cls A hA3, hm.par⟩ (show deedOf ((⟨m, A, I.1, I.2, self, now, box⟩ : Wc)).op deedL = some d by rw [hCo]; exact t2) (hdv _) hq
    subst hr1
    simp [aload, afield, apart, w1, astore, hbf]
    refine ACK.use hac ?_
    intro r η4 n4 ⟨u1, u2, u3, u4⟩
    subst u1
    obtain ⟨x2, hx2⟩ : ∃ x2, workF (⟨m, A, I.1, I.2, self, now, box⟩ : Wc) ((wx0 s).setpc (IntKind.i64.wrap (s.pc + 1))) = x2 := ⟨_, rfl⟩
    rw [hx2] at u2 ⊢
    have v2 := (u3 (n + 2) (nin _ (by omega))).trans ((upd_ne (by omega)).trans ((fr0 (n + 2) (by omega)).trans b2))
    have v3 := (u3 (n + 3) (nin _ (by omega))).trans ((upd_ne (by omega)).trans ((fr0 (n + 3) (by omega)).trans b3))
    obtain ⟨sr, rr, av, J, y⟩ := u2
    have hb4 := y.blk
    have ia : IsL η4 av x2.eff.args := by
      rcases y.ar with ⟨k1, k2⟩ | ⟨ar, k1, k2, _⟩
      · exact Or.inr (Or.inl ⟨k1, k2⟩)
      · rw [k1]; exact IsL.own (J := []) (by rw [List.append_nil]; exact k2)
    have hsc := ia.sc
    have hg2 : ¬ g = n + 2 := by omega
    have hg3 : ¬ g = n + 3 := by omega
    have old : ∀ r, r < n → η4 r = η r := fun r hr => by
      rw [u3 r (nin _ (by omega)), upd_ne (by omega), fr0 r (by omega), a8 r (by omega)]
      simp only [upd_apply]
      repeat rw [if_neg (by omega)]
    have s2 : IsL η4 (.sl sr 0 x2.s.stack.length) x2.s.stack := IsL.own y.st
    have s3 : IsL η4 (.sl rr 0 x2.s.regs.length) x2.s.regs := IsL.own (J := []) (by rw [List.append_nil]; exact y.rg)
    by_cases he : x2.err = 0
    · simp [aload, afield, apart, hb4, workC, he]
      refine drawK.intro mixed [(0, []), (1, []), (2, []), (3, []), (4, []), (5, []), (6, []), (7, []), (8, [7]), (9, []), (10, [])] (by kernel_rfl) ?_
      simp [aload, afield, apart, hb4, workC, he, v2, v3, astore, upd_apply, lk_some, chkK, hsc, hg2]
      have ee : stepEnd x2 = (x2.s, x2.eff, 0) := if_pos he
      rw [ee]
      have kp : ∀ o1 o2 v l, IsL η4 v l → IsL (upd (upd η4 (n + 2) o1) (n + 3) o2) v l := fun o1 o2 v l hv => by
        rcases hv with k | k | ⟨r, o, I, J, k1, k0, k2⟩
        · exact Or.inl k
        · exact Or.inr (Or.inl k)
        · have r1 : r ≠ n + 2 := fun e => by rw [e, v2] at k2; cases k2
          have r2 : r ≠ n + 3 := fun e => by rw [e, v3] at k2; cases k2
          exact Or.inr (Or.inr ⟨r, o, I, J, k1, k0, by rw [upd_ne r2, upd_ne r1]; exact k2⟩)
      have hge : ∀ r, In n3 [g, q1, q2] r → n ≤ r ∧ r ≠ n + 2 ∧ r ≠ n + 3 := fun r hi => by
        rcases hi with hi | hi
        · simp at hi; omega
        · omega
      have ow : ∀ o1 o2 r l J, In n3 [g, q1, q2] r → η4 r = some (.cells 1 (ints (l ++ J))) → OwnFrom (upd (upd η4 (n + 2) o1) (n + 3) o2) n (.sl r 0 l.length) l.length := fun o1 o2 r l J hi hr => by
        obtain ⟨h1, h2, h3⟩ := hge r hi
        exact Or.inr ⟨r, _, rfl, by rw [upd_ne h3, upd_ne h2]; exact hr, by simp, h1⟩
      have oa : ∀ o1 o2, OwnFrom (upd (upd η4 (n + 2) o1) (n + 3) o2) n av x2.eff.args.length := fun o1 o2 => by
        rcases y.ar with ⟨k1, k2⟩ | ⟨ar, k1, k2, _, _, _, k6⟩
        · exact Or.inl ⟨k1, by rw [k2]; rfl⟩
        · rw [k1]; exact ow o1 o2 ar _ [] k6 (by rw [List.append_nil]; exact k2)
      exact resK.rt ⟨_, _, _, rfl, kp _ _ _ _ s2, kp _ _ _ _ s3, kp _ _ _ _ ia, fun r hr => by rw [upd_ne (by omega), upd_ne (by omega)]; exact old r hr, by omega, ow _ _ _ _ _ y.is y.st, ow _ _ _ _ [] y.ir (by rw [List.append_nil]; exact y.rg), oa _ _⟩
    · simp [aload, afield, apart, hb4, workC, he]
      refine drawK.intro mixed [(0, []), (1, []), (2, []), (3, []), (4, []), (5, []), (6, [5]), (7, [5]), (8, [])] (by kernel_rfl) ?_
      simp [aload, afield, apart, hb4, workC, v2, v3, astore, upd_apply, lk_some, chkK, abuild, aplace, afillP, hg2, hg3]
      have ee : stepEnd x2 = (sta0, eff0, x2.err) := if_neg he
      rw [ee]
      exact resK.rt ⟨.nils, .nils, .nils, rfl, Or.inr (Or.inl ⟨rfl, rfl⟩), Or.inr (Or.inl ⟨rfl, rfl⟩), Or.inr (Or.inl ⟨rfl, rfl⟩), fun r hr => by rw [upd_ne (by omega), upd_ne (by omega)]; exact old r hr, by omega, Or.inl ⟨rfl, rfl⟩, Or.inl ⟨rfl, rfl⟩, Or.inl ⟨rfl, rfl⟩⟩
theorem stepW_ac (m : List Actr) (self : Int) (s : Sta) (now : Int) (box : List (Int × Int)) (η : AHeap) (n : Nat) (hm : ModOK m) (hb : box.length ≤ 17592186044416) (hr : s.regs.length ≤ 17592186044416) {sv rv : AVal} (k1 : IsL η sv s.stack) (k2 : IsL η rv s.regs) :
    AC Tryz.prog 49 [modV m, .int .i64 self, .agg (stC s sv rv), .int .i64 now, .rs 2 (pairs box)] η n (StepW η n (stepF m self s now box).1 (stepF m self s now box).2.1 (stepF m self s now box).2.2) := by
  cases h : soundF m s with
  | true => simp only [stepF, h, if_true]; exact step_good_ac m self s now box η n h hm hb hr k1 k2
  | false => simp only [stepF, h, Bool.false_eq_true, if_false]; exact step_bad_ac m self s now box η n h k1 k2
theorem step_ac (m : List Actr) (self : Int) (s : Sta) (now : Int) (box : List (Int × Int)) (η : AHeap) (n : Nat) (hm : ModOK m) (hb : box.length ≤ 17592186044416) (hr : s.regs.length ≤ 17592186044416) {sv rv : AVal} (k1 : IsL η sv s.stack) (k2 : IsL η rv s.regs) :
    AC Tryz.prog 49 [modV m, .int .i64 self, .agg (stC s sv rv), .int .i64 now, .rs 2 (pairs box)] η n (StepR η n (stepF m self s now box).1 (stepF m self s now box).2.1 (stepF m self s now box).2.2) :=
  (stepW_ac m self s now box η n hm hb hr k1 k2).mono fun _ _ _ ⟨a, b, c, h1, h2, h3, h4, h5, h6, _⟩ => ⟨a, b, c, h1, h2, h3, h4, h5, h6⟩
end Go.Proofs.YtbomkomipaipmaaGreat
namespace Go.Proofs.YtbomkomipaipmaaGreat
set_option maxRecDepth 100000

theorem take_min {α : Type} (l : List α) (k : Nat) : l.take (min l.length k) = l.take k := by
  rcases Nat.le_total l.length k with h | h
  · rw [Nat.min_eq_left h, List.take_length, List.take_of_length_le h]
  · rw [Nat.min_eq_right h]
def newF (m : List Actr) (k : Int) (args : List Int) : Sta × Int :=
  if k < 0 ∨ (m.length : Int) ≤ k then (sta0, 6) else if args.length ≠ (actr m k).params.length then (sta0, 1)
  else (⟨k, 0, [], args.take (actr m k).regs.length ++ List.replicate ((actr m k).regs.length - args.length) 0, false, -1⟩, 0)
/-- a state as New and Got hand it back -/
def NewR (η : AHeap) (n : Nat) (s : Sta) (err : Int) : AVal → AHeap → Nat → Prop := fun r η' n' => ∃ sv rv, r = .tup [.agg (stC s sv rv), .int .i64 err] ∧ IsL η' sv s.stack ∧ IsL η' rv s.regs ∧ (∀ r, r < n → η' r = η r) ∧ n ≤ n'
theorem new_ac (m : List Actr) (k : Int) (args : List Int) (η : AHeap) (n : Nat) {v : AVal} (h : IsL η v args) (hr : ∀ a ∈ m, a.regs.length ≤ 17592186044416) :
    AC Tryz.prog 91 [modV m, .int .i64 k, v] η n (NewR η n (newF m k args).1 (newF m k args).2) := by
  have l1 : ∀ η', alenT Tryz.prog 34 v η' = some (args.length : Int) := h.len (by simp)
  have z1 := h.sc
  have z2 := h.ac
  by_cases c1 : k < 0
  · have e : newF m k args = (sta0, 6) := if_pos (Or.inl c1)
    rw [e]
    refine AC.fresh fun hf => ?_; refine AC.enter Tryz.func91 rfl Tryz.ntmps91 (by simp) ?_
    simp [modV, aload, apart, upd_apply, Nat.add_assoc, c1, abuild, aplace, afillP, astore]
    exact resK.rt ⟨.nils, .nils, rfl, Or.inr (Or.inl ⟨rfl, rfl⟩), Or.inr (Or.inl ⟨rfl, rfl⟩), fun r hr => by simp only [upd_apply]; repeat rw [if_neg (by omega)], by omega⟩
  by_cases c2 : (m.length : Int) ≤ k
  · have e : newF m k args = (sta0, 6) := if_pos (Or.inr c2)
    rw [e]
    refine AC.fresh fun hf => ?_; refine AC.enter Tryz.func91 rfl Tryz.ntmps91 (by simp) ?_
    simp [modV, aload, afield, apart, upd_apply, Nat.add_assoc, c1, c2, abuild, aplace, afillP, astore]
    exact resK.rt ⟨.nils, .nils, rfl, Or.inr (Or.inl ⟨rfl, rfl⟩), Or.inr (Or.inl ⟨rfl, rfl⟩), fun r hr => by simp only [upd_apply]; repeat rw [if_neg (by omega)], by omega⟩
  obtain ⟨j, rfl⟩ : ∃ j : Nat, k = (j : Int) := ⟨k.toNat, by omega⟩
  have hj : j < m.length := by omega
  obtain ⟨A, hA⟩ : ∃ A, m[j]'hj = A := ⟨_, rfl⟩
  have hA2 : actr m (j : Int) = A := by rw [actr, List.getD_eq_getElem?_getD]; simp [hj, hA]
  have hAm : A ∈ m := by rw [← hA]; exact List.getElem_mem ..
  have hrl := hr A hAm
  have e : newF m j args = if args.length ≠ A.params.length then (sta0, 1) else (⟨j, 0, [], args.take A.regs.length ++ List.replicate (A.regs.length - args.length) 0, false, -1⟩, 0) := by
    unfold newF; rw [if_neg (by omega), hA2]
  rw [e]
  by_cases c3 : args.length = A.params.length
  · rw [if_neg (by simpa using c3)]
    have c3' : ((args.length : Int) = A.params.length) := by omega
    have b1 : 8 * (A.regs.length : Int) ≤ 281474976710656 := by omega
    have b2 : (A.regs.length : Int) ≤ 9223372036854775807 := by omega
    refine AC.fresh fun hf => ?_; refine AC.enter Tryz.func91 rfl Tryz.ntmps91 (by simp) ?_
    have hk : ∀ o1 o2 o3 o4, IsL (upd (upd (upd (upd η n o1) (n + 1) o2) (n + 2) o3) (n + 3) o4) v args := fun _ _ _ _ => h.keep hf fun r hr => by simp only [upd_apply]; repeat rw [if_neg (by omega)]
    simp [modV, aload, afield, apart, upd_apply, Nat.add_assoc, c1, c2, abuild, aplace, afillP, astore, aindex, hj, hA, actC, l1, c3', makeK, b1, b2]
    have ho : ∀ η', (∀ r, r < n → η' r = η r) → arows 1 v η' = some (ints args) := fun η' h' => (h.keep hf h').rows
    refine cpyK.own (e := 2) (e2 := 2) (z := 1) (news := ints args) (rows := List.replicate A.regs.length [.int .i64 0]) (by simp) (by simp) (by simp) (by omega) (ho _ fun r hr => by simp only [upd_apply]; repeat rw [if_neg (by omega)]) ints_sc (by simp [upd_apply]) (by simp) ?_
    have er : List.take 0 (List.replicate A.regs.length [AVal.int .i64 0]) ++ List.take (min (ints args).length A.regs.length) (ints args) ++ List.drop (0 + min (ints args).length A.regs.length) (List.replicate A.regs.length [AVal.int .i64 0]) = ints (args.take A.regs.length ++ List.replicate (A.regs.length - args.length) 0) := by
      rw [take_min, ints_length]
      simp only [ints, List.take_zero, List.nil_append, List.map_append, Nat.zero_add, List.drop_replicate, List.map_replicate, List.map_take]
      congr 2; omega
    rw [er]
    simp [aload, apart, upd_apply, astore]
    refine resK.rt ⟨.nils, .sl (n + 3) 0 A.regs.length, rfl, Or.inr (Or.inl ⟨rfl, rfl⟩), ?_, fun r hr => by simp only [upd_apply]; repeat rw [if_neg (by omega)], by omega⟩
    have el : A.regs.length = (args.take A.regs.length ++ List.replicate (A.regs.length - args.length) 0).length := by simp; omega
    refine Or.inr (Or.inr ⟨n + 3, 0, [], [], by rw [← el], rfl, ?_⟩)
    simp [upd_apply]
  · rw [if_pos c3]
    have c3' : ¬ ((args.length : Int) = A.params.length) := by omega
    refine AC.fresh fun hf => ?_; refine AC.enter Tryz.func91 rfl Tryz.ntmps91 (by simp) ?_
    simp [modV, aload, afield, apart, upd_apply, Nat.add_assoc, c1, c2, abuild, aplace, afillP, astore, aindex, hj, hA, actC, l1, c3']
    exact resK.rt ⟨.nils, .nils, rfl, Or.inr (Or.inl ⟨rfl, rfl⟩), Or.inr (Or.inl ⟨rfl, rfl⟩), fun r hr => by simp only [upd_apply]; repeat rw [if_neg (by omega)], by omega⟩
end Go.Proofs.YtbomkomipaipmaaGreat
namespace Go.Proofs.YtbomkomipaipmaaGreat
set_option maxRecDepth 100000

def gotF (s : Sta) (pid : Int) : Sta × Int := if 16 ≤ s.stack.length then (sta0, 12) else ({ s with stack := s.stack ++ [pid] }, 0)
def wcZ : Wc := ⟨[], ⟨[], [], [], [], []⟩, 0, 0, 0, 0, []⟩
theorem got_ac (s : Sta) (pid : Int) (η : AHeap) (n : Nat) {sv rv : AVal} (k1 : IsL η sv s.stack) (k2 : IsL η rv s.regs) (h1 : s.stack.length ≤ 17592186044416) (h2 : s.regs.length ≤ 17592186044416) :
    AC Tryz.prog 161 [.agg (stC s sv rv), .int .i64 pid] η n (NewR η n (gotF s pid).1 (gotF s pid).2) := by
  have zs1 := k1.sc
  have zs2 := k2.sc
  have zd1 := k1.ac
  have zd2 := k2.ac
  refine AC.fresh fun hf => ?_; refine AC.enter Tryz.func161 rfl Tryz.ntmps161 (by simp) ?_
  have ho := fun η2 n2 (hk : ∀ r, r < n → η2 r = η r) => own_ac (η := η2) (n := n2) (s := s) (k1.keep hf hk) (k2.keep hf hk) h1 h2
  simp only [stC, stA] at ho ⊢
  simp [zs1, zs2, aload, apart, upd_apply, Nat.add_assoc]
  refine ACK.use (ho _ _ (fun r hr => by
    simp only [upd_apply]
    repeat rw [if_neg (by omega)])).freshP ?_
  intro r η2 g ⟨⟨q1, q2, e1, a1, a2, a3, a4, a5, a6, a7, a8⟩, hf2⟩
  subst e1
  have b0 := a8 n (by omega)
  have b1 := a8 (n + 1) (by omega)
  simp [upd_apply] at b0 b1
  simp [stA, abuild, aplace, afillP]
  refine AC.weak (r := g) (rows' := [workC wcZ ⟨s, eff0, 0⟩ (.sl q1 0 s.stack.length) (.sl q2 0 s.regs.length) .nils]) (upd_eq ..) (by simp [workC, wcZ, eff0, actsC, ints, pairs, tblsC]) ?_
  rw [upd_upd]
  refine ACK.use (g := .mk) (push_ac (B := g) (F := [g, q1, q2]) (c := wcZ) (x := ⟨s, eff0, 0⟩) ⟨q1, q2, .nils, [], upd_eq .., by rw [upd_ne (by omega), a1]; simp, by rw [upd_ne (by omega), a2], Or.inl ⟨rfl, rfl⟩, by omega, by omega, a5, Or.inl (by simp), Or.inl (by simp), Or.inl (by simp)⟩ (by omega) pid) ?_
  intro r η3 n3 ⟨e1, u2, u3, u4⟩
  subst e1
  have nin : ∀ r, r < n + 2 → ¬ In g [g, q1, q2] r := fun r hr hi => by
    rcases hi with hi | hi
    · simp at hi; omega
    · omega
  have v1 := (u3 (n + 1) (nin _ (by omega))).trans ((upd_ne (by omega)).trans b1)
  have old : ∀ r, r < n → η3 r = η r := fun r hr => by
    rw [u3 r (nin _ (by omega)), upd_ne (by omega), a8 r (by omega)]
    simp only [upd_apply]
    repeat rw [if_neg (by omega)]
  obtain ⟨sr, rr, av, J, y⟩ := u2
  obtain ⟨x2, hx2⟩ : ∃ x2, (⟨s, eff0, 0⟩ : Wx).push pid = x2 := ⟨_, rfl⟩
  rw [hx2] at y
  have hb4 := y.blk
  have s2 : IsL η3 (.sl sr 0 x2.s.stack.length) x2.s.stack := IsL.own y.st
  have s3 : IsL η3 (.sl rr 0 x2.s.regs.length) x2.s.regs := IsL.own (J := []) (by rw [List.append_nil]; exact y.rg)
  have hg1 : ¬ g = n + 1 := by omega
  have kp : ∀ o v l, IsL η3 v l → IsL (upd η3 (n + 1) o) v l := fun o v l hv => by
    rcases hv with k | k | ⟨r, o, I, J, k1, k0, k2⟩
    · exact Or.inl k
    · exact Or.inr (Or.inl k)
    · have r1 : r ≠ n + 1 := fun e => by rw [e, v1] at k2; cases k2
      exact Or.inr (Or.inr ⟨r, o, I, J, k1, k0, by rw [upd_ne r1]; exact k2⟩)
  by_cases hc : 16 ≤ s.stack.length
  · have e2 : x2.err = 12 := by rw [← hx2]; simp [Wx.push, hc, Wx.fail]
    have eg : gotF s pid = (sta0, 12) := if_pos hc
    rw [eg]
    simp [aload, afield, apart, hb4, workC, e2]
    refine drawK.intro mixed [(0, []), (1, []), (2, []), (3, []), (4, []), (5, [4]), (6, [])] (by kernel_rfl) ?_
    simp [aload, afield, apart, hb4, workC, e2, v1, astore, upd_apply, lk_some, chkK, abuild, aplace, afillP, hg1]
    exact resK.rt ⟨.nils, .nils, rfl, Or.inr (Or.inl ⟨rfl, rfl⟩), Or.inr (Or.inl ⟨rfl, rfl⟩), fun r hr => by rw [upd_ne (by omega)]; exact old r hr, by omega⟩
  · have e2 : x2.err = 0 := by rw [← hx2]; simp [Wx.push, hc]
    have e3 : x2.s = { s with stack := s.stack ++ [pid] } := by rw [← hx2]; simp [Wx.push, hc]
    have eg : gotF s pid = (x2.s, 0) := by rw [e3]; exact if_neg hc
    rw [eg]
    simp [aload, afield, apart, hb4, workC, e2, v1, astore, upd_apply]
    exact resK.rt ⟨_, _, rfl, kp _ _ _ s2, kp _ _ _ s3, fun r hr => by rw [upd_ne (by omega)]; exact old r hr, by omega⟩

def readyF (m : List Actr) (s : Sta) (now : Int) (box : List (Int × Int)) : Bool :=
  if soundF m s = false then false else if s.waiting = false then true else (matchF (tbl (actr m s.actor) (ins (actr m s.actor) s.pc).2).cls box 0).2.2 || dueF s.till now
theorem ready_ac (m : List Actr) (s : Sta) (now : Int) (box : List (Int × Int)) (η : AHeap) (n : Nat) {sv rv : AVal} {η0 : AHeap} (k1 : IsL η0 sv s.stack) (k2 : IsL η0 rv s.regs) (hm : ModOK m) (hb : box.length ≤ 17592186044416) :
    AC Tryz.prog 96 [modV m, .agg (stC s sv rv), .int .i64 now, .rs 2 (pairs box)] η n (Rt (.bool (readyF m s now box)) η n) := by
  refine AC.pure (.bool _) ?_
  have hs := fun η n => sound_ac m s η n k1 k2
  have zs1 := k1.sc
  have zs2 := k2.sc
  have zd1 := k1.ac
  have zd2 := k2.ac
  simp only [modV, stC] at hs ⊢
  have le2 : ∀ (hf : ∀ r, n ≤ r → η r = none) o1 o2, η.le (upd (upd η n o1) (n + 1) o2) := fun hf _ _ => by simp [le_upd_iff, hf n (Nat.le_refl _), hf (n + 1) (by omega)]
  cases h : soundF m s with
  | false =>
    have e : readyF m s now box = false := by simp [readyF, h]
    rw [e]
    simp only [h] at hs
    refine AC.fresh fun hf => ?_; refine AC.enter Tryz.func96 rfl Tryz.ntmps96 (by simp) ?_
    simp [zs1, zs2, aload, apart, upd_apply, Nat.add_assoc]
    refine ACK.rt (hs _ _) ?_
    simp [zs1, zs2, aload, apart, upd_apply]
    refine ACK.rt (hs _ _) ?_
    simp
    exact resK.of (η' := η) (le2 hf _ _) _ (Nat.le_refl _) ⟨rfl, rfl⟩
  | true =>
    simp only [h] at hs
    have hd := h
    simp only [soundF, decide_eq_true_eq] at hd
    obtain ⟨p1, p2, p3, p4, p5, p6, p7⟩ := hd
    cases hw : s.waiting with
    | false =>
      have e : readyF m s now box = true := by simp [readyF, h, hw]
      rw [e]
      rw [hw] at hs
      refine AC.fresh fun hf => ?_; refine AC.enter Tryz.func96 rfl Tryz.ntmps96 (by simp) ?_
      simp [zs1, zs2, aload, apart, upd_apply, Nat.add_assoc]
      refine ACK.rt (hs _ _) ?_
      simp [zs1, zs2, aload, afield, apart, upd_apply]
      refine ACK.rt (hs _ _) ?_
      simp
      exact resK.of (η' := η) (le2 hf _ _) _ (Nat.le_refl _) ⟨rfl, rfl⟩
    | true =>
      obtain ⟨_, t1, t2⟩ := p7 hw
      rw [hw] at hs
      have q1 : s.actor.toNat < m.length := by omega
      obtain ⟨A, hA⟩ : ∃ A, m[s.actor.toNat]'q1 = A := ⟨_, rfl⟩
      have hA2 : actr m s.actor = A := by rw [actr, List.getD_eq_getElem?_getD, List.getElem?_eq_getElem q1, hA]; rfl
      have hAm : A ∈ m := by rw [← hA]; exact List.getElem_mem ..
      rw [hA2] at p4 t1 t2
      have q2 : s.pc.toNat < A.code.length := by omega
      obtain ⟨I, hI⟩ : ∃ I, A.code[s.pc.toNat]'q2 = I := ⟨_, rfl⟩
      have hI2 : ins A s.pc = I := by rw [ins, List.getD_eq_getElem?_getD, List.getElem?_eq_getElem q2, hI]; rfl
      rw [hI2] at t1 t2
      have q3 : I.2.toNat < A.tabs.length := by omega
      obtain ⟨T, hT⟩ : ∃ T, A.tabs[I.2.toNat]'q3 = T := ⟨_, rfl⟩
      have hT2 : tbl A I.2 = T := by rw [tbl, List.getD_eq_getElem?_getD, List.getElem?_eq_getElem q3, hT]; rfl
      have hTm : T ∈ A.tabs := by rw [← hT]; exact List.getElem_mem ..
      have e : readyF m s now box = ((matchF T.cls box 0).2.2 || dueF s.till now) := by simp [readyF, h, hw, hA2, hI2, hT2]
      rw [e]
      have hmt := fun η n => match_ac T box η n (hm.cls A hAm T hTm) hb
      simp only [tblC] at hmt
      have le4 : ∀ (hf : ∀ r, n ≤ r → η r = none) o1 o2 o3, η.le (upd (upd (upd η n o1) (n + 1) o2) (n + 2) o3) := fun hf _ _ _ => by simp [le_upd_iff, hf n (Nat.le_refl _), hf (n + 1) (by omega), hf (n + 2) (by omega)]
      refine AC.fresh fun hf => ?_; refine AC.enter Tryz.func96 rfl Tryz.ntmps96 (by simp) ?_
      simp [zs1, zs2, aload, apart, upd_apply, Nat.add_assoc]
      refine ACK.rt (hs _ _) ?_
      simp [aload, afield, apart, upd_apply, Nat.add_assoc, aindex, p1, p2, hA, actC, astore, upd_upd]
      refine drawK.intro mixed [(0, []), (1, []), (2, []), (3, []), (4, []), (5, []), (6, []), (7, []), (8, []), (9, []), (10, []), (11, []), (12, []), (13, []), (14, []), (15, []), (16, []), (17, []), (18, []), (19, [])] (by kernel_rfl) ?_
      simp [aload, afield, apart, upd_apply, aindex, p3, p4, hI, t1, t2, hT, tblC]
      refine ACK.rt (hmt _ _) ?_
      simp
      have le3 : ∀ o1 o2 o3 o4, η.le (upd (upd (upd (upd η n o1) (n + 1) o2) (n + 2) o3) (n + 2) o4) := fun _ _ _ _ => by simp [le_upd_iff, hf n (Nat.le_refl _), hf (n + 1) (by omega), hf (n + 2) (by omega)]
      refine CondP.intro (fun h4 => ?_) (fun h4 => ?_)
      · simp [h4]
        exact resK.of (η' := η) (by first | exact le3 _ _ _ _ | exact le4 hf _ _ _) _ (Nat.le_refl _) ⟨by simp [h4], rfl⟩
      · simp [h4, aload, afield, apart, upd_apply]
        refine ACK.rt (due_ac _ _ _ _) ?_
        simp
        exact resK.of (η' := η) (by first | exact le3 _ _ _ _ | exact le4 hf _ _ _) _ (Nat.le_refl _) ⟨by simp [h4], rfl⟩
end Go.Proofs.YtbomkomipaipmaaGreat
namespace Go.Proofs.YtbomkomipaipmaaGreat
set_option maxRecDepth 100000

theorem Ent.mod {X : List (List AVal)} {m : List Actr} (h : EntR X (actsC m)) : Ent (.agg [.rs 5 X]) (modV m) := Ent.agg ⟨Ent.rs h, trivial⟩ rfl
end Go.Proofs.YtbomkomipaipmaaGreat
namespace Go.Proofs.YtbomkomipaipmaaGreat
set_option maxRecDepth 100000

theorem sameLongs_ac {η : AHeap} {n : Nat} {v1 v2 : AVal} {l1 l2 : List Int} (h1 : IsL η v1 l1) (h2 : IsL η v2 l2) (hl : l1.length ≤ 17592186044416) : AC Tryz.prog 21 [v1, v2] η n (Rt (.bool (decide (l1 = l2))) η n) := by
  have z1 : ∀ η', alenT Tryz.prog 34 v1 η' = some (l1.length : Int) := h1.len (by simp)
  have z2 : ∀ η', alenT Tryz.prog 34 v2 η' = some (l2.length : Int) := h2.len (by simp)
  by_cases hn : l1.length = l2.length
  · have hn' : (l1.length : Int) = l2.length := by omega
    refine AC.enter Tryz.func21 rfl Tryz.ntmps21 (by simp) ?_
    simp [z1, z2, hn']
    refine loopK.inv [4, 5, 11, 12, 13, 14, 15, 16, 17, 18, 19, 20, 21, 22, 23, 24, 25] (fun k : Nat => k ≤ l1.length ∧ (l1.drop k = l2.drop k ↔ l1 = l2)) (fun k => [(5, .int .i64 k)]) (fun _ => η) (fun _ => n) (fun k => l1.length - k) 0 (by simp) (by simp) (by simp) (by simp) ?_
    intro k ⟨g1, g2⟩
    simp [z1]
    refine CondP.dec (fun h => ?_) (fun h => ?_)
    · have h' : k < l1.length := by omega
      obtain ⟨p1, a1, a2⟩ := h1.idx (P := Tryz.prog) (t := 34) (e := 2) (by simp) (by simp) (by simp) h'
      obtain ⟨p2, b1, b2⟩ := h2.idx (P := Tryz.prog) (t := 34) (e := 2) (by simp) (by simp) (by simp) (hn ▸ h' : k < l2.length)
      simp [h]
      refine drawK.intro mixed [(0, []), (1, []), (2, []), (3, []), (4, []), (5, []), (6, []), (7, []), (8, [])] (by kernel_rfl) ?_
      simp [a1, a2, b1, b2]
      refine CondP.ndec (fun h4 => ?_) (fun h4 => ?_)
      · simp [h4]
        rw [wrap_id (by omega) (by omega)]
        exact endK.intro (k + 1) ⟨by omega, (drop_eq_iff hn h' h4).symm.trans g2⟩ (by simp) (by repeat (first | exact Agree.mask _ _ | refine Agree.setf rfl ?_ | refine Agree.inner rfl ?_)) (AHeap.le_rfl _) (Nat.le_refl _) (show l1.length - (k + 1) < l1.length - k by omega)
      · simp [h4]
        refine resK.rt ⟨?_, rfl, rfl⟩
        have : ¬ l1 = l2 := fun e => h4 (by subst e; rfl)
        simp [this]
    · simp [h]
      refine resK.rt ⟨?_, rfl, rfl⟩
      have : l1 = l2 := g2.1 (by rw [List.drop_eq_nil_of_le (by omega), List.drop_eq_nil_of_le (by omega)])
      simp [this]
  · have hn' : ¬ (l1.length : Int) = l2.length := by omega
    refine AC.enter Tryz.func21 rfl Tryz.ntmps21 (by simp) ?_
    simp [z1, z2, hn']
    refine resK.rt ⟨?_, rfl, rfl⟩
    have : ¬ l1 = l2 := fun e => hn (by rw [e])
    simp [this]
end Go.Proofs.YtbomkomipaipmaaGreat
namespace Go.Proofs.YtbomkomipaipmaaGreat

section
variable {P : Program}
theorem part_int {t : TypeId} {k : IntKind} (h : P.underlying t = some (.int k)) (A : Array Value) (j : Nat) (v : Value) (hv : A[j]? = some v) (w : World) : (part t A j).run P w = .ok v w := by
  unfold part isAgg
  simp only [Sem.run_bind, run_underlying h w, Result.andThen_ok]
  simp [hv]
theorem eqFields_ints (w : World) (d : Nat) (A B : Array Value) : ∀ (fs : List Field) (o : Nat) (xs ys : List Int), (∀ (i : Nat) (f : Field), fs[i]? = some f → f.name ≠ "_" ∧ f.offset = o + i ∧ ∃ k, P.underlying f.type = some (.int k)) → xs.length = fs.length → ys.length = fs.length →
    (∀ (i : Nat) (x : Int), xs[i]? = some x → A[o + i]? = some (.int .i64 x)) → (∀ (i : Nat) (x : Int), ys[i]? = some x → B[o + i]? = some (.int .i64 x)) → (Op.eqFields (d + 1) A B fs).run P w = .ok (decide (xs = ys)) w
  | [], o, xs, ys, _, h1, h2, _, _ => by
    have e1 : xs = [] := List.eq_nil_of_length_eq_zero h1
    have e2 : ys = [] := List.eq_nil_of_length_eq_zero h2
    subst e1 e2
    simp [Op.eqFields]
  | f :: fs, o, x :: xs, y :: ys, hf, h1, h2, hA, hB => by
    obtain ⟨g1, g2, k, g3⟩ := hf 0 f rfl
    have ea := hA 0 x rfl
    have eb := hB 0 y rfl
    have ih := eqFields_ints w d A B fs (o + 1) xs ys (fun i f hi => by
      obtain ⟨q1, q2, q3⟩ := hf (i + 1) f (by simpa using hi)
      exact ⟨q1, by omega, q3⟩) (by simpa using h1) (by simpa using h2) (fun i x hi => by have := hA (i + 1) x (by simpa using hi); rw [← this]; congr 1; omega) (fun i x hi => by have := hB (i + 1) x (by simpa using hi); rw [← this]; congr 1; omega)
    simp only [Op.eqFields]
    rw [if_pos g1]
    simp only [Sem.run_bind, part_int g3 A f.offset _ (by rw [g2]; exact ea) w, part_int g3 B f.offset _ (by rw [g2]; exact eb) w, Result.andThen_ok, run_equalIn_int w d f.type .i64 k x y g3]
    by_cases h : x = y
    · subst h; simp [ih]
    · simp [h]
  | f :: fs, o, [], _, _, h1, _, _, _ => by simp at h1
  | f :: fs, o, _ :: _, [], _, _, h2, _, _ => by simp at h2
def intFields (P : Program) (t : TypeId) (n : Nat) : Bool :=
  match P.underlying t with
  | some (.struct fs) => fs.size == n && (List.range n).all (fun i => match fs[i]? with
    | some f => f.name != "_" && f.offset == i && (match P.underlying f.type with
      | some (.int _) => true
      | _ => false)
    | none => false) && !(P.eqGuardType P.depth t) && !(P.stoodInHeld t)
  | _ => false
theorem vr_ints {A : Array Value} {xs : List Int} (h : ∀ own M, VR own M (.agg (xs.map (.int .i64))) (.agg A)) : A.size = xs.length ∧ ∀ (i : Nat) (x : Int), xs[i]? = some x → A[i]? = some (.int .i64 x) := by
  cases h (fun _ => none) (fun _ => none) with
  | agg _ _ hA _ hc =>
  simp at hA
  refine ⟨hA, fun i x hi => ?_⟩
  have := hc i (.int .i64 x) (by simp [hi])
  have hil := (List.getElem?_eq_some_iff.1 hi).1
  rw [Array.getElem?_eq_getElem (by omega)]
  rw [Array.getD_eq_getD_getElem?, Array.getElem?_eq_getElem (by omega)] at this
  simp only [Option.getD_some] at this
  generalize A[i] = v at *
  cases this; rfl
theorem SEq.ints {t : TypeId} (xs ys : List Int) (h : intFields P t xs.length = true) (hl : ys.length = xs.length) : SEq P t (xs.map (.int .i64)) (ys.map (.int .i64)) (decide (xs = ys)) := by
  intro A B w hA hB x y
  obtain ⟨a1, a2⟩ := vr_ints hA
  obtain ⟨b1, b2⟩ := vr_ints hB
  unfold intFields at h
  split at h
  · rename_i fs hu
    simp only [Bool.and_eq_true, Bool.not_eq_true', beq_iff_eq] at h
    obtain ⟨⟨⟨h1, h2⟩, h3⟩, h4⟩ := h
    constructor
    · unfold eqGuard
      simp [Sem.run_bind, run_program, h3]
    · have hf : P.fieldsOf t = fs := by unfold Program.fieldsOf; rw [hu]
      have hd : Op.maxDepth = (Op.maxDepth - 2) + 1 + 1 := rfl
      unfold Op.equal
      rw [hd, run_equalIn_struct w _ t A B (by rw [hf]; exact hu) h4, hf]
      refine eqFields_ints w _ A B fs.toList 0 xs ys (fun i f hi => ?_) (by simp [h1]) (by simp [h1, hl]) (fun i x hi => by rw [Nat.zero_add]; exact a2 i x hi) (fun i x hi => by rw [Nat.zero_add]; exact b2 i x hi)
      have hi' : fs[i]? = some f := by simpa using hi
      have hil := (Array.getElem?_eq_some_iff.1 hi').1
      have := List.all_eq_true.1 h2 i (List.mem_range.2 (by omega))
      rw [hi'] at this
      simp only [Bool.and_eq_true, bne_iff_ne, ne_eq, beq_iff_eq] at this
      obtain ⟨⟨q1, q2⟩, q3⟩ := this
      refine ⟨q1, by omega, ?_⟩
      split at q3
      · rename_i k hk; exact ⟨k, hk⟩
      · cases q3
  · cases h
theorem aeqS_ints {t : TypeId} (xs ys : List Int) (h : intFields P t xs.length = true) (hl : ys.length = xs.length) : aeqS P t (xs.map (.int .i64)) (ys.map (.int .i64)) = some (decide (xs = ys)) := by
  have hx : ∀ zs : List Int, ∃ A, ∀ own M, VR own M (.agg (zs.map (.int .i64))) (.agg A) := fun zs => by
    refine ⟨(zs.map (Value.int .i64)).toArray, fun own M => .agg _ _ (by simp) (fun c hc => ?_) fun i c hi => ?_⟩
    · obtain ⟨z, _, rfl⟩ := List.mem_map.1 hc; rfl
    · rw [List.getElem?_map] at hi
      cases hz : zs[i]? with
      | none => rw [hz] at hi; simp at hi
      | some z => rw [hz] at hi; simp at hi; subst hi; simp [Array.getD_eq_getD_getElem?, hz]; exact .int .i64 z
  refine aeqS_of P ?_ (SEq.ints xs ys h hl) (hx xs) (hx ys)
  simp [isPlain]
theorem aeqS2 {t : TypeId} (h : intFields P t 2 = true) (x0 x1 y0 y1 : Int) : aeqS P t [.int .i64 x0, .int .i64 x1] [.int .i64 y0, .int .i64 y1] = some (decide (x0 = y0 ∧ x1 = y1)) := by
  have := aeqS_ints (P := P) (t := t) [x0, x1] [y0, y1] h rfl
  simpa using this
end
theorem fields_reason : intFields Tryz.prog 48 2 = true := by kernel_rfl
end Go.Proofs.YtbomkomipaipmaaGreat
namespace Go.Proofs.YtbomkomipaipmaaGreat
set_option maxRecDepth 100000

def rightT (t n : Int) : Bool := decide (t = 1 ∨ t = 2 ∨ (16 ≤ t ∧ t < 16 + min (max n 0) 8))
theorem kright_ac (t n : Int) (η : AHeap) (m : Nat) : AC Tryz.prog 240 [.int .i64 t, .int .i64 n] η m (Rt (.bool (rightT t n)) η m) := by
  have e : IntKind.i64.wrap (16 + min (max n 0) 8) = 16 + min (max n 0) 8 := wrap_id (by omega) (by omega)
  refine AC.enter Tryz.func240 rfl Tryz.ntmps240 (by simp) ?_
  simp
  refine CondP.dec (fun h1 => ?_) (fun h1 => ?_)
  · simp [h1]

    exact resK.rt ⟨by simp [rightT, h1], rfl, rfl⟩
  simp [h1]
  refine CondP.dec (fun h2 => ?_) (fun h2 => ?_)
  · simp [h2]
    exact resK.rt ⟨by simp [rightT, h2], rfl, rfl⟩
  simp [h2]
  refine CondP.dec (fun h3 => ?_) (fun h3 => ?_)
  · simp [h3, e]
    exact resK.rt ⟨by simp [rightT, h1, h2, h3], rfl, rfl⟩
  · simp [h3]
    exact resK.rt ⟨by simp [rightT, h1, h2, h3], rfl, rfl⟩
def actT (t : Int) : Int × Bool := if rightT t 8 = true ∧ 16 ≤ t then (t - 16, true) else (0, false)
theorem kactor_ac (t : Int) (η : AHeap) (m : Nat) (ht : I64 t) : AC Tryz.prog 250 [.int .i64 t] η m (Rt (.tup [.int .i64 (actT t).1, .bool (actT t).2]) η m) := by
  unfold I64 at ht
  refine AC.enter Tryz.func250 rfl Tryz.ntmps250 (by simp) ?_
  simp
  refine CondP.dec (fun h1 => ?_) (fun h1 => ?_)
  · simp [h1]
    have : ¬ (16 : Int) ≤ t := by omega
    exact resK.rt ⟨by simp [actT, this], rfl, rfl⟩
  · have h1' : (16 : Int) ≤ t := by omega
    have e : IntKind.i64.wrap (t - 16) = t - 16 := wrap_id (by omega) (by omega)
    simp [h1]
    refine ACK.rt (kright_ac _ _ _ _) ?_
    cases h2 : rightT t 8
    · simp
      exact resK.rt ⟨by simp [actT, h2], rfl, rfl⟩
    · simp [e]
      exact resK.rt ⟨by simp [actT, h2, h1'], rfl, rfl⟩
theorem right02_ac (t n : Int) (η : AHeap) (m : Nat) : AC Tryz.prog 237 [.int .i64 t, .int .i64 n] η m (Rt (.bool (rightT t n)) η m) := by
  refine AC.enter Tryz.func237 rfl Tryz.ntmps237 (by simp) ?_
  simp
  refine CondP.dec (fun h1 => ?_) (fun h1 => ?_)
  · simp [h1]
    exact resK.rt ⟨by simp [rightT, h1], rfl, rfl⟩
  simp [h1]
  refine CondP.dec (fun h2 => ?_) (fun h2 => ?_)
  · simp [h2]
    exact resK.rt ⟨by simp [rightT, h2], rfl, rfl⟩
  simp [h2]
  refine loopK.inv [4, 5, 12, 13, 14, 15, 16, 17, 18, 19, 20, 21, 22, 23, 24] (fun k : Nat => k ≤ 8 ∧ (k : Int) ≤ max n 0 ∧ ¬ (16 ≤ t ∧ t < 16 + k)) (fun k => [(5, .int .i64 k)]) (fun _ => η) (fun _ => m) (fun k => 8 - k) 0 (by simp; omega) (by simp) (by simp) (Nat.le_refl _) ?_
  intro k ⟨g1, g2, g3⟩
  simp
  have e : IntKind.i64.wrap (16 + (k : Int)) = 16 + k := wrap_id (by omega) (by omega)
  have e' : IntKind.i64.wrap ((k : Int) + 1) = k + 1 := wrap_id (by omega) (by omega)
  refine CondP.dec (fun h3 => ?_) (fun h3 => ?_)
  · simp [h3]
    refine CondP.dec (fun h4 => ?_) (fun h4 => ?_)
    · simp [h4, e]
      refine CondP.dec (fun h5 => ?_) (fun h5 => ?_)
      · simp [h5]
        refine resK.rt ⟨?_, rfl, rfl⟩
        have : rightT t n = true := by simp only [rightT, decide_eq_true_eq]; omega
        simp [this]
      · simp [h5, e']
        exact endK.intro (k + 1) ⟨by omega, by omega, by omega⟩ (by simp) (by repeat (first | exact Agree.mask _ _ | refine Agree.setf rfl ?_ | refine Agree.inner rfl ?_)) (AHeap.le_rfl _) (Nat.le_refl _) (show 8 - (k + 1) < 8 - k by omega)
    · simp [h4]
      refine resK.rt ⟨?_, rfl, rfl⟩
      have : rightT t n = false := by simp only [rightT, decide_eq_false_iff_not]; omega
      simp [this]
  · simp [h3]
    refine resK.rt ⟨?_, rfl, rfl⟩
    have : rightT t n = false := by simp only [rightT, decide_eq_false_iff_not]; omega
    simp [this]
def countI (op : Int) : Int := if op = 4 ∨ op = 5 then 16 else if op = 16 ∨ op = 17 then 200 else if op = 19 then 8 else if op = 20 then 8 else if op = 21 then 8 else 0
theorem icount_ac (op : Int) (η : AHeap) (m : Nat) : AC Tryz.prog 244 [.int .i64 op] η m (Rt (.int .i64 (countI op)) η m) := by
  refine AC.enter Tryz.func244 rfl Tryz.ntmps244 (by simp) ?_
  simp
  repeat' (refine CondP.dec (fun h => ?_) (fun h => ?_) <;> simp [h])
  all_goals exact resK.rt ⟨by simp [countI, *], rfl, rfl⟩
theorem ihas_ac (op : Int) (η : AHeap) (m : Nat) : AC Tryz.prog 243 [.int .i64 op] η m (Rt (.bool (decide (op = 1 ∨ 0 < countI op))) η m) := by
  refine AC.enter Tryz.func243 rfl Tryz.ntmps243 (by simp) ?_
  simp
  refine CondP.dec (fun h => ?_) (fun h => ?_)
  · simp [h]
    exact resK.rt ⟨by simp [h], rfl, rfl⟩
  · simp [h]
    refine ACK.rt (icount_ac _ _ _) ?_
    simp
    exact resK.rt ⟨by simp [h], rfl, rfl⟩
def rightI (i : Int × Int) : Bool := decide (0 ≤ i.1 ∧ i.1 ≤ 26 ∧ (i.1 = 1 ∨ (countI i.1 = 0 ∧ i.2 = 0) ∨ (0 < countI i.1 ∧ 0 ≤ i.2 ∧ i.2 < countI i.1)))
theorem iright_ac (i : Int × Int) (η : AHeap) (m : Nat) : AC Tryz.prog 184 [.agg [.int .i64 i.1, .int .i64 i.2]] η m (Rt (.bool (rightI i)) η m) := by
  obtain ⟨op, a⟩ := i
  refine AC.pure (.bool _) ?_
  have hc : 0 ≤ countI op := by unfold countI; repeat' split
                                all_goals omega
  refine AC.fresh fun hf => ?_; refine AC.enter Tryz.func184 rfl Tryz.ntmps184 (by simp) ?_
  have le1 : ∀ o, η.le (upd η m o) := fun o => le_upd (AHeap.le_rfl _) (hf m (Nat.le_refl _))
  simp [aload, afield, apart, upd_eq]
  refine CondP.dec (fun h1 => ?_) (fun h1 => ?_)
  · simp [h1]
    have : ¬ 0 ≤ op := by omega
    exact resK.of (η' := η) (le1 _) _ (Nat.le_refl _) (by simp [rightI, this])
  simp [h1, aload, afield, apart, upd_eq]
  refine CondP.dec (fun h2 => ?_) (fun h2 => ?_)
  · simp [h2]
    have : ¬ op ≤ 26 := by omega
    exact resK.of (η' := η) (le1 _) _ (Nat.le_refl _) (by simp [rightI, this])
  have hr : 0 ≤ op ∧ op ≤ 26 := by omega
  simp [h2, aload, afield, apart, upd_eq]
  refine CondP.dec (fun h3 => ?_) (fun h3 => ?_)
  · simp [h3]
    exact resK.of (η' := η) (le1 _) _ (Nat.le_refl _) (by simp [rightI, h3])
  simp [h3, aload, afield, apart, upd_eq]
  refine ACK.rt (ihas_ac _ _ _) ?_
  by_cases h4 : 0 < countI op
  · simp [h3, h4]
    refine drawK.intro mixed [(0, []), (1, []), (2, []), (3, []), (4, []), (5, []), (6, []), (7, []), (8, [5]), (9, []), (10, []), (11, [])] (by kernel_rfl) ?_
    simp [aload, afield, apart, upd_eq]
    refine CondP.dec (fun h5 => ?_) (fun h5 => ?_)
    · simp [h5, aload, afield, apart, upd_eq]
      refine ACK.rt (icount_ac _ _ _) ?_
      simp [lk_some, chkK, upd_eq]
      refine resK.of (η' := η) (le1 _) _ (Nat.le_refl _) ⟨?_, rfl⟩
      have : rightI (op, a) = decide (a < countI op) := by
        simp only [rightI]; exact decide_eq_decide.2 (by omega)
      simp [this]
    · simp [h5]
      refine resK.of (η' := η) (le1 _) _ (Nat.le_refl _) ⟨?_, rfl⟩
      have : rightI (op, a) = false := by
        simp only [rightI, decide_eq_false_iff_not]; omega
      simp [this]
  · simp [h3, h4, aload, afield, apart, upd_eq]
    refine resK.of (η' := η) (le1 _) _ (Nat.le_refl _) ⟨?_, rfl⟩
    have : rightI (op, a) = decide (a = 0) := by
      simp only [rightI]; exact decide_eq_decide.2 (by omega)
    simp [this]
end Go.Proofs.YtbomkomipaipmaaGreat
namespace Go.Proofs.YtbomkomipaipmaaGreat
set_option maxRecDepth 100000

/-- a list in the heap as it was, and nothing turned -/
def PL (η : AHeap) (n : Nat) (l : List Int) : AVal → AHeap → Nat → Prop := fun r η' n' => IsL η r l ∧ η' = η ∧ n' = n
theorem IsL.nq {η : AHeap} {v : AVal} {l : List Int} (h : IsL η v l) : NQ η v := by
  rcases h with rfl | ⟨rfl, _⟩ | ⟨r, o, I, J, rfl, _, hr⟩
  · refine .rs _ _ fun row hr c hc => ?_
    simp [ints] at hr
    obtain ⟨x, _, rfl⟩ := hr
    simp at hc; subst hc; exact .int _ _
  · exact .nils
  · exact .sl _ _ _ (by rw [hr]; simp)
theorem ints_gnd (n : Nat) (η : AHeap) (fu : Nat) (l : List Int) : (ints l).map (fun row => row.map (gnd n η fu)) = ints l := by
  simp [ints]
/-- a list that a function hands back, whatever it made -/
theorem IsL.gnd {η η' : AHeap} {n : Nat} {v : AVal} {l : List Int} (h : IsL η' v l) (hk : ∀ r, r < n → η' r = η r) (hl : l.length ≤ lenMax) (fu : Nat) : IsL η (gnd n η' (fu + 1) v) l := by
  rcases h with rfl | ⟨rfl, rfl⟩ | ⟨r, o, I, J, rfl, ho, hr⟩
  · exact Or.inl (by simp)
  · exact Or.inr (Or.inl ⟨by simp, rfl⟩)
  · rcases Nat.lt_or_ge r n with g | g
    · rw [gnd_old _ _ g]
      exact Or.inr (Or.inr ⟨r, o, I, J, rfl, ho, by rw [← hk r g]; exact hr⟩)
    · rw [gnd_new g hr (by rw [ints_length]; simp; omega) hl]
      refine Or.inl ?_
      rw [ho, take_ints, ints_gnd]
theorem AC.list {P : Program} {f : FuncId} {args : List AVal} {η : AHeap} {n : Nat} {l : List Int} (hl : l.length ≤ lenMax) (h : AC P f args η n fun r η' _ => IsL η' r l ∧ ∀ x, x < n → η' x = η x) : AC P f args η n (PL η n l) :=
  (AC.ground (R := fun v => IsL η v l) 1 (h.mono fun _ _ _ ⟨h1, h2⟩ => ⟨h2, _, Ent.refl _, h1.gnd h2 hl 0⟩) fun _ hv => hv.nq).mono fun _ _ _ h => h

theorem cloneT_ac {η : AHeap} {n : Nat} {v : AVal} {l : List Int} (h : IsL η v l) (hl : l.length ≤ 17592186044416) : AC Tryz.prog 86 [v] η n (NewL η n l) := by
  refine AC.nilOwn 1 (by decide) ?_
  have fin : ∀ n' η', n ≤ n' → (∀ r, r < n → η' r = η r) → l = [] → NewL η n l (.sl n' 0 0) (upd η' n' (some (.cells 1 []))) (n' + 1) := fun n' η' h1 h2 h3 => by
    subst h3
    exact ⟨n', rfl, by rw [upd_eq]; rfl, h1, by omega, fun r hr => by rw [upd_ne (by omega)]; exact h2 r hr⟩
  have fin2 : ∀ o1 o2, NewL η n l (.sl (n + 1) 0 l.length) (upd (upd (upd η n o1) n o2) (n + 1) (some (.cells 1 (ints l)))) (n + 1 + 1) := fun _ _ => ⟨n + 1, rfl, upd_eq .., by omega, by omega, fun r hr => by rw [upd_ne (by omega), upd_ne (by omega), upd_ne (by omega)]⟩
  have hfl := ints_len l
  have hnil : ints l = [] → l = [] := fun h => by simpa [ints] using h
  rcases h with rfl | ⟨rfl, rfl⟩ | ⟨r, o, I, J, rfl, ho, hr⟩
  · refine AC.enter Tryz.func86 rfl Tryz.ntmps86 (by simp) ?_
    simp [nilcmp, anil, abuildS, afillP, chunk, appK, aappend, arows, hfl, tek, upd_eq, lenMax, hl]
    exact ⟨⟨ints_sc, by omega, resK.rt (Or.inl (fin2 _ _))⟩, fun e => resK.rt (Or.inr ⟨rfl, fin _ _ (Nat.le_refl _) (fun _ _ => rfl) (hnil e)⟩)⟩
  · refine AC.enter Tryz.func86 rfl Tryz.ntmps86 (by simp) ?_
    simp
    exact resK.rt (Or.inr ⟨rfl, fin _ _ (Nat.le_refl _) (fun _ _ => rfl) rfl⟩)
  · have ht := take_ints I l J
    rw [← ho] at ht
    have hlen : o + l.length ≤ I.length + (l.length + J.length) := by omega
    refine AC.fresh fun hf => ?_
    have hrn : r ≠ n := fun e => by have := hf r (by omega); rw [hr] at this; cases this
    refine AC.enter Tryz.func86 rfl Tryz.ntmps86 (by simp) ?_
    simp [nilcmp, anil, abuildS, afillP, chunk, appK, aappend, arows, upd_ne hrn, hr, ht, hlen, hfl, tek, upd_eq, lenMax, hl]
    exact ⟨⟨ints_sc, by omega, resK.rt (Or.inl (fin2 _ _))⟩, fun e => resK.rt (Or.inr ⟨rfl, fin _ _ (Nat.le_refl _) (fun _ _ => rfl) e⟩)⟩
theorem equalT_ac {η : AHeap} {n : Nat} {v1 v2 : AVal} {l1 l2 : List Int} (h1 : IsL η v1 l1) (h2 : IsL η v2 l2) (hl : l1.length ≤ 17592186044416) : AC Tryz.prog 247 [v1, v2] η n (Rt (.bool (decide (l1 = l2))) η n) := by
  have z1 : ∀ η', alenT Tryz.prog 69 v1 η' = some (l1.length : Int) := h1.len (by simp)
  have z2 : ∀ η', alenT Tryz.prog 69 v2 η' = some (l2.length : Int) := h2.len (by simp)
  by_cases hn : l1.length = l2.length
  · have hn' : (l1.length : Int) = l2.length := by omega
    refine AC.enter Tryz.func247 rfl Tryz.ntmps247 (by simp) ?_
    simp [z1, z2, hn']
    refine loopK.inv [4, 5, 13, 14, 15, 16, 17, 18, 19, 20, 21, 22, 23, 24, 25] (fun k : Nat => k ≤ l1.length ∧ (l1.drop k = l2.drop k ↔ l1 = l2)) (fun k => [(13, .int .i64 k)]) (fun _ => η) (fun _ => n) (fun k => l1.length - k) 0 (by simp) (by simp) (by simp) (Nat.le_refl _) ?_
    intro k ⟨g1, g2⟩
    simp
    refine CondP.dec (fun h => ?_) (fun h => ?_)
    · have h' : k < l1.length := by omega
      obtain ⟨p1, a1, a2⟩ := h1.idx (P := Tryz.prog) (t := 69) (e := 164) (by simp) (by simp) (by simp) h'
      obtain ⟨p2, b1, b2⟩ := h2.idx (P := Tryz.prog) (t := 69) (e := 164) (by simp) (by simp) (by simp) (hn ▸ h' : k < l2.length)
      simp [h]
      refine drawK.intro mixed [(0, []), (1, []), (2, []), (3, []), (4, []), (5, []), (6, []), (7, []), (8, [])] (by kernel_rfl) ?_
      simp [a1, a2, b1, b2]
      refine CondP.ndec (fun h4 => ?_) (fun h4 => ?_)
      · simp [h4]
        rw [wrap_id (by omega) (by omega)]
        exact endK.intro (k + 1) ⟨by omega, (drop_eq_iff hn h' h4).symm.trans g2⟩ (by simp) (by repeat (first | exact Agree.mask _ _ | refine Agree.setf rfl ?_ | refine Agree.inner rfl ?_)) (AHeap.le_rfl _) (Nat.le_refl _) (show l1.length - (k + 1) < l1.length - k by omega)
      · simp [h4]
        refine resK.rt ⟨?_, rfl, rfl⟩
        have : ¬ l1 = l2 := fun e => h4 (by subst e; rfl)
        simp [this]
    · simp [h]
      refine resK.rt ⟨?_, rfl, rfl⟩
      have : l1 = l2 := g2.1 (by rw [List.drop_eq_nil_of_le (by omega), List.drop_eq_nil_of_le (by omega)])
      simp [this]
  · have hn' : ¬ (l1.length : Int) = l2.length := by omega
    refine AC.enter Tryz.func247 rfl Tryz.ntmps247 (by simp) ?_
    simp [z1, z2, hn']
    refine resK.rt ⟨?_, rfl, rfl⟩
    have : ¬ l1 = l2 := fun e => hn (by rw [e])
    simp [this]
theorem ksame_ac {η : AHeap} {n : Nat} {v1 v2 : AVal} {l1 l2 : List Int} (h1 : IsL η v1 l1) (h2 : IsL η v2 l2) (hl : l1.length ≤ 17592186044416) : AC Tryz.prog 188 [v1, v2] η n (Rt (.bool (decide (l1 = l2))) η n) := by
  refine AC.enter Tryz.func188 rfl Tryz.ntmps188 (by simp) ?_
  simp
  refine ACK.rt (equalT_ac h1 h2 hl) ?_
  simp
  exact resK.rt ⟨rfl, rfl, rfl⟩
end Go.Proofs.YtbomkomipaipmaaGreat
namespace Go.Proofs.YtbomkomipaipmaaGreat
set_option maxRecDepth 100000

/-- a row that is being filled -/
def AccL (η : AHeap) (n : Nat) (v : AVal) (l : List Int) : Prop := (v = .nils ∧ l = []) ∨ ∃ r J, v = .sl r 0 l.length ∧ η r = some (.cells 1 (ints (l ++ J))) ∧ n ≤ r
theorem AccL.isL {η : AHeap} {n : Nat} {v : AVal} {l : List Int} (h : AccL η n v l) : IsL η v l := by
  rcases h with ⟨h1, h2⟩ | ⟨r, J, h1, h2, _⟩
  · exact Or.inr (Or.inl ⟨h1, h2⟩)
  · rw [h1]; exact IsL.own h2
/-- a list that a function has made, as read only -/
theorem AC.listNew {P : Program} {f : FuncId} {args : List AVal} {η : AHeap} {n : Nat} {l : List Int} (hl : l.length ≤ lenMax) (h : AC P f args η n fun r η' _ => AccL η' n r l ∧ ∀ x, x < n → η' x = η x) : AC P f args η n (Rt (.rs 1 (ints l)) η n) := by
  refine (AC.ground (R := fun v => v = .rs 1 (ints l)) 1 (h.mono fun v η' n' ⟨h1, h2⟩ => ⟨h2, _, ?_, rfl⟩) fun v hv => by subst hv; exact (IsL.nq (η := η) (Or.inl rfl))).mono fun v η' n' h => h
  rcases h1 with ⟨rfl, rfl⟩ | ⟨r, J, rfl, hr, hn⟩
  · simp [ints]
  · rw [gnd_new hn hr (by rw [ints_length]; simp) hl]
    have : (List.map (fun row => row.map (gnd n η' 0)) (List.take l.length (List.drop 0 (ints (l ++ J))))) = ints l := by
      rw [List.drop_zero]
      have : List.take l.length (ints (l ++ J)) = ints l := by simp [ints]
      rw [this, ints_gnd]
    rw [this]; exact Ent.refl _
theorem grow_ac (s : Nat) (η : AHeap) (n : Nat) (hs : s ≤ 17592186044415) : AC Tryz.prog 241 [.nils, .int .i64 s] η n (fun r η' n' => AccL η' n r [] ∧ (∀ x, x < n → η' x = η x) ∧ n ≤ n') := by
  have e0 : ¬ ((s : Int) < 0) := by omega
  have e1 : IntKind.i64.wrap (s : Int) = s := wrap_id (by omega) (by omega)
  have e2 : IntKind.i64.wrap (0 : Int) = 0 := wrap_id (by omega) (by omega)
  by_cases h0 : s = 0
  · subst h0
    refine AC.enter Tryz.func241 rfl Tryz.ntmps241 (by simp) ?_
    simp [acapT, e2]
    exact resK.rt ⟨Or.inl ⟨rfl, rfl⟩, fun _ _ => rfl, Nat.le_refl _⟩
  · have h1 : 0 < s := by omega
    have b1 : (s : Int) * 8 ≤ 140737488355328 := by omega
    have b2 : s ≤ 17592186044416 := by omega
    refine AC.enter Tryz.func241 rfl Tryz.ntmps241 (by simp) ?_
    simp [acapT, e0, e1, e2, h1, asliceV, abnd, appK, aappend, lenMax, b1, upd_eq]
    refine ⟨by omega, resK.rt ⟨Or.inr ⟨n, List.replicate s 0, rfl, ?_, Nat.le_refl _⟩, fun x hx => upd_ne (by omega), by omega⟩⟩
    rw [upd_eq]; simp [ints]
def lenS (ls : List (List Int)) (k : Nat) : Nat := (ls.take k).flatten.length
theorem lenS_step {ls : List (List Int)} {k : Nat} (h : k < ls.length) : lenS ls (k + 1) = lenS ls k + ls[k].length := by
  unfold lenS; rw [List.take_succ_eq_append_getElem h, List.flatten_append]; simp
theorem lenS_le (ls : List (List Int)) (k : Nat) : lenS ls k ≤ ls.flatten.length := by
  unfold lenS
  conv => rhs; rw [← List.take_append_drop k ls, List.flatten_append, List.length_append]
  omega
/-- a round of the filling -/
def Cat (η : AHeap) (n : Nat) (ls : List (List Int)) (N k : Nat) (v : AVal) (η' : AHeap) (n' : Nat) : Prop := k ≤ N ∧ AccL η' n v (ls.take k).flatten ∧ (∀ y, y < n → η' y = η y) ∧ n ≤ n' ∧ ∀ y, n' ≤ y → η' y = none
theorem concat_ac {η : AHeap} {n q : Nat} {vs : List AVal} {ls : List (List Int)} (hq : η q = some (.cells 1 (vs.map fun v => [v]))) (hv : vs.length = ls.length) (hi : ∀ i (h : i < vs.length) (h' : i < ls.length), IsL η vs[i] ls[i]) (hl : ls.flatten.length ≤ 17592186044415) (hvl : vs.length ≤ 17592186044415) :
    AC Tryz.prog 181 [.sl q 0 vs.length] η n (Rt (.rs 1 (ints ls.flatten)) η n) := by
  refine AC.listNew (by simp only [lenMax]; omega) ?_
  refine AC.fresh fun hf => ?_; refine AC.enter Tryz.func181 rfl Tryz.ntmps181 (by simp) ?_
  have hqn : q < n := by
    rcases Nat.lt_or_ge q n with h | h
    · exact h
    · rw [hf q h] at hq; cases hq
  have hrow : ∀ k (h : k < vs.length), (vs.map fun v => [v])[k]? = some [vs[k]] := fun k h => by simp [h]
  simp
  refine loopK.inv [3, 5, 11, 12, 13, 14, 15, 16, 17, 18, 19, 20, 21, 22] (fun k : Nat => k ≤ vs.length) (fun k => [(11, .int .i64 k), (3, .int .i64 (lenS ls k))]) (fun _ => η) (fun _ => n) (fun k => vs.length - k) 0 (by simp) (by simp [lenS]) (by simp) (Nat.le_refl _) ?_
  intro k hk
  simp
  refine CondP.dec (fun h => ?_) (fun h => ?_)
  · have h' : k < vs.length := by omega
    have h2 : k < ls.length := by omega
    have hx := hi k h' h2
    have hx1 := hx.len (P := Tryz.prog) (t := 69) (by simp)
    have hs := lenS_step h2
    have hle := lenS_le ls (k + 1)
    have ew : IntKind.i64.wrap ((lenS ls k : Int) + (ls[k].length : Int)) = (lenS ls (k + 1) : Int) := by
      rw [wrap_id (by omega) (by omega)]; omega
    have n0 : ¬ ((lenS ls (k + 1) : Int) < 0) := by omega
    have ew2 : IntKind.i64.wrap ((k : Int) + 1) = (k : Int) + 1 := wrap_id (by omega) (by omega)
    simp [h', aindex, hq, aload, apart, hx1, ew, n0, ew2]
    exact endK.intro (k + 1) (show k + 1 ≤ vs.length by omega) (by simp) (by repeat (first | exact Agree.mask _ _ | refine Agree.setf rfl ?_ | refine Agree.inner rfl ?_)) (AHeap.le_rfl _) (Nat.le_refl _) (show vs.length - (k + 1) < vs.length - k by omega)
  · have hkv : k = vs.length := by omega
    subst hkv
    simp
    have hall : lenS ls vs.length ≤ 17592186044415 := Nat.le_trans (lenS_le _ _) hl
    refine ACK.use (grow_ac _ _ _ hall).freshP ?_
    intro r η1 n1 ⟨⟨g1, g2, g3⟩, hf1⟩
    simp
    refine loopK.inv [6, 8, 27, 28, 29, 30, 31, 32, 33, 34] (fun x : Nat × AVal × AHeap × Nat => Cat η n ls vs.length x.1 x.2.1 x.2.2.1 x.2.2.2) (fun x => [(27, .int .i64 x.1), (6, x.2.1)]) (fun x => x.2.2.1) (fun x => x.2.2.2) (fun x => vs.length - x.1) (0, r, η1, n1) (show Cat η n ls vs.length 0 r η1 n1 from ⟨by omega, by simpa using g1, g2, g3, hf1⟩) (by simp) (by simp) (Nat.le_refl _) ?_
    intro ⟨k, v, η', n'⟩ hI
    obtain ⟨k1, k2, k3, k4, k5⟩ : Cat η n ls vs.length k v η' n' := hI
    simp
    refine CondP.dec (fun h => ?_) (fun h => ?_)
    · have h' : k < vs.length := by omega
      have h2 : k < ls.length := by omega
      have hx := (hi k h' h2).keep hf k3
      have hxr := hx.rows
      have hq' : η' q = some (.cells 1 (vs.map fun v => [v])) := by rw [k3 q hqn]; exact hq
      have hs := lenS_step h2
      have hle := lenS_le ls (k + 1)
      have ew2 : IntKind.i64.wrap ((k : Int) + 1) = (k : Int) + 1 := wrap_id (by omega) (by omega)
      have el : (ls.take (k + 1)).flatten = (ls.take k).flatten ++ ls[k] := by rw [List.take_succ_eq_append_getElem h2, List.flatten_append]; simp
      have e1 : lenS ls k = (ls.take k).flatten.length := rfl
      generalize ha : (ls.take k).flatten = acc at *
      rcases k2 with ⟨rfl, ea⟩ | ⟨r, J, rfl, k6, k7⟩
      · have b1 : ls[k].length * 8 ≤ 140737488355328 := by omega
        have b2 : ls[k].length ≤ 17592186044416 := by omega
        simp [h', aindex, hq', aload, apart, hxr, appK, aappend, b1, b2, lenMax, ints_length, ew2]
        exact ⟨ints_sc, endK.intro (k + 1, .sl n' 0 ls[k].length, upd η' n' (some (.cells 1 (ints ls[k]))), n' + 1) (show Cat η n ls vs.length (k + 1) (.sl n' 0 ls[k].length) (upd η' n' (some (.cells 1 (ints ls[k])))) (n' + 1) from ⟨by omega, by rw [el, ea]; exact Or.inr ⟨n', [], by simp, by rw [upd_eq]; simp, k4⟩, fun y hy => by rw [upd_ne (by omega)]; exact k3 y hy, by omega, fun y hy => by rw [upd_ne (by omega)]; exact k5 y (by omega)⟩) (by simp) (by repeat (first | exact Agree.mask _ _ | refine Agree.setf rfl ?_ | refine Agree.inner rfl ?_)) (AHeap.le_rfl _) (Nat.le_refl _) (show vs.length - (k + 1) < vs.length - k by omega)⟩
      · have b1 : (acc.length + ls[k].length) * 8 ≤ 140737488355328 := by omega
        have b2 : acc.length + ls[k].length ≤ 17592186044416 := by omega
        have ht : List.take acc.length (ints (acc ++ J)) = ints acc := by simp [ints]
        have hrn : r < n' := by
          rcases Nat.lt_or_ge r n' with h | h
          · exact h
          · rw [k5 r h] at k6; cases k6
        simp [h', aindex, hq', aload, apart, hxr, appK, aappend, b1, b2, lenMax, ints_length, ew2, k6, ht]
        exact ⟨ints_sc, endK.intro (k + 1, .sl n' 0 (acc.length + ls[k].length), upd (upd η' r none) n' (some (.cells 1 (ints acc ++ ints ls[k]))), n' + 1) (show Cat η n ls vs.length (k + 1) (.sl n' 0 (acc.length + ls[k].length)) (upd (upd η' r none) n' (some (.cells 1 (ints acc ++ ints ls[k])))) (n' + 1) from ⟨by omega, by rw [el]; exact Or.inr ⟨n', [], by simp, by rw [upd_eq]; simp [ints], k4⟩, fun y hy => by rw [upd_ne (by omega), upd_ne (by omega)]; exact k3 y hy, by omega, fun y hy => by rw [upd_ne (by omega), upd_ne (by omega)]; exact k5 y (by omega)⟩) (by simp) (by repeat (first | exact Agree.mask _ _ | refine Agree.setf rfl ?_ | refine Agree.inner rfl ?_)) (AHeap.le_rfl _) (Nat.le_refl _) (show vs.length - (k + 1) < vs.length - k by omega)⟩
    · have hkv : k = vs.length := by omega
      simp [h]
      refine resK.rt ⟨?_, k3⟩
      have := k2
      rwa [hkv, hv, List.take_length] at this
end Go.Proofs.YtbomkomipaipmaaGreat
namespace Go.Proofs.YtbomkomipaipmaaGreat
set_option maxRecDepth 100000

/-- none of the first k -/
def NoneF {α : Type} (p : α → Bool) (l : List α) (k : Nat) : Prop := ∀ x ∈ l.take k, p x = false
theorem NoneF.zero {α : Type} (p : α → Bool) (l : List α) : NoneF p l 0 := fun x hx => by simp at hx
theorem NoneF.step {α : Type} {p : α → Bool} {l : List α} {k : Nat} (h : NoneF p l k) (hk : k < l.length) (hp : p l[k] = false) : NoneF p l (k + 1) := fun x hx => by
  rw [List.take_succ_eq_append_getElem hk, List.mem_append] at hx
  rcases hx with hx | hx
  · exact h x hx
  · simp at hx; rw [hx]; exact hp
theorem NoneF.all {α : Type} {p : α → Bool} {l : List α} {k : Nat} (h : NoneF p l k) (hk : l.length ≤ k) : l.any p = false := by
  rw [NoneF, List.take_of_length_le hk] at h
  rw [List.any_eq_false]
  exact fun x hx => by rw [h x hx]; simp

theorem indexT_ac {η : AHeap} {n : Nat} (l : List Int) (f : FuncId) (caps : List AVal) (p : Int → Bool) (hb : HB Tryz.prog f = true) (hp : ∀ x ∈ l, AC Tryz.prog f ([.int .i64 x] ++ caps) η n (Rt (.bool (p x)) η n)) (hl : l.length ≤ 17592186044416) :
    AC Tryz.prog 267 [.rs 1 (ints l), .func f [] caps] η n (fun r η' n' => (∃ i : Int, r = .int .i64 i ∧ (0 ≤ i ↔ l.any p = true)) ∧ η' = η ∧ n' = n) := by
  refine AC.enter Tryz.func267 rfl Tryz.ntmps267 (by simp) ?_
  simp
  refine loopK.inv [4, 5, 8, 9, 10, 11, 12, 13, 14, 15, 16, 17, 18] (fun k : Nat => k ≤ l.length ∧ NoneF p l k) (fun k => [(8, .int .i64 k)]) (fun _ => η) (fun _ => n) (fun k => l.length - k) 0 ⟨Nat.zero_le _, NoneF.zero p l⟩ (by simp) (by simp) (Nat.le_refl _) ?_
  intro k ⟨g1, g2⟩
  simp
  refine CondP.dec (fun h => ?_) (fun h => ?_)
  · have h' : k < l.length := by omega
    have hx := hp l[k] (List.getElem_mem ..)
    have ew : IntKind.i64.wrap ((k : Int) + 1) = (k : Int) + 1 := wrap_id (by omega) (by omega)
    simp [h', aindex, aload, apart, hb]
    refine ACK.rt hx ?_
    cases hpx : p l[k]
    · simp [ew]
      exact endK.intro (k + 1) ⟨by omega, g2.step h' hpx⟩ (by simp) (by repeat (first | exact Agree.mask _ _ | refine Agree.setf rfl ?_ | refine Agree.inner rfl ?_)) (AHeap.le_rfl _) (Nat.le_refl _) (show l.length - (k + 1) < l.length - k by omega)
    · simp
      exact resK.rt ⟨⟨_, rfl, by simp only [List.any_eq_true]; exact ⟨fun _ => ⟨l[k], List.getElem_mem .., hpx⟩, fun _ => by omega⟩⟩, rfl, rfl⟩
  · simp [h]
    exact resK.rt ⟨⟨_, rfl, by rw [g2.all (by omega)]; simp⟩, rfl, rfl⟩
theorem containsT_ac {η : AHeap} {n : Nat} (l : List Int) (f : FuncId) (caps : List AVal) (p : Int → Bool) (hb : HB Tryz.prog f = true) (hp : ∀ x ∈ l, AC Tryz.prog f ([.int .i64 x] ++ caps) η n (Rt (.bool (p x)) η n)) (hl : l.length ≤ 17592186044416) :
    AC Tryz.prog 238 [.rs 1 (ints l), .func f [] caps] η n (Rt (.bool (l.any p)) η n) := by
  refine AC.enter Tryz.func238 rfl Tryz.ntmps238 (by simp) ?_
  simp
  refine ACK.use (indexT_ac l f caps p hb hp hl) ?_
  rintro r η' n' ⟨⟨i, e1, h⟩, e2, e3⟩
  subst e1 e2 e3
  simp
  refine resK.rt ⟨?_, rfl, rfl⟩
  have : decide (0 ≤ i) = l.any p := by rw [Bool.eq_iff_iff, decide_eq_true_eq]; exact h
  rw [this]

theorem indexI_ac {η : AHeap} {n : Nat} (l : List (Int × Int)) (f : FuncId) (caps : List AVal) (p : (Int × Int) → Bool) (hb : HB Tryz.prog f = true) (hp : ∀ x ∈ l, AC Tryz.prog f ([.agg [.int .i64 x.1, .int .i64 x.2]] ++ caps) η n (Rt (.bool (p x)) η n)) (hl : l.length ≤ 17592186044416) :
    AC Tryz.prog 242 [.rs 2 (pairs l), .func f [] caps] η n (fun r η' n' => (∃ i : Int, r = .int .i64 i ∧ (0 ≤ i ↔ l.any p = true)) ∧ η' = η ∧ n' = n) := by
  refine AC.enter Tryz.func242 rfl Tryz.ntmps242 (by simp) ?_
  simp
  refine loopK.inv [4, 5, 8, 9, 10, 11, 12, 13, 14, 15, 16, 17, 18] (fun k : Nat => k ≤ l.length ∧ NoneF p l k) (fun k => [(8, .int .i64 k)]) (fun _ => η) (fun _ => n) (fun k => l.length - k) 0 ⟨Nat.zero_le _, NoneF.zero p l⟩ (by simp) (by simp) (Nat.le_refl _) ?_
  intro k ⟨g1, g2⟩
  simp
  refine CondP.dec (fun h => ?_) (fun h => ?_)
  · have h' : k < l.length := by omega
    have hx := hp l[k] (List.getElem_mem ..)
    have ew : IntKind.i64.wrap ((k : Int) + 1) = (k : Int) + 1 := wrap_id (by omega) (by omega)
    simp [h', aindex, aload, apart, hb]
    refine ACK.rt hx ?_
    cases hpx : p l[k]
    · simp [ew]
      exact endK.intro (k + 1) ⟨by omega, g2.step h' hpx⟩ (by simp) (by repeat (first | exact Agree.mask _ _ | refine Agree.setf rfl ?_ | refine Agree.inner rfl ?_)) (AHeap.le_rfl _) (Nat.le_refl _) (show l.length - (k + 1) < l.length - k by omega)
    · simp
      exact resK.rt ⟨⟨_, rfl, by simp only [List.any_eq_true]; exact ⟨fun _ => ⟨l[k], List.getElem_mem .., hpx⟩, fun _ => by omega⟩⟩, rfl, rfl⟩
  · simp [h]
    exact resK.rt ⟨⟨_, rfl, by rw [g2.all (by omega)]; simp⟩, rfl, rfl⟩
theorem containsI_ac {η : AHeap} {n : Nat} (l : List (Int × Int)) (f : FuncId) (caps : List AVal) (p : (Int × Int) → Bool) (hb : HB Tryz.prog f = true) (hp : ∀ x ∈ l, AC Tryz.prog f ([.agg [.int .i64 x.1, .int .i64 x.2]] ++ caps) η n (Rt (.bool (p x)) η n)) (hl : l.length ≤ 17592186044416) :
    AC Tryz.prog 182 [.rs 2 (pairs l), .func f [] caps] η n (Rt (.bool (l.any p)) η n) := by
  refine AC.enter Tryz.func182 rfl Tryz.ntmps182 (by simp) ?_
  simp
  refine ACK.use (indexI_ac l f caps p hb hp hl) ?_
  rintro r η' n' ⟨⟨i, e1, h⟩, e2, e3⟩
  subst e1 e2 e3
  simp
  refine resK.rt ⟨?_, rfl, rfl⟩
  have : decide (0 ≤ i) = l.any p := by rw [Bool.eq_iff_iff, decide_eq_true_eq]; exact h
  rw [this]

theorem indexB_ac {η : AHeap} {n : Nat} (l : List Tbl) (f : FuncId) (caps : List AVal) (p : Tbl → Bool) (hb : HB Tryz.prog f = true) (hp : ∀ x ∈ l, AC Tryz.prog f ([.agg (tblC x)] ++ caps) η n (Rt (.bool (p x)) η n)) (hl : l.length ≤ 17592186044416) :
    AC Tryz.prog 245 [.rs 2 (tblsC l), .func f [] caps] η n (fun r η' n' => (∃ i : Int, r = .int .i64 i ∧ (0 ≤ i ↔ l.any p = true)) ∧ η' = η ∧ n' = n) := by
  refine AC.enter Tryz.func245 rfl Tryz.ntmps245 (by simp) ?_
  simp
  refine loopK.inv [4, 5, 8, 9, 10, 11, 12, 13, 14, 15, 16, 17, 18] (fun k : Nat => k ≤ l.length ∧ NoneF p l k) (fun k => [(8, .int .i64 k)]) (fun _ => η) (fun _ => n) (fun k => l.length - k) 0 ⟨Nat.zero_le _, NoneF.zero p l⟩ (by simp) (by simp) (Nat.le_refl _) ?_
  intro k ⟨g1, g2⟩
  simp
  refine CondP.dec (fun h => ?_) (fun h => ?_)
  · have h' : k < l.length := by omega
    have hx := hp l[k] (List.getElem_mem ..)
    have ew : IntKind.i64.wrap ((k : Int) + 1) = (k : Int) + 1 := wrap_id (by omega) (by omega)
    simp [h', aindex, aload, apart, hb, tblC]
    refine ACK.rt hx ?_
    cases hpx : p l[k]
    · simp [ew]
      exact endK.intro (k + 1) ⟨by omega, g2.step h' hpx⟩ (by simp) (by repeat (first | exact Agree.mask _ _ | refine Agree.setf rfl ?_ | refine Agree.inner rfl ?_)) (AHeap.le_rfl _) (Nat.le_refl _) (show l.length - (k + 1) < l.length - k by omega)
    · simp
      exact resK.rt ⟨⟨_, rfl, by simp only [List.any_eq_true]; exact ⟨fun _ => ⟨l[k], List.getElem_mem .., hpx⟩, fun _ => by omega⟩⟩, rfl, rfl⟩
  · simp [h]
    exact resK.rt ⟨⟨_, rfl, by rw [g2.all (by omega)]; simp⟩, rfl, rfl⟩
theorem containsB_ac {η : AHeap} {n : Nat} (l : List Tbl) (f : FuncId) (caps : List AVal) (p : Tbl → Bool) (hb : HB Tryz.prog f = true) (hp : ∀ x ∈ l, AC Tryz.prog f ([.agg (tblC x)] ++ caps) η n (Rt (.bool (p x)) η n)) (hl : l.length ≤ 17592186044416) :
    AC Tryz.prog 185 [.rs 2 (tblsC l), .func f [] caps] η n (Rt (.bool (l.any p)) η n) := by
  refine AC.enter Tryz.func185 rfl Tryz.ntmps185 (by simp) ?_
  simp
  refine ACK.use (indexB_ac l f caps p hb hp hl) ?_
  rintro r η' n' ⟨⟨i, e1, h⟩, e2, e3⟩
  subst e1 e2 e3
  simp
  refine resK.rt ⟨?_, rfl, rfl⟩
  have : decide (0 ≤ i) = l.any p := by rw [Bool.eq_iff_iff, decide_eq_true_eq]; exact h
  rw [this]

def allT (l : List Int) (n : Int) : Bool := l.all fun t => rightT t n
theorem all1_ac (t n : Int) (q : Nat) (η : AHeap) (m : Nat) (hq : η q = some (.cells 1 [[.int .i64 n]])) : AC Tryz.prog 239 [.int .i64 t, .ptr q 0 0] η m (Rt (.bool (!rightT t n)) η m) := by
  refine AC.enter Tryz.func239 rfl Tryz.ntmps239 (by simp) ?_
  simp [aload, apart, hq]
  refine ACK.rt (kright_ac _ _ _ _) ?_
  simp
  exact resK.rt ⟨rfl, rfl, rfl⟩
theorem any_not {α : Type} (l : List α) (p : α → Bool) : (!l.any fun x => !p x) = l.all p := by
  induction l with
  | nil => rfl
  | cons x l ih => simp [← ih]
theorem kall_ac {η : AHeap} {m : Nat} (l : List Int) (n : Int) (hl : l.length ≤ 17592186044416) : AC Tryz.prog 180 [.rs 1 (ints l), .int .i64 n] η m (Rt (.bool (allT l n)) η m) := by
  refine AC.pure (.bool _) ?_
  refine AC.fresh fun hf => ?_; refine AC.enter Tryz.func180 rfl Tryz.ntmps180 (by simp) ?_
  simp
  refine ACK.rt (containsT_ac l 239 [.ptr m 0 0] (fun t => !rightT t n) (by simp) (fun x _ => all1_ac x n m _ _ (upd_eq ..)) hl) ?_
  simp
  refine resK.of (η' := η) (le_upd (AHeap.le_rfl _) (hf m (Nat.le_refl _))) _ (Nat.le_refl _) ⟨?_, rfl⟩
  have := any_not l fun t => rightT t n
  simp at this
  simp [allT, this]
theorem place_ac (a e : Int) (η : AHeap) (m : Nat) : AC Tryz.prog 246 [.int .i64 a, .int .i64 e] η m (Rt (.bool (decide (0 ≤ a ∧ a < e))) η m) := by
  refine AC.enter Tryz.func246 rfl Tryz.ntmps246 (by simp) ?_
  simp
  repeat' (refine CondP.dec (fun h => ?_) (fun h => ?_) <;> simp [h])
  all_goals exact resK.rt ⟨by simp [*], rfl, rfl⟩
def clauseOK (c : Int × Int) : Bool := decide (0 ≤ c.1 ∧ c.1 < 8 ∧ 0 ≤ c.2 ∧ c.2 < 200)
def tableOK (t : Tbl) : Bool := t.cls.all clauseOK && decide (t.tmo = -1 ∨ (0 ≤ t.tmo ∧ t.tmo < 200))
theorem table_ac (t : Tbl) (η : AHeap) (m : Nat) (hl : t.cls.length ≤ 17592186044416) : AC Tryz.prog 187 [.agg (tblC t)] η m (Rt (.bool (tableOK t)) η m) := by
  refine AC.pure (.bool _) ?_
  refine AC.fresh fun hf => ?_; refine AC.enter Tryz.func187 rfl Tryz.ntmps187 (by simp) ?_
  simp [tblC, aload, afield, apart, upd_eq]
  refine loopK.inv [2, 4, 8, 9, 10, 11, 12, 13, 14, 15, 16, 17, 18, 19, 20, 21, 22] (fun x : Nat × Nat => x.1 ≤ t.cls.length ∧ m + 1 ≤ x.2 ∧ t.cls.all clauseOK = (t.cls.drop x.1).all clauseOK) (fun x => [(8, .int .i64 x.1)]) (fun _ => upd η m (some (.cells 2 [tblC t]))) (fun x => x.2) (fun x => t.cls.length - x.1) (0, m + 1) (by simp) (by simp) (by simp [tblC]) (Nat.le_refl _) ?_
  intro ⟨k, q⟩ ⟨g1, g2, g3⟩
  simp only at g1 g2 g3
  simp
  have hmq : m ≠ q := by omega
  have hq0 : upd η m (some (.cells 2 [tblC t])) q = none := by rw [upd_ne (Ne.symm hmq)]; exact hf q (by omega)
  have hup : ∀ o, (upd η m (some (.cells 2 [tblC t]))).le (upd (upd η m (some (.cells 2 [tblC t]))) q o) := fun o => le_upd (AHeap.le_rfl _) hq0
  have hle : ∀ o, η.le (upd (upd η m (some (.cells 2 [tblC t]))) q o) := fun o => fun r o' hr => hup o r o' (le_upd (AHeap.le_rfl _) (hf m (Nat.le_refl _)) r o' hr)
  refine CondP.dec (fun h => ?_) (fun h => ?_)
  · have h' : k < t.cls.length := by omega
    have ew : IntKind.i64.wrap ((k : Int) + 1) = (k : Int) + 1 := wrap_id (by omega) (by omega)
    rw [List.drop_eq_getElem_cons h', List.all_cons] at g3
    simp [h', aindex, aload, apart, afield, astore, upd_eq, upd_upd]
    refine ACK.rt (place_ac _ _ _ _) ?_
    by_cases c1 : 0 ≤ t.cls[k].1 ∧ t.cls[k].1 < 8
    · simp [c1, aload, apart, afield, upd_eq]
      refine ACK.rt (place_ac _ _ _ _) ?_
      by_cases c2 : 0 ≤ t.cls[k].2 ∧ t.cls[k].2 < 200
      · simp [c2, ew]
        exact endK.intro (k + 1, q + 1) ⟨by omega, by omega, by rw [g3]; simp [clauseOK, c1, c2]⟩ (by simp) (by repeat (first | exact Agree.mask _ _ | refine Agree.setf rfl ?_ | refine Agree.inner rfl ?_)) (hup _) (Nat.le_refl _) (show t.cls.length - (k + 1) < t.cls.length - k by omega)
      · have e : (decide (0 ≤ t.cls[k].2) && decide (t.cls[k].2 < 200)) = false := by simp; omega
        simp [e]
        refine resK.of (η' := η) (hle _) _ (Nat.le_refl _) ⟨?_, rfl⟩
        have : clauseOK t.cls[k] = false := by simp only [clauseOK, decide_eq_false_iff_not]; omega
        simp [tableOK, g3, this]
    · have e : (decide (0 ≤ t.cls[k].1) && decide (t.cls[k].1 < 8)) = false := by simp; omega
      simp [e]
      refine resK.of (η' := η) (hle _) _ (Nat.le_refl _) ⟨?_, rfl⟩
      have : clauseOK t.cls[k] = false := by simp only [clauseOK, decide_eq_false_iff_not]; omega
      simp [tableOK, g3, this]
  · have ha : t.cls.all clauseOK = true := by rw [g3, List.drop_eq_nil_of_le (by omega)]; rfl
    have le1 : η.le (upd η m (some (.cells 2 [tblC t]))) := le_upd (AHeap.le_rfl _) (hf m (Nat.le_refl _))
    simp [h, aload, apart, afield, upd_eq, tblC]
    refine CondP.dec (fun h1 => ?_) (fun h1 => ?_)
    · simp [h1]
      exact resK.of (η' := η) (le_upd (AHeap.le_rfl _) (hf m (Nat.le_refl _))) _ (Nat.le_refl _) ⟨by simp [tableOK, ha, h1], rfl⟩
    · simp [h1, aload, apart, afield, upd_eq]
      refine ACK.rt (place_ac _ _ _ _) ?_
      simp
      exact resK.of (η' := η) (le_upd (AHeap.le_rfl _) (hf m (Nat.le_refl _))) _ (Nat.le_refl _) ⟨by simp [tableOK, ha, h1], rfl⟩
end Go.Proofs.YtbomkomipaipmaaGreat
