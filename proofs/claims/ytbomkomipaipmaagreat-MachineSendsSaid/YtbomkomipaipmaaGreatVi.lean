/- Layer 16 (machine): one reduction, in plain words. Layer 16 (machine): what one reduction changes, and what it doesn't. Layer 16 (machine): what one reduction changes: all effects. Layer 16 (machine): who is woken, in plain words. Layer 16 (machine): all that holds of a machine behind so many steps. Layer 16 (machine): what the machine's small functions change. Layer 16 (machine): effects: out, send, link, exit. Layer 16 (machine): effects: send, link. Layer 16 (machine): a process is spawned. Layer 16 (machine): the effect that spawns; which effect does what. Layer 16 (machine): waiting, woken. Layer 16 (machine): Do. Layer 16 (machine): Do. Layer 16 (machine): Tick, End. -/
import Derived.Test.YtbomkomipaipmaaGreatVh
namespace Go.Proofs.YtbomkomipaipmaaGreat
set_option maxRecDepth 100000

def outD (D : MD) (i : Nat) (p : PD) (x : Int) : MD := setD D i { p with out := p.out ++ [x] }
noncomputable def sendD (D : MD) (i : Nat) (p : PD) (e : Eff) : MD := match atP D.ps e.dest with
  | none => D
  | some j => match D.ps[j]? with
    | none => D
    | some q => if q.box.length = 16 then fallD D i p (4, 0) else setD D j { q with box := q.box ++ [e.msg] }
noncomputable def spawnsD (D : MD) (i : Nat) (p : PD) (e : Eff) : MD :=
  if (spawnD D p.pid e.actor e.args).2.2 = true then setD (spawnD D p.pid e.actor e.args).1 i { p with st := (gotF p.st (spawnD D p.pid e.actor e.args).2.1).1 }
  else fallD D i p (3, 0)
def linkBad (W : List LE) (a b : Int) : Prop := ¬ (a = b ∨ b ∈ toW W a) ∧ ((toW W a).length = 8 ∨ (toW W b).length = 8)
instance (W : List LE) (a b : Int) : Decidable (linkBad W a b) := by unfold linkBad; infer_instance
noncomputable def linkD (m1 m2 : Nat) (D : MD) (i : Nat) (p : PD) (e : Eff) : MD := match atP D.ps e.dest with
  | none => D
  | some _ => if linkBad D.W p.pid e.dest then fallD D i p (5, 0) else { D with W := (linkR m1 m2 D.W p.pid e.dest).2 }
noncomputable def effD (m1 m2 : Nat) (D : MD) (i : Nat) (p : PD) (e : Eff) : MD :=
  if e.kind = 1 then outD D i p e.n else if e.kind = 2 then sendD D i p e else if e.kind = 3 then spawnsD D i p e else if e.kind = 4 then linkD m1 m2 D i p e else if e.kind = 5 then fallD D i p e.reason else D
/-- the process behind its step -/
def midP (p : PD) (r : Sta × Eff × Int) : PD := { p with st := r.1, box := if 0 ≤ r.2.1.taken then p.box.eraseIdx r.2.1.taken.toNat else p.box }
noncomputable def doD (m1 m2 : Nat) (D : MD) (i : Nat) (p : PD) : MD :=
  effD m1 m2 (setD D i (midP p (stepF D.m p.pid p.st D.now p.box))) i (midP p (stepF D.m p.pid p.st D.now p.box)) (stepF D.m p.pid p.st D.now p.box).2.1
def tickD (D : MD) : MD := { D with now := min (D.now + 1) 1099511627776 }

/-! ### a step's reason -/
def RK (x : Wx) : Prop := (x.eff.kind = 5 → x.eff.reason.1 = 0 ∨ x.eff.reason.1 = 1 ∨ x.eff.reason.1 = 2) ∧ (x.eff.taken = -1 ∨ x.eff.kind = 0)
def NK (x : Wx) : Prop := x.eff.kind = 0 ∧ x.eff.taken = -1
theorem NK.rk {x : Wx} (h : NK x) : RK x := ⟨fun k => by have := h.1; omega, Or.inl h.2⟩
theorem NK.of {x y : Wx} (h : NK x) (e : y.eff = x.eff) : NK y := by unfold NK; rw [e]; exact h
theorem RK.of {x : Wx} (h1 : x.eff.kind ≠ 5) (h2 : x.eff.taken = -1) : RK x := ⟨fun k => absurd k h1, Or.inl h2⟩
theorem RK.ex {x : Wx} (h1 : x.eff.reason.1 = 0 ∨ x.eff.reason.1 = 1 ∨ x.eff.reason.1 = 2) (h2 : x.eff.taken = -1) : RK x := ⟨fun _ => h1, Or.inl h2⟩
theorem fail_eff (x : Wx) (e : Int) : (x.fail e).eff = x.eff := by unfold Wx.fail; split <;> rfl
theorem pop_eff (x : Wx) : x.pop.eff = x.eff := by unfold Wx.pop; split; exact fail_eff _ _; rfl
theorem push_eff (x : Wx) (m : Int) : (x.push m).eff = x.eff := by unfold Wx.push; split; exact fail_eff _ _; rfl
theorem stow_eff (x : Wx) (a : Int) : (x.stow a).eff = x.eff := by unfold Wx.stow; split; exact pop_eff _; exact fail_eff _ _
theorem load_eff (x : Wx) (a : Int) : (x.load a).eff = x.eff := by unfold Wx.load; split; exact push_eff _ _; exact fail_eff _ _
theorem unl_eff (x : Wx) (a m : Int) : (x.unl a m).eff = x.eff := by unfold Wx.unl; split <;> rfl
theorem clock_eff (x : Wx) (a m : Int) : (x.clock a m).eff = x.eff := by
  unfold Wx.clock; split
  · rfl
  · split
    · simp only [Wx.till, pop_eff]
    · rfl
theorem recv_rk {x : Wx} (h : NK x) (tabs : List Tbl) (a now : Int) (box : List (Int × Int)) : RK (x.recv tabs a now box) := by
  unfold Wx.recv; split
  · have h1 : NK (x.stays.clock (tabs.getD a.toNat noTbl).tmo now) := h.of (by rw [clock_eff]; rfl)
    revert h1
    generalize x.stays.clock (tabs.getD a.toNat noTbl).tmo now = y
    intro h1
    unfold Wx.gets; split
    · refine ⟨fun k => ?_, Or.inr ?_⟩
      · simp only [Wx.took, Wx.goes, push_eff] at k; have := h1.1; omega
      · simp only [Wx.took, Wx.goes, push_eff]; exact h1.1
    · split
      · exact (h1.of rfl).rk
      · exact RK.of (by simp [Wx.waits]) h1.2
  · exact (h.of (fail_eff _ _)).rk
theorem spawn_rk {x : Wx} (h : NK x) (m : List Actr) (a : Int) : RK (x.spawn m a) := by
  unfold Wx.spawn; split
  · split
    · exact RK.of (by simp [Wx.spawned]) h.2
    · exact (h.of (fail_eff _ _)).rk
  · exact (h.of (fail_eff _ _)).rk
theorem two_rk {x : Wx} (h : NK x) (op : Int) : RK (x.two op) := by
  unfold Wx.two; split
  · exact RK.ex (Or.inr (Or.inr rfl)) rfl
  · exact (h.of (by rw [push_eff, pop_eff, pop_eff])).rk
theorem work_rk {c : Wc} {x : Wx} (h : NK x) : RK (workF c x) := by
  have hp : x.pop.eff.taken = -1 := by rw [pop_eff]; exact h.2
  have hp2 : x.pop.pop.eff.taken = -1 := by rw [pop_eff, pop_eff]; exact h.2
  unfold workF
  by_cases c0 : c.op = 0
  · rw [if_pos c0]; exact RK.ex (Or.inl rfl) rfl
  rw [if_neg c0]
  by_cases c1 : c.op = 1
  · rw [if_pos c1]; exact (h.of (push_eff _ _)).rk
  rw [if_neg c1]
  by_cases c2 : c.op = 2
  · rw [if_pos c2]; exact (h.of (push_eff _ _)).rk
  rw [if_neg c2]
  by_cases c3 : c.op = 3
  · rw [if_pos c3]; exact (h.of (push_eff _ _)).rk
  rw [if_neg c3]
  by_cases c18 : c.op = 18
  · rw [if_pos c18]; exact (h.of (push_eff _ _)).rk
  rw [if_neg c18]
  by_cases c4 : c.op = 4
  · rw [if_pos c4]; exact (h.of (load_eff _ _)).rk
  rw [if_neg c4]
  by_cases c5 : c.op = 5
  · rw [if_pos c5]; exact (h.of (stow_eff _ _)).rk
  rw [if_neg c5]
  by_cases c13 : c.op = 13
  · rw [if_pos c13]; exact (h.of (by rw [push_eff, pop_eff])).rk
  rw [if_neg c13]
  by_cases c16 : c.op = 16
  · rw [if_pos c16]; exact (h.of rfl).rk
  rw [if_neg c16]
  by_cases c17 : c.op = 17
  · rw [if_pos c17]; exact (h.of (by rw [unl_eff, pop_eff])).rk
  rw [if_neg c17]
  by_cases c19 : c.op = 19
  · rw [if_pos c19]; exact spawn_rk h _ _
  rw [if_neg c19]
  by_cases c20 : c.op = 20
  · rw [if_pos c20]; exact RK.of (by simp [Wx.send]) hp2
  rw [if_neg c20]
  by_cases c21 : c.op = 21
  · rw [if_pos c21]; exact recv_rk h _ _ _ _
  rw [if_neg c21]
  by_cases c22 : c.op = 22
  · rw [if_pos c22]; exact RK.of (by simp [Wx.link]) hp
  rw [if_neg c22]
  by_cases c23 : c.op = 23
  · rw [if_pos c23]; exact RK.ex (Or.inr (Or.inl rfl)) rfl
  rw [if_neg c23]
  by_cases c24 : c.op = 24
  · rw [if_pos c24]; exact RK.of (by simp [Wx.out]) hp
  rw [if_neg c24]
  by_cases c25 : c.op = 25
  · rw [if_pos c25]; exact (h.of (pop_eff _)).rk
  rw [if_neg c25]
  exact (h.of (by rw [push_eff, push_eff, pop_eff])).rk
def EK (e : Eff) : Prop := (e.kind = 5 → e.reason.1 = 0 ∨ e.reason.1 = 1 ∨ e.reason.1 = 2) ∧ (e.taken = -1 ∨ e.kind = 0)
theorem eff0_ek : EK eff0 := ⟨fun _ => Or.inl rfl, Or.inr rfl⟩
theorem stepEnd_ek {x : Wx} (h : RK x) : EK (stepEnd x).2.1 := by
  unfold stepEnd; split
  · exact h
  · exact eff0_ek
theorem step_ek (m : List Actr) (self : Int) (s : Sta) (now : Int) (box : List (Int × Int)) : EK (stepF m self s now box).2.1 := by
  have h0 : NK ((wx0 s).setpc (IntKind.i64.wrap (s.pc + 1))) := ⟨rfl, rfl⟩
  unfold stepF; split
  · unfold stepG; split
    · exact stepEnd_ek (two_rk h0 _)
    · split
      · exact eff0_ek
      · exact stepEnd_ek (work_rk h0)
  · exact eff0_ek
end Go.Proofs.YtbomkomipaipmaaGreat
namespace Go.Proofs.YtbomkomipaipmaaGreat
set_option maxRecDepth 100000

/-- what stays of one process -/
structure OneR (q q' : PD) : Prop where
  pid : q'.pid = q.pid
  par : q'.parent = q.parent
  act : q'.actor = q.actor
  out : q'.out = q.out ∨ ∃ x, q'.out = q.out ++ [x]
  dead : q.dead = true → q' = q
theorem OneR.rfl' (q : PD) : OneR q q := ⟨rfl, rfl, rfl, Or.inl rfl, fun _ => rfl⟩
/-- who ended -/
def Falls (ps ps' : List PD) (i : Nat) : Prop :=
  (∀ (k : Nat) (q q' : PD), ps[k]? = some q → ps'[k]? = some q' → q'.dead = q.dead) ∨
  ∃ r : Int × Int, 0 ≤ r.1 ∧ r.1 ≤ 5 ∧ ∀ (k : Nat) (q q' : PD), ps[k]? = some q → ps'[k]? = some q' → q.dead = false →
    (k = i → q'.dead = true ∧ q'.rs = r) ∧ (k ≠ i → q'.dead = true → q'.rs = (6, 0) ∧ r.1 ≠ 0)
/-- which mailbox changed -/
def Boxes (ps ps' : List PD) (i : Nat) : Prop :=
  (∃ t : Nat, ∀ (k : Nat) (q q' : PD), ps[k]? = some q → ps'[k]? = some q' → q'.dead = false → q'.box = q.box ∨ (k = i ∧ q'.box = q.box.eraseIdx t)) ∨
  ∃ (j : Nat) (m : Int × Int), ∀ (k : Nat) (q q' : PD), ps[k]? = some q → ps'[k]? = some q' → q'.dead = false → q'.box = q.box ∨ (k = j ∧ q'.box = q.box ++ [m])
/-- what a reduction of the process at i does -/
structure DoRel (D D' : MD) (i : Nat) (p : PD) : Prop where
  inv : MInv D'
  m : D'.m = D.m
  now : D'.now = D.now
  len : D'.ps.length = D.ps.length ∨ D'.ps.length = D.ps.length + 1
  new : ∀ q, D'.ps[D.ps.length]? = some q → q.dead = false ∧ q.parent = p.pid ∧ q.out = []
  old : ∀ (k : Nat) (q : PD), D.ps[k]? = some q → ∃ q', D'.ps[k]? = some q' ∧ OneR q q'
  falls : Falls D.ps D'.ps i
  boxes : Boxes D.ps D'.ps i
  b16 : (∀ q ∈ D.ps, q.box.length ≤ 16) → ∀ q ∈ D'.ps, q.box.length ≤ 16
  stk : (∀ a ∈ D.m, a.regs.length ≤ lenMax) → (∀ q ∈ D.ps, q.st.stack.length ≤ lenMax ∧ q.st.regs.length ≤ lenMax) → ∀ q ∈ D'.ps, q.st.stack.length ≤ lenMax ∧ q.st.regs.length ≤ lenMax
theorem get_set {ps : List PD} {i : Nat} {p p' : PD} (hp : ps[i]? = some p) (k : Nat) : (ps.set i p')[k]? = if k = i then some p' else ps[k]? := by
  have := (List.getElem?_eq_some_iff.1 hp).1
  rw [List.getElem?_set]
  by_cases e : i = k
  · subst e; simp [this]
  · rw [if_neg e, if_neg fun h => e h.symm]
theorem len_none {ps : List PD} : ps[ps.length]? = none := List.getElem?_eq_none (Nat.le_refl _)
/-- a step that changes one process and nobody's end -/
theorem DoRel.set {D : MD} (h : MInv D) {i : Nat} {p p' : PD} (hp : D.ps[i]? = some p) (e1 : p'.pid = p.pid) (e2 : p'.dead = p.dead) (e3 : p'.parent = p.parent) (e4 : p'.actor = p.actor) (e5 : p'.out = p.out ∨ ∃ x, p'.out = p.out ++ [x]) (hd : p.dead = false) {i0 : Nat} {p0 : PD}
    (hb : Boxes D.ps (setD D i p').ps i0) (h16 : p.box.length ≤ 16 → p'.box.length ≤ 16) (hs : (∀ a ∈ D.m, a.regs.length ≤ lenMax) → p.st.stack.length ≤ lenMax ∧ p.st.regs.length ≤ lenMax → p'.st.stack.length ≤ lenMax ∧ p'.st.regs.length ≤ lenMax) : DoRel D (setD D i p') i0 p0 := by
  have hpm : p ∈ D.ps := List.mem_of_getElem? hp
  refine ⟨h.setD hp e1 e2, rfl, rfl, Or.inl (by simp [setD]), fun q hq => ?_, fun k q hk => ?_, Or.inl fun k q q' hk hk' => ?_, hb, fun a q hq => ?_, fun a b q hq => ?_⟩
  · have : (setD D i p').ps.length = D.ps.length := by simp [setD]
    rw [← this, len_none] at hq; cases hq
  · simp only [setD]
    rw [get_set hp]
    by_cases e : k = i
    · subst e; rw [hp] at hk; cases hk
      exact ⟨p', by rw [if_pos rfl], e1, e3, e4, e5, fun k => by rw [hd] at k; cases k⟩
    · exact ⟨q, by rw [if_neg e]; exact hk, OneR.rfl' q⟩
  · simp only [setD] at hk'
    rw [get_set hp] at hk'
    by_cases e : k = i
    · subst e; rw [hp] at hk; cases hk; rw [if_pos rfl] at hk'; cases hk'; exact e2
    · rw [if_neg e, hk] at hk'; cases hk'; rfl
  · rcases List.mem_or_eq_of_mem_set hq with k | k
    · exact a q k
    · subst k; exact h16 (a p hpm)
  · rcases List.mem_or_eq_of_mem_set hq with k | k
    · exact b q k
    · subst k; exact hs a (b p hpm)
/-- a step behind another that changed only the process's state and mailbox -/
structure MidR (D D1 : MD) (i : Nat) (p p1 : PD) (t : Option Nat) : Prop where
  eq : D1 = setD D i p1
  hp : D.ps[i]? = some p
  alive : p.dead = false
  pid : p1.pid = p.pid
  dead : p1.dead = p.dead
  par : p1.parent = p.parent
  act : p1.actor = p.actor
  out : p1.out = p.out
  box : p1.box = match t with
    | some t => p.box.eraseIdx t
    | none => p.box
  stk : p.st.stack.length ≤ lenMax → p.st.regs.length ≤ lenMax → p1.st.stack.length ≤ lenMax ∧ p1.st.regs.length ≤ lenMax
theorem eraseIdx_len' {α : Type} (l : List α) (t : Nat) : (l.eraseIdx t).length ≤ l.length := by
  rw [List.length_eraseIdx]; split <;> omega
theorem MidR.get {D D1 : MD} {i : Nat} {p p1 : PD} {t : Option Nat} (h : MidR D D1 i p p1 t) (k : Nat) : D1.ps[k]? = if k = i then some p1 else D.ps[k]? := by
  rw [h.eq]; exact get_set h.hp k
theorem MidR.self {D D1 : MD} {i : Nat} {p p1 : PD} {t : Option Nat} (h : MidR D D1 i p p1 t) : D1.ps[i]? = some p1 := by rw [h.get, if_pos rfl]
theorem MidR.len {D D1 : MD} {i : Nat} {p p1 : PD} {t : Option Nat} (h : MidR D D1 i p p1 t) : D1.ps.length = D.ps.length := by rw [h.eq]; simp [setD]
theorem MidR.inv {D D1 : MD} {i : Nat} {p p1 : PD} {t : Option Nat} (h : MidR D D1 i p p1 t) (hi : MInv D) : MInv D1 := by
  rw [h.eq]; exact hi.setD h.hp h.pid h.dead
theorem MidR.pre {D D1 D' : MD} {i : Nat} {p p1 : PD} {t : Option Nat} (h : MidR D D1 i p p1 t) (r : DoRel D1 D' i p1) (hb : Boxes D.ps D'.ps i) : DoRel D D' i p := by
  have hpm : p ∈ D.ps := List.mem_of_getElem? h.hp
  have key : ∀ (k : Nat) (q : PD), D.ps[k]? = some q → ∃ q1, D1.ps[k]? = some q1 ∧ OneR q q1 ∧ q1.dead = q.dead ∧ q1.out = q.out := fun k q hk => by
    rw [h.get]
    by_cases e : k = i
    · subst e; rw [h.hp] at hk; cases hk
      exact ⟨p1, by rw [if_pos rfl], ⟨h.pid, h.par, h.act, Or.inl h.out, fun k => by rw [h.alive] at k; cases k⟩, h.dead, h.out⟩
    · exact ⟨q, by rw [if_neg e]; exact hk, OneR.rfl' q, rfl, rfl⟩
  refine ⟨r.inv, by rw [r.m, h.eq]; rfl, by rw [r.now, h.eq]; rfl, by rw [← h.len]; exact r.len, fun q hq => ?_, fun k q hk => ?_, ?_, hb, fun a => r.b16 fun q hq => ?_, fun a b => r.stk (by rw [h.eq]; exact a) fun q hq => ?_⟩
  · rw [← h.len] at hq
    have := r.new q hq
    rw [h.pid] at this; exact this
  · obtain ⟨q1, k1, k2, k3, k4⟩ := key k q hk
    obtain ⟨q2, l1, l2⟩ := r.old k q1 k1
    refine ⟨q2, l1, l2.pid.trans k2.pid, l2.par.trans k2.par, l2.act.trans k2.act, by rw [← k4]; exact l2.out, fun hd => ?_⟩
    have e1 := k2.dead hd
    rw [l2.dead (by rw [k3]; exact hd), e1]
  · rcases r.falls with f | ⟨x, f1, f2, f3⟩
    · refine Or.inl fun k q q' hk hk' => ?_
      obtain ⟨q1, k1, k2, k3, k4⟩ := key k q hk
      rw [f k q1 q' k1 hk', k3]
    · refine Or.inr ⟨x, f1, f2, fun k q q' hk hk' hd => ?_⟩
      obtain ⟨q1, k1, k2, k3, k4⟩ := key k q hk
      exact f3 k q1 q' k1 hk' (by rw [k3]; exact hd)
  · rw [h.eq] at hq
    rcases List.mem_or_eq_of_mem_set hq with k | k
    · exact a q k
    · subst k
      have := a p hpm
      rw [h.box]
      cases t with
      | none => exact this
      | some t => exact Nat.le_trans (eraseIdx_len' _ _) this
  · rw [h.eq] at hq
    rcases List.mem_or_eq_of_mem_set hq with k | k
    · exact b q k
    · subst k; exact h.stk (b p hpm).1 (b p hpm).2
theorem EndRel.boxes {ps ps' : List PD} {own : Int} {r : Int × Int} (h : EndRel ps ps' own r) {k : Nat} {q q' : PD} (hk : ps[k]? = some q) (hk' : ps'[k]? = some q') : q'.box = q.box ∧ q'.st = q.st ∧ q'.out = q.out ∧ OneR q q' := by
  obtain ⟨x, h1, h2⟩ := h.at' k q hk
  rw [hk'] at h1; cases h1
  rcases h2 with h2 | ⟨a, b, h2⟩ | ⟨a, b, c, h2⟩
  · rw [h2]; exact ⟨rfl, rfl, rfl, OneR.rfl' _⟩
  · subst h2; exact ⟨rfl, rfl, rfl, rfl, rfl, rfl, Or.inl rfl, fun k => by rw [a] at k; cases k⟩
  · subst h2; exact ⟨rfl, rfl, rfl, rfl, rfl, rfl, Or.inl rfl, fun k => by rw [a] at k; cases k⟩
theorem EndRel.mem {ps ps' : List PD} {own : Int} {r : Int × Int} (h : EndRel ps ps' own r) {q' : PD} (hq : q' ∈ ps') : ∃ (k : Nat) (q : PD), ps[k]? = some q ∧ ps'[k]? = some q' := by
  obtain ⟨k, hk, e⟩ := List.getElem_of_mem hq
  have hk2 : k < ps.length := by rw [← h.len]; exact hk
  exact ⟨k, ps[k], List.getElem?_eq_getElem hk2, by rw [← e]; exact List.getElem?_eq_getElem hk⟩
theorem DoRel.fall {D : MD} (h : MInv D) {i : Nat} {p : PD} (hp : D.ps[i]? = some p) (hd : p.dead = false) (r : Int × Int) (h1 : 0 ≤ r.1) (h2 : r.1 ≤ 5) : DoRel D (fallD D i p r) i p := by
  obtain ⟨a1, a2, a3, a4, a5⟩ := fallD_rel h hp hd r
  refine ⟨a1, a3, a4, Or.inl a2.len, fun q hq => ?_, fun k q hk => ?_, Or.inr ⟨r, h1, h2, fun k q q' hk hk' hq => ⟨fun e => ?_, fun e hq' => ?_⟩⟩, Or.inl ⟨0, fun k q q' hk hk' _ => Or.inl (a2.boxes hk hk').1⟩, fun a q hq => ?_, fun a b q hq => ?_⟩
  · rw [← a2.len, len_none] at hq; cases hq
  · obtain ⟨q', b1, b2⟩ := a2.at' k q hk
    exact ⟨q', b1, (a2.boxes hk b1).2.2.2⟩
  · subst e
    rw [a5] at hk'; cases hk'
    exact ⟨rfl, rfl⟩
  · obtain ⟨x, b1, b2⟩ := a2.at' k q hk
    rw [hk'] at b1; cases b1
    rcases b2 with b2 | ⟨c1, c2, b2⟩ | ⟨c1, c2, c3, b2⟩
    · rw [b2, hq] at hq'; cases hq'
    · exfalso
      obtain ⟨l1, l2⟩ := List.getElem?_eq_some_iff.1 hk
      obtain ⟨l3, l4⟩ := List.getElem?_eq_some_iff.1 hp
      exact e ((List.getElem_inj (h₀ := by simpa using l1) (h₁ := by simpa using l3) h.pidU).1 (by simp [l2, l4, c2]))
    · subst b2; exact ⟨rfl, c3⟩
  · obtain ⟨k, q0, b1, b2⟩ := a2.mem hq
    rw [(a2.boxes b1 b2).1]; exact a q0 (List.mem_of_getElem? b1)
  · obtain ⟨k, q0, b1, b2⟩ := a2.mem hq
    rw [(a2.boxes b1 b2).2.1]; exact b q0 (List.mem_of_getElem? b1)
end Go.Proofs.YtbomkomipaipmaaGreat
namespace Go.Proofs.YtbomkomipaipmaaGreat
set_option maxRecDepth 100000

theorem newF_len (m : List Actr) (k : Int) (args : List Int) (hr : ∀ a ∈ m, a.regs.length ≤ lenMax) (hl : args.length ≤ lenMax) : (newF m k args).1.stack.length ≤ lenMax ∧ (newF m k args).1.regs.length ≤ lenMax := by
  unfold newF; split
  · simp [sta0]
  · rename_i h1
    split
    · simp [sta0]
    · have h2 : (actr m k).regs.length ≤ lenMax := by
        have h3 : k.toNat < m.length := by omega
        have : actr m k = m[k.toNat] := by simp [actr, h3]
        rw [this]; exact hr _ (List.getElem_mem h3)
      simp; omega
theorem gotF_len (s : Sta) (pid : Int) (_ : s.stack.length ≤ lenMax) (h2 : s.regs.length ≤ lenMax) : (gotF s pid).1.stack.length ≤ lenMax ∧ (gotF s pid).1.regs.length ≤ lenMax := by
  unfold gotF; split
  · simp [sta0]
  · refine ⟨?_, h2⟩
    simp; unfold lenMax; omega
theorem DoRel.same {D D' : MD} (h : MInv D') (e1 : D'.ps = D.ps) (e2 : D'.m = D.m) (e3 : D'.now = D.now) (i : Nat) (p : PD) : DoRel D D' i p := by
  refine ⟨h, e2, e3, Or.inl (by rw [e1]), fun q hq => ?_, fun k q hk => ⟨q, by rw [e1]; exact hk, OneR.rfl' q⟩, Or.inl fun k q q' hk hk' => ?_, Or.inl ⟨0, fun k q q' hk hk' _ => Or.inl ?_⟩, fun a => by rw [e1]; exact a, fun _ a => by rw [e1]; exact a⟩
  · rw [e1, len_none] at hq; cases hq
  · rw [e1, hk] at hk'; cases hk'; rfl
  · rw [e1, hk] at hk'; cases hk'; rfl
theorem Boxes.same {ps ps' : List PD} {i : Nat} (h : ∀ (k : Nat) (q q' : PD), ps[k]? = some q → ps'[k]? = some q' → q'.dead = false → q'.box = q.box) : Boxes ps ps' i := Or.inl ⟨0, fun k q q' a b c => Or.inl (h k q q' a b c)⟩
theorem MidR.box0 {D D1 : MD} {i : Nat} {p p1 : PD} (h : MidR D D1 i p p1 none) {k : Nat} {q : PD} (hk : D.ps[k]? = some q) : ∃ q1, D1.ps[k]? = some q1 ∧ q1.box = q.box := by
  rw [h.get]
  by_cases e : k = i
  · subst e; rw [h.hp] at hk; cases hk
    exact ⟨p1, by rw [if_pos rfl], h.box⟩
  · exact ⟨q, by rw [if_neg e]; exact hk, rfl⟩
theorem MidR.boxes {D D1 D' : MD} {i : Nat} {p p1 : PD} (h : MidR D D1 i p p1 none) (hb : Boxes D1.ps D'.ps i) (_ : p.box = p1.box) : Boxes D.ps D'.ps i := by
  rcases hb with ⟨t, hb⟩ | ⟨j, m, hb⟩
  · refine Or.inl ⟨t, fun k q q' a b c => ?_⟩
    obtain ⟨q1, d1, d2⟩ := h.box0 a
    rw [← d2]; exact hb k q1 q' d1 b c
  · refine Or.inr ⟨j, m, fun k q q' a b c => ?_⟩
    obtain ⟨q1, d1, d2⟩ := h.box0 a
    rw [← d2]; exact hb k q1 q' d1 b c
/-- a mailbox gets one -/
theorem DoRel.put {D : MD} (h : MInv D) {j : Nat} {q : PD} (hq : D.ps[j]? = some q) (hd : q.dead = false) (h16 : ¬ q.box.length = 16) (m : Int × Int) (i : Nat) (p : PD) : DoRel D (Go.Proofs.YtbomkomipaipmaaGreat.setD D j { q with box := q.box ++ [m] }) i p := by
  refine DoRel.set (p' := { q with box := q.box ++ [m] }) h hq rfl rfl rfl rfl (Or.inl rfl) hd (Or.inr ⟨j, m, fun k x x' a b _ => ?_⟩) (fun k => by rw [List.length_append, List.length_singleton]; omega) (fun _ k => k)
  simp only [Go.Proofs.YtbomkomipaipmaaGreat.setD] at b
  rw [get_set hq] at b
  by_cases e : k = j
  · subst e; rw [hq] at a; cases a; rw [if_pos rfl] at b; cases b
    exact Or.inr ⟨rfl, rfl⟩
  · rw [if_neg e, a] at b; cases b; exact Or.inl rfl
theorem DoRel.spawn {D : MD} (h : MInv D) {i : Nat} {p : PD} (hp : D.ps[i]? = some p) (hd : p.dead = false) (e : Eff) (hA : e.args.length ≤ lenMax) : DoRel D (spawnsD D i p e) i p := by
  unfold spawnsD
  have hi : i < D.ps.length := (List.getElem?_eq_some_iff.1 hp).1
  have hI := h.spawn p.pid e.actor e.args
  cases hl : lowS D.tab.sl with
  | none =>
    rw [spawnD_none hl]
    simp only [Bool.false_eq_true, if_false]
    exact DoRel.fall h hp hd (3, 0) (by decide) (by decide)
  | some s =>
    rw [spawnD_some hl] at hI ⊢
    simp only [if_true]
    simp only at hI
    generalize pidOf (D.tab.sl[s]'(lowS_some hl).1).1 s = np at hI ⊢
    generalize takeT D.tab s (lowS_some hl).1 = T at hI ⊢
    have hp' : (D.ps ++ [spawnP D p.pid e.actor e.args np])[i]? = some p := by rw [List.getElem?_append_left hi]; exact hp
    have hg : ∀ k, k < D.ps.length → (D.ps ++ [spawnP D p.pid e.actor e.args np])[k]? = D.ps[k]? := fun k hk => List.getElem?_append_left hk
    have hset : ∀ k q, D.ps[k]? = some q → (Go.Proofs.YtbomkomipaipmaaGreat.setD { D with ps := D.ps ++ [spawnP D p.pid e.actor e.args np], tab := T } i { p with st := (gotF p.st np).1 }).ps[k]? = if k = i then some { p with st := (gotF p.st np).1 } else some q := fun k q hk => by
      simp only [Go.Proofs.YtbomkomipaipmaaGreat.setD]
      rw [get_set hp', hg k (List.getElem?_eq_some_iff.1 hk).1, hk]
    refine ⟨hI.setD (D := { D with ps := D.ps ++ [spawnP D p.pid e.actor e.args np], tab := T }) hp' rfl rfl, rfl, rfl, Or.inr (by simp [Go.Proofs.YtbomkomipaipmaaGreat.setD]), fun q hq => ?_, fun k q hk => ?_, Or.inl fun k q q' hk hk' => ?_, Boxes.same fun k q q' hk hk' _ => ?_, fun a q hq => ?_, fun a b q hq => ?_⟩
    · simp only [Go.Proofs.YtbomkomipaipmaaGreat.setD] at hq
      rw [get_set hp', if_neg (by omega)] at hq
      simp at hq
      subst hq
      exact ⟨rfl, rfl, rfl⟩
    · rw [hset k q hk]
      by_cases e1 : k = i
      · subst e1; rw [hp] at hk; cases hk
        exact ⟨{ p with st := (gotF p.st np).1 }, if_pos rfl, rfl, rfl, rfl, Or.inl rfl, fun k => by rw [hd] at k; cases k⟩
      · exact ⟨q, if_neg e1, OneR.rfl' q⟩
    · rw [hset k q hk] at hk'
      by_cases e1 : k = i
      · subst e1; rw [hp] at hk; cases hk; rw [if_pos rfl] at hk'; cases hk'; rfl
      · rw [if_neg e1] at hk'; cases hk'; rfl
    · rw [hset k q hk] at hk'
      by_cases e1 : k = i
      · subst e1; rw [hp] at hk; cases hk; rw [if_pos rfl] at hk'; cases hk'; rfl
      · rw [if_neg e1] at hk'; cases hk'; rfl
    · rcases List.mem_or_eq_of_mem_set hq with k | k
      · rcases List.mem_append.1 k with k | k
        · exact a q k
        · have k := List.mem_singleton.1 k
          subst k; simp [spawnP]
      · subst k; exact a p (List.mem_of_getElem? hp)
    · rcases List.mem_or_eq_of_mem_set hq with k | k
      · rcases List.mem_append.1 k with k | k
        · exact b q k
        · have k := List.mem_singleton.1 k
          subst k
          exact newF_len _ _ _ a hA
      · subst k
        have := b p (List.mem_of_getElem? hp)
        exact gotF_len _ _ this.1 this.2
theorem effD_rel {D D1 : MD} {i : Nat} {p p1 : PD} {t : Option Nat} (hm : MidR D D1 i p p1 t) (h : MInv D) {e : Eff} (he : EK e) (ht : t = none ∨ e.kind = 0) (hA : e.args.length ≤ lenMax) (m1 m2 : Nat) : DoRel D (effD m1 m2 D1 i p1 e) i p := by
  have h1 := hm.inv h
  have hp1 := hm.self
  have hd1 : p1.dead = false := by rw [hm.dead]; exact hm.alive
  have go : t = none → ∀ {D'}, DoRel D1 D' i p1 → DoRel D D' i p := fun ht D' r => by
    subst ht
    exact hm.pre r (hm.boxes r.boxes hm.box.symm)
  unfold effD
  by_cases e1 : e.kind = 1
  · have ht : t = none := ht.resolve_right (by omega)
    rw [if_pos e1]
    refine go ht (DoRel.set (p' := { p1 with out := p1.out ++ [e.n] }) h1 hp1 rfl rfl rfl rfl (Or.inr ⟨_, rfl⟩) hd1 (Boxes.same fun k q q' a b _ => ?_) _root_.id fun _ k => k)
    simp only [Go.Proofs.YtbomkomipaipmaaGreat.setD] at b
    rw [get_set hp1] at b
    by_cases e : k = i
    · subst e; rw [hp1] at a; cases a; rw [if_pos rfl] at b; cases b; rfl
    · rw [if_neg e, a] at b; cases b; rfl
  rw [if_neg e1]
  by_cases e2 : e.kind = 2
  · have ht : t = none := ht.resolve_right (by omega)
    rw [if_pos e2]
    refine go ht ?_
    unfold sendD
    cases ha : atP D1.ps e.dest with
    | none => exact DoRel.same h1 rfl rfl rfl _ _
    | some j =>
      obtain ⟨q, hq, hqd, _⟩ := atP_some ha
      simp only [hq]
      split
      · exact DoRel.fall h1 hp1 hd1 (4, 0) (by decide) (by decide)
      · rename_i hc
        exact DoRel.put h1 hq hqd hc _ _ _
  rw [if_neg e2]
  by_cases e3 : e.kind = 3
  · have ht : t = none := ht.resolve_right (by omega)
    rw [if_pos e3]
    exact go ht (DoRel.spawn h1 hp1 hd1 e hA)
  rw [if_neg e3]
  by_cases e4 : e.kind = 4
  · have ht : t = none := ht.resolve_right (by omega)
    rw [if_pos e4]
    refine go ht ?_
    unfold linkD
    cases ha : atP D1.ps e.dest with
    | none => exact DoRel.same h1 rfl rfl rfl _ _
    | some j =>
      obtain ⟨q, hq, hqd, hqp⟩ := atP_some ha
      simp only
      split
      · exact DoRel.fall h1 hp1 hd1 (5, 0) (by decide) (by decide)
      · exact DoRel.same (D := D1) (h1.link ⟨i, p1, hp1, hd1, rfl⟩ ⟨j, q, hq, hqd, hqp⟩ m1 m2) rfl rfl rfl _ _
  rw [if_neg e4]
  by_cases e5 : e.kind = 5
  · have ht : t = none := ht.resolve_right (by omega)
    rw [if_pos e5]
    have := he.1 e5
    exact go ht (DoRel.fall h1 hp1 hd1 e.reason (by omega) (by omega))
  rw [if_neg e5]
  refine hm.pre (DoRel.same h1 rfl rfl rfl _ _) (Or.inl ⟨t.getD 0, fun k q q' a b _ => ?_⟩)
  rw [hm.get] at b
  by_cases e : k = i
  · subst e; rw [hm.hp] at a; cases a; rw [if_pos rfl] at b; cases b
    have := hm.box
    cases t with
    | none => exact Or.inl this
    | some t => exact Or.inr ⟨rfl, this⟩
  · rw [if_neg e, a] at b; cases b; exact Or.inl rfl
theorem midR {D : MD} {i : Nat} {p : PD} (hp : D.ps[i]? = some p) (hd : p.dead = false) {r : Sta × Eff × Int} (hs : p.st.stack.length ≤ lenMax → p.st.regs.length ≤ lenMax → r.1.stack.length ≤ lenMax ∧ r.1.regs.length ≤ lenMax) :
    MidR D (Go.Proofs.YtbomkomipaipmaaGreat.setD D i (midP p r)) i p (midP p r) (if 0 ≤ r.2.1.taken then some r.2.1.taken.toNat else none) :=
  ⟨rfl, hp, hd, rfl, rfl, rfl, rfl, rfl, by unfold midP; split <;> rfl, hs⟩
/-- a reduction -/
theorem doD_rel {D : MD} (h : MInv D) {i : Nat} {p : PD} (hp : D.ps[i]? = some p) (hd : p.dead = false) (hl : p.st.stack.length ≤ lenMax ∧ p.st.regs.length ≤ lenMax) (m1 m2 : Nat) : DoRel D (doD m1 m2 D i p) i p := by
  have hk := step_ek D.m p.pid p.st D.now p.box
  have hlen := stepF_lens D.m p.pid p.st D.now p.box hl.1 hl.2
  unfold doD
  refine effD_rel (midR hp hd fun _ _ => ⟨hlen.1, hlen.2.1⟩) h hk ?_ hlen.2.2 m1 m2
  rcases hk.2 with k | k
  · left; rw [if_neg (by omega)]
  · exact Or.inr k
end Go.Proofs.YtbomkomipaipmaaGreat
namespace Go.Proofs.YtbomkomipaipmaaGreat
set_option maxRecDepth 100000

def wokenP (D : MD) (i : Nat) : List Int := match D.ps[i]? with
  | some p => if !p.dead && readyP D p then [p.pid] else []
  | none => []
def wokenL (D : MD) (is : List Nat) : List Int := is.flatMap (wokenP D)
def waitP (D : MD) (x : Int) : Option Nat := match atP D.ps x with
  | some i => match D.ps[i]? with
    | some p => if readyP D p then none else some i
    | none => none
  | none => none
/-- those that live and aren't runnable -/
def liveP (D : MD) : List Int := sorted (allP D.tab.sl 0)
def waitL (D : MD) : List Nat := (liveP D).filterMap (waitP D)
theorem MInv.liveM {D : MD} (h : MInv D) (x : Int) : x ∈ liveP D ↔ Alive D.ps x := by
  unfold liveP
  rw [(sorted_perm _).mem_iff]; exact h.live x
theorem MInv.liveLt {D : MD} (h : MInv D) : (liveP D).Pairwise (· < ·) := by
  have h1 : (liveP D).Nodup := (sorted_perm _).nodup_iff.2 (allP_nd _ _ (by have := h.tab.len; omega))
  have h2 := sorted_pair (allP D.tab.sl 0)
  exact (h2.and h1).imp fun {a b} hab => by have := hab.1; have := hab.2; omega
theorem MInv.at {D : MD} (h : MInv D) {x : Int} : Alive D.ps x ↔ ∃ i p, atP D.ps x = some i ∧ D.ps[i]? = some p ∧ p.dead = false ∧ p.pid = x := by
  constructor
  · rintro ⟨i, p, h1, h2, rfl⟩
    exact ⟨i, p, atP_eq h.pidU h1 h2, h1, h2, rfl⟩
  · rintro ⟨i, p, _, h1, h2, h3⟩
    exact ⟨i, p, h1, h2, h3⟩
theorem MInv.uniq {D : MD} (h : MInv D) {i j : Nat} {p q : PD} (hp : D.ps[i]? = some p) (hq : D.ps[j]? = some q) (e : p.pid = q.pid) : i = j := by
  obtain ⟨l1, l2⟩ := List.getElem?_eq_some_iff.1 hp
  obtain ⟨l3, l4⟩ := List.getElem?_eq_some_iff.1 hq
  exact (List.getElem_inj (h₀ := by simpa using l1) (h₁ := by simpa using l3) h.pidU).1 (by simp [l2, l4, e])
theorem runnableP_eq {D : MD} (h : MInv D) {i : Nat} {p : PD} (hp : D.ps[i]? = some p) (hd : p.dead = false) : runnableP D p.pid = readyP D p := by
  unfold runnableP
  rw [atP_eq h.pidU hp hd]
  simp only [hp]
theorem waitL_mem {D : MD} (h : MInv D) (i : Nat) : i ∈ waitL D ↔ ∃ p, D.ps[i]? = some p ∧ p.dead = false ∧ readyP D p = false := by
  unfold waitL
  rw [List.mem_filterMap]
  constructor
  · rintro ⟨x, hx, hw⟩
    obtain ⟨j, p, a1, a2, a3, a4⟩ := h.at.1 ((h.liveM x).1 hx)
    unfold waitP at hw
    rw [a1] at hw
    simp only [a2] at hw
    cases hr : readyP D p with
    | true => rw [hr] at hw; simp at hw
    | false => rw [hr] at hw; simp at hw; subst hw; exact ⟨p, a2, a3, hr⟩
  · rintro ⟨p, a2, a3, hr⟩
    refine ⟨p.pid, (h.liveM _).2 ⟨i, p, a2, a3, rfl⟩, ?_⟩
    unfold waitP
    rw [atP_eq h.pidU a2 a3]
    simp only [a2, hr]; rfl
theorem waitL_nd {D : MD} (h : MInv D) : (waitL D).Nodup := by
  unfold waitL
  have h1 : (liveP D).Nodup := h.liveLt.imp fun {a b} h => by omega
  refine List.Pairwise.filterMap (R := (· ≠ ·)) (waitP D) ?_ h1
  intro a b hab c ha c' hb hcc
  subst hcc
  refine hab ?_
  unfold waitP at ha hb
  cases h2 : atP D.ps a with
  | none => rw [h2] at ha; simp at ha
  | some i =>
    cases h3 : atP D.ps b with
    | none => rw [h3] at hb; simp at hb
    | some j =>
      obtain ⟨p, a1, a2, a3⟩ := atP_some h2
      obtain ⟨q, b1, b2, b3⟩ := atP_some h3
      rw [h2] at ha; rw [h3] at hb
      simp only [a1, b1] at ha hb
      split at ha
      · simp at ha
      · split at hb
        · simp at hb
        · simp at ha hb
          have : i = j := by rw [ha, hb]
          subst this
          rw [a1] at b1; cases b1
          rw [← a3, ← b3]
theorem waitL_lt {D : MD} (h : MInv D) {i : Nat} (hi : i ∈ waitL D) : i < D.ps.length := by
  obtain ⟨p, hp, _⟩ := (waitL_mem h i).1 hi
  exact (List.getElem?_eq_some_iff.1 hp).1
theorem waitL_len {D : MD} (h : MInv D) : (waitL D).length ≤ 32 := by
  unfold waitL
  refine Nat.le_trans (List.length_filterMap_le _ _) ?_
  unfold liveP
  simp
  have := allP_len D.tab.sl 0
  have := h.tab.len
  omega
theorem wokenL_mem {D : MD} {is : List Nat} {x : Int} : x ∈ wokenL D is ↔ ∃ i ∈ is, ∃ p, D.ps[i]? = some p ∧ p.dead = false ∧ readyP D p = true ∧ p.pid = x := by
  unfold wokenL
  rw [List.mem_flatMap]
  constructor
  · rintro ⟨i, hi, hx⟩
    refine ⟨i, hi, ?_⟩
    unfold wokenP at hx
    cases hp : D.ps[i]? with
    | none => rw [hp] at hx; simp at hx
    | some p =>
      rw [hp] at hx
      simp only at hx
      split at hx
      · rename_i hc
        simp at hc hx
        exact ⟨p, rfl, hc.1, hc.2, hx.symm⟩
      · simp at hx
  · rintro ⟨i, hi, p, hp, hd, hr, rfl⟩
    exact ⟨i, hi, by unfold wokenP; simp [hp, hd, hr]⟩
theorem wokenP_len (D : MD) (i : Nat) : (wokenP D i).length ≤ 1 := by
  unfold wokenP
  split
  · split <;> simp
  · simp
theorem wokenL_len (D : MD) (is : List Nat) : (wokenL D is).length ≤ is.length := by
  unfold wokenL
  induction is with
  | nil => simp
  | cons i is ih =>
    have := wokenP_len D i
    simp only [List.flatMap_cons, List.length_append, List.length_cons]; omega
theorem wokenL_nd {D : MD} (h : MInv D) : ∀ (is : List Nat), is.Nodup → (wokenL D is).Nodup
  | [], _ => by simp [wokenL]
  | i :: is, hn => by
    have hn' := List.nodup_cons.1 hn
    have ih := wokenL_nd h is hn'.2
    show (wokenP D i ++ wokenL D is).Nodup
    rw [List.nodup_append]
    refine ⟨?_, ih, fun a ha b hb e => ?_⟩
    · have := wokenP_len D i
      match wokenP D i, this with
      | [], _ => simp
      | [a], _ => simp
    · subst e
      obtain ⟨j, hj, q, b1, b2, b3, b4⟩ := wokenL_mem.1 hb
      have : a ∈ wokenL D [i] := by simpa [wokenL] using ha
      obtain ⟨j', hj', q', c1, c2, c3, c4⟩ := wokenL_mem.1 this
      have hj' := List.mem_singleton.1 hj'
      subst hj'
      have := h.uniq c1 b1 (c4.trans b4.symm)
      subst this
      exact hn'.1 hj
/-- those that the law wants -/
def runL (D : MD) : List Int := (liveP D).filter (runnableP D)
def wantB (D D' : MD) (pid : Int) (x : Int) : Bool := runnableP D' x && (x != pid && !(runL D).contains x)
def wantL (D D' : MD) (pid : Int) : List Int := (liveP D').filter (wantB D D' pid)
theorem wantL_lt {D D' : MD} (h' : MInv D') (pid : Int) : (wantL D D' pid).Pairwise (· < ·) := h'.liveLt.sublist List.filter_sublist
theorem wantL_mem {D D' : MD} (h : MInv D) (h' : MInv D') (pid x : Int) : x ∈ wantL D D' pid ↔ (∃ (i : Nat) (p : PD), D'.ps[i]? = some p ∧ p.dead = false ∧ readyP D' p = true ∧ p.pid = x) ∧ x ≠ pid ∧ ¬ ∃ (i : Nat) (p : PD), D.ps[i]? = some p ∧ p.dead = false ∧ readyP D p = true ∧ p.pid = x := by
  have key : ∀ {D : MD} (h : MInv D) (x : Int), (x ∈ liveP D ∧ runnableP D x = true) ↔ ∃ (i : Nat) (p : PD), D.ps[i]? = some p ∧ p.dead = false ∧ readyP D p = true ∧ p.pid = x := fun {D} h x => by
    constructor
    · rintro ⟨a, b⟩
      obtain ⟨i, p, a1, a2, a3, a4⟩ := h.at.1 ((h.liveM x).1 a)
      refine ⟨i, p, a2, a3, ?_, a4⟩
      rw [← runnableP_eq h a2 a3, a4]; exact b
    · rintro ⟨i, p, a2, a3, a5, rfl⟩
      exact ⟨(h.liveM _).2 ⟨i, p, a2, a3, rfl⟩, by rw [runnableP_eq h a2 a3]; exact a5⟩
  unfold wantL wantB
  rw [List.mem_filter]
  simp only [Bool.and_eq_true, bne_iff_ne, ne_eq, Bool.not_eq_true', List.contains_eq_mem, decide_eq_false_iff_not]
  rw [← key h', ← key h]
  unfold runL
  rw [List.mem_filter]
  constructor
  · rintro ⟨a, b, c, d⟩; exact ⟨⟨a, b⟩, c, d⟩
  · rintro ⟨⟨a, b⟩, c, d⟩; exact ⟨a, b, c, d⟩
theorem sorted_lt {l : List Int} (h : l.Nodup) : (sorted l).Pairwise (· < ·) := by
  have h1 : (sorted l).Nodup := (sorted_perm _).nodup_iff.2 h
  exact ((sorted_pair l).and h1).imp fun {a b} hab => by have := hab.1; have := hab.2; omega
def newL (D D' : MD) : List Nat := (List.range (D'.ps.length - D.ps.length)).map (D.ps.length + ·)
theorem newL_mem {D D' : MD} (hl : D.ps.length ≤ D'.ps.length) (i : Nat) : i ∈ newL D D' ↔ D.ps.length ≤ i ∧ i < D'.ps.length := by
  unfold newL
  rw [List.mem_map]
  constructor
  · rintro ⟨k, hk, rfl⟩
    have := List.mem_range.1 hk
    omega
  · rintro ⟨a, b⟩
    exact ⟨i - D.ps.length, List.mem_range.2 (by omega), by omega⟩
/-- a reduction wakes those that the law wants -/
theorem do_wakes {D D' : MD} {i : Nat} {p : PD} (h : MInv D) (r : DoRel D D' i p) (hp : D.ps[i]? = some p) (_ : p.dead = false) (hr : readyP D p = true) : sorted (wokenL D' (waitL D ++ newL D D')) = wantL D D' p.pid := by
  have hl : D.ps.length ≤ D'.ps.length := by rcases r.len with k | k <;> omega
  have hnd : (waitL D ++ newL D D').Nodup := by
    rw [List.nodup_append]
    refine ⟨waitL_nd h, ?_, fun a ha b hb e => ?_⟩
    · unfold newL
      exact List.pairwise_map.2 (List.nodup_range.imp fun {a b} hab => by omega)
    · have h1 := waitL_lt h ha
      have h2 := ((newL_mem hl b).1 hb).1
      omega
  refine pair_lt_unique (sorted_lt (wokenL_nd r.inv _ hnd)) (wantL_lt r.inv _) fun x => ?_
  rw [(sorted_perm _).mem_iff, wokenL_mem, wantL_mem h r.inv]
  constructor
  · rintro ⟨j, hj, q', a1, a2, a3, rfl⟩
    refine ⟨⟨j, q', a1, a2, a3, rfl⟩, ?_⟩
    rcases List.mem_append.1 hj with hj | hj
    · obtain ⟨q, b1, b2, b3⟩ := (waitL_mem h j).1 hj
      obtain ⟨q2, c1, c2⟩ := r.old j q b1
      rw [a1] at c1; cases c1
      refine ⟨fun e => ?_, fun ⟨j2, q2, d1, d2, d3, d4⟩ => ?_⟩
      · have := h.uniq b1 hp (by rw [← c2.pid, e])
        subst this
        rw [hp] at b1; cases b1
        rw [hr] at b3; cases b3
      · have := h.uniq d1 b1 (by rw [d4, c2.pid])
        subst this
        rw [d1] at b1; cases b1
        rw [d3] at b3; cases b3
    · have hj' := (newL_mem hl j).1 hj
      have old : ∀ (j2 : Nat) (q2 : PD), D.ps[j2]? = some q2 → q2.pid ≠ q'.pid := fun j2 q2 d1 e => by
        obtain ⟨q3, e1, e2⟩ := r.old j2 q2 d1
        have := r.inv.uniq e1 a1 (by rw [e2.pid, e])
        subst this
        have := (List.getElem?_eq_some_iff.1 d1).1
        omega
      exact ⟨fun e => old i p hp e.symm, fun ⟨j2, q2, d1, d2, d3, d4⟩ => old j2 q2 d1 d4⟩
  · rintro ⟨⟨j, q', a1, a2, a3, rfl⟩, b1, b2⟩
    refine ⟨j, ?_, q', a1, a2, a3, rfl⟩
    rw [List.mem_append]
    rcases Nat.lt_or_ge j D.ps.length with hj | hj
    · left
      obtain ⟨q2, c1, c2⟩ := r.old j _ (List.getElem?_eq_getElem hj)
      rw [a1] at c1; cases c1
      have hq : D.ps[j]? = some D.ps[j] := List.getElem?_eq_getElem hj
      have hdq : D.ps[j].dead = false := by
        cases hx : D.ps[j].dead with
        | false => rfl
        | true => have := c2.dead hx; rw [this, hx] at a2; cases a2
      refine (waitL_mem h j).2 ⟨D.ps[j], hq, hdq, ?_⟩
      cases hx : readyP D D.ps[j] with
      | false => rfl
      | true => exact absurd ⟨j, D.ps[j], hq, hdq, hx, c2.pid.symm⟩ b2
    · right
      exact (newL_mem hl j).2 ⟨hj, (List.getElem?_eq_some_iff.1 a1).1⟩
/-- time wakes those that the law wants -/
theorem tick_wakes {D D' : MD} (h : MInv D) (h' : MInv D') (e1 : D'.ps = D.ps) (e2 : D'.tab = D.tab) (pid : Int) (h0 : pid < 1) : wokenL D' (waitL D) = wantL D D' pid := by
  have eL : liveP D' = liveP D := by unfold liveP; rw [e2]
  unfold wokenL waitL wantL
  rw [eL]
  have hall : ∀ x ∈ liveP D, Alive D.ps x := fun x hx => (h.liveM x).1 hx
  have hrun : ∀ x ∈ liveP D, x ∈ runL D ↔ runnableP D x = true := fun x hx => by
    unfold runL; rw [List.mem_filter]; simp [hx]
  revert hall hrun
  generalize liveP D = L
  intro hall hrun
  induction L with
  | nil => rfl
  | cons x L ih =>
    have ih := ih (fun y hy => hall y (List.mem_cons_of_mem _ hy)) fun y hy => hrun y (List.mem_cons_of_mem _ hy)
    obtain ⟨i, p, a1, a2, a3, a4⟩ := h.at.1 (hall x List.mem_cons_self)
    have hx := hrun x List.mem_cons_self
    have hpos := (h.pos (List.mem_of_getElem? a2)).1
    have r1 : runnableP D x = readyP D p := by rw [← a4]; exact runnableP_eq h a2 a3
    have r2 : runnableP D' x = readyP D' p := by rw [← a4]; exact runnableP_eq h' (by rw [e1]; exact a2) a3
    have hne : (x != pid) = true := by simp; omega
    have hwt : waitP D x = if readyP D p = true then none else some i := by
      unfold waitP; rw [a1]; simp only [a2]
    cases hr : readyP D p with
    | true =>
      rw [hr] at hwt
      simp only [if_true] at hwt
      rw [List.filterMap_cons, List.filter_cons, hwt]
      simp only
      have hc : (runL D).contains x = true := by simp; rw [hx, r1]; exact hr
      have : wantB D D' pid x = false := by unfold wantB; rw [hc]; simp
      rw [if_neg (by rw [this]; simp)]
      exact ih
    | false =>
      have hc : (runL D).contains x = false := by
        simp; rw [hx, r1, hr]; simp
      have hB : wantB D D' pid x = readyP D' p := by unfold wantB; rw [hc, hne, r2]; simp
      rw [hr] at hwt
      simp only [Bool.false_eq_true, if_false] at hwt
      rw [List.filterMap_cons, List.filter_cons, hwt]
      simp only [List.flatMap_cons]
      rw [hB]
      have hw : wokenP D' i = if readyP D' p = true then [x] else [] := by
        unfold wokenP
        rw [e1, a2]
        simp [a3, a4]
      rw [hw, ← ih]
      cases readyP D' p <;> simp
end Go.Proofs.YtbomkomipaipmaaGreat
namespace Go.Proofs.YtbomkomipaipmaaGreat
set_option maxRecDepth 100000

structure Good (k : Nat) (D : MD) : Prop where
  inv : MInv D
  mod : ModS D.m
  stk : ∀ p ∈ D.ps, p.st.stack.length ≤ lenMax ∧ p.st.regs.length ≤ lenMax
  box : ∀ p ∈ D.ps, p.box.length ≤ 16
  num : D.ps.length ≤ k + 1
  out : ∀ p ∈ D.ps, p.out.length ≤ k
  now : 0 ≤ D.now ∧ D.now ≤ k
  par : ∀ (i : Nat) (p : PD), D.ps[i]? = some p → (i = 0 ∨ 1 ≤ p.parent) ∧ p.parent ≠ p.pid
theorem Good.ok {k : Nat} {D : MD} (h : Good k D) : MachOK D := h.inv.ok h.mod h.stk h.box
theorem Good.more {k k' : Nat} {D : MD} (h : Good k D) (hk : k ≤ k') : Good k' D := ⟨h.inv, h.mod, h.stk, h.box, by have := h.num; omega, fun p hp => Nat.le_trans (h.out p hp) hk, ⟨h.now.1, by have := h.now.2; omega⟩, h.par⟩
theorem Good.rel {k : Nat} {D D' : MD} {i : Nat} {p : PD} (h : Good k D) (hp : D.ps[i]? = some p) (r : DoRel D D' i p) : Good (k + 1) D' := by
  have hreg : ∀ a ∈ D.m, a.regs.length ≤ lenMax := fun a ha => by have := (h.mod.par a ha); unfold lenMax; omega
  have hnew : ∀ (j : Nat) (q : PD), D'.ps[j]? = some q → (∃ q0, D.ps[j]? = some q0 ∧ OneR q0 q) ∨ (j = D.ps.length ∧ q.dead = false ∧ q.parent = p.pid ∧ q.out = []) := fun j q hq => by
    rcases Nat.lt_or_ge j D.ps.length with hj | hj
    · left
      obtain ⟨q1, c1, c2⟩ := r.old j _ (List.getElem?_eq_getElem hj)
      rw [hq] at c1; cases c1
      exact ⟨_, List.getElem?_eq_getElem hj, c2⟩
    · right
      have hj2 := (List.getElem?_eq_some_iff.1 hq).1
      have : j = D.ps.length := by rcases r.len with l | l <;> omega
      subst this
      exact ⟨rfl, r.new q hq⟩
  refine ⟨r.inv, by rw [r.m]; exact h.mod, r.stk hreg h.stk, r.b16 h.box, ?_, fun q hq => ?_, ?_, fun j q hq => ?_⟩
  · have := h.num; rcases r.len with l | l <;> omega
  · obtain ⟨j, hj, e⟩ := List.getElem_of_mem hq
    rcases hnew j q (by rw [← e]; exact List.getElem?_eq_getElem hj) with ⟨q0, a, b⟩ | ⟨_, _, _, b⟩
    · have := h.out q0 (List.mem_of_getElem? a)
      rcases b.out with c | ⟨x, c⟩
      · rw [c]; omega
      · rw [c]; simp; omega
    · rw [b]; simp
  · rw [r.now]; exact ⟨h.now.1, by have := h.now.2; omega⟩
  · rcases hnew j q hq with ⟨q0, a, b⟩ | ⟨hj, _, b, _⟩
    · rw [b.par, b.pid]; exact h.par j q0 a
    · have := (h.inv.pos (List.mem_of_getElem? hp)).1
      rw [b]
      refine ⟨Or.inr this, fun e => ?_⟩
      obtain ⟨q1, c1, c2⟩ := r.old i p hp
      have := r.inv.uniq c1 hq (by rw [c2.pid, e])
      have := (List.getElem?_eq_some_iff.1 hp).1
      omega
theorem MInv.tick {D : MD} (h : MInv D) : MInv (tickD D) := ⟨h.tab, h.pidU, h.used, h.taken, h.wk, h.wal, h.wsy, h.wnd⟩
theorem Good.tick {k : Nat} {D : MD} (h : Good k D) : Good (k + 1) (tickD D) := by
  refine ⟨h.inv.tick, h.mod, h.stk, h.box, by have := h.num; simp only [tickD]; omega, fun p hp => by have := h.out p hp; omega, ?_, h.par⟩
  have := h.now
  simp only [tickD]
  omega
/-- what Do does -/
def DoR (D : MD) (pid : Int) (D' : MD) (l : List Int) (e : Int) : Prop :=
  match atP D.ps pid with
  | none => D' = D ∧ l = [] ∧ e = 6
  | some i => ∀ p, D.ps[i]? = some p → if readyP D p = true then ∃ m1 m2, D' = doD m1 m2 D i p ∧ l = sorted (wokenL D' (waitL D ++ newL D D')) ∧ e = 0 else D' = D ∧ l = [] ∧ e = 13
/-- the same, as the laws want it -/
theorem DoR.cases {k : Nat} {D D' : MD} {pid : Int} {l : List Int} {e : Int} (g : Good k D) (h : DoR D pid D' l e) :
    (D' = D ∧ l = [] ∧ ((e = 6 ∧ atP D.ps pid = none ∧ runnableP D pid = false) ∨ (e = 13 ∧ runnableP D pid = false ∧ ∃ i, atP D.ps pid = some i))) ∨
    (e = 0 ∧ runnableP D pid = true ∧ ∃ i p, atP D.ps pid = some i ∧ D.ps[i]? = some p ∧ p.dead = false ∧ p.pid = pid ∧ readyP D p = true ∧ DoRel D D' i p ∧ Good (k + 1) D' ∧ l = wantL D D' pid) := by
  unfold DoR at h
  cases ha : atP D.ps pid with
  | none =>
    rw [ha] at h
    exact Or.inl ⟨h.1, h.2.1, Or.inl ⟨h.2.2, rfl, by unfold runnableP; rw [ha]⟩⟩
  | some i =>
    rw [ha] at h
    obtain ⟨p, hp, hd, hpid⟩ := atP_some ha
    have h := h p hp
    have hr : runnableP D pid = readyP D p := by rw [← hpid]; exact runnableP_eq g.inv hp hd
    split at h
    · rename_i hc
      obtain ⟨m1, m2, h1, h2, h3⟩ := h
      have rel := doD_rel g.inv hp hd (g.stk p (List.mem_of_getElem? hp)) m1 m2
      rw [← h1] at rel
      refine Or.inr ⟨h3, hr.trans hc, i, p, rfl, hp, hd, hpid, hc, rel, g.rel hp rel, ?_⟩
      rw [h2, ← hpid]
      exact do_wakes g.inv rel hp hd hc
    · rename_i hc
      exact Or.inl ⟨h.1, h.2.1, Or.inr ⟨h.2.2, by rw [hr]; simpa using hc, i, rfl⟩⟩
theorem DoR.good {k : Nat} {D D' : MD} {pid : Int} {l : List Int} {e : Int} (g : Good k D) (h : DoR D pid D' l e) : Good (k + 1) D' := by
  rcases h.cases g with ⟨h, _⟩ | ⟨_, _, i, p, _, _, _, _, _, _, h, _⟩
  · rw [h]; exact g.more (by omega)
  · exact h
theorem wantL_same {D : MD} (h : MInv D) (pid : Int) : wantL D D pid = [] := by
  refine List.eq_nil_iff_forall_not_mem.2 fun x hx => ?_
  obtain ⟨a, _, b⟩ := (wantL_mem h h pid x).1 hx
  exact b a
theorem DoR.want {k : Nat} {D D' : MD} {pid : Int} {l : List Int} {e : Int} (g : Good k D) (h : DoR D pid D' l e) : l = wantL D D' pid := by
  rcases h.cases g with ⟨h1, h2, _⟩ | ⟨_, _, i, p, _, _, _, _, _, _, _, h⟩
  · rw [h1, h2, wantL_same g.inv]
  · exact h
end Go.Proofs.YtbomkomipaipmaaGreat
namespace Go.Proofs.YtbomkomipaipmaaGreat
set_option maxRecDepth 100000

/-- a lookup in a region that draws its order -/
@[simp] theorem dc_lookup (P : Program) (ops : Array Oper) (gops : Tag ops) (lds : List (Nat × (AHeap → Prop))) (gl : Tag lds) (s : AState) (K : AState → Prop) (gK : Tag K) (d : Option Tmp) (ty : TypeId) (ps : String) (af : Array Edge) (gd : Option (Nat × Bool)) (i : Nat) (u : List Nat) (l : List (Nat × List Nat)) (t : TypeId) (x k : Operand) (ok : Bool) (g : Tag (⟨d, .lookup t x k ok, ty, ps, af, gd⟩ : Oper)) :
    drC P ops ⟨d, .lookup t x k ok, ty, ps, af, gd⟩ i u l lds s K gops g gl gK = optK (alookup P t (aev s.fr x) (aev s.fr k) ok s.η) (fun v => putK s d v (fun s' => drK P ops l ((i, fun η => alookup P t (aev s.fr x) (aev s.fr k) ok η = some v) :: lds) s' K .mk .mk .mk) .mk) False .mk .mk :=
  dc_ld ops gops lds gl s K gK d ty ps af gd _ i u l g rfl (fun η => by simp only [aval]) rfl

/-- behind a call the numbers from the next one on are free, and that is not below what it was -/
theorem AC.freshN {P : Program} {f : FuncId} {args : List AVal} {η : AHeap} {n : Nat} {K : AVal → AHeap → Nat → Prop} (h : AC P f args η n K) : AC P f args η n fun v η' n' => K v η' n' ∧ (∀ r, n' ≤ r → η' r = none) ∧ n ≤ n' := by
  intro own M w vals h1 h2 h3
  refine (h own M w vals h1 h2 h3).mono ?_
  rintro e w' ⟨u, rfl, v, η', n', own', M', hK, a1, a2, a3⟩
  refine ⟨u, rfl, v, η', n', own', M', ⟨hK, fun r hr => ?_, a1⟩, a1, a2, a3⟩
  cases ho : η' r with
  | none => rfl
  | some o => exact absurd (a2.lt ho) (by omega)
set_option maxHeartbeats 2000000 in
theorem mat0_ac {η : AHeap} {n b q : Nat} {l : List (Int × Int)} (h : BoxAt η b l q) (i : Nat) (hi : l.length ≤ i) : AC Tryz.prog 101 [.ptr b 0 0, .int .i64 i] η n (Rt (.tup [.agg [.int .i64 0, .int .i64 0], .bool false]) η n) := by
  have hlen := fun (η' : AHeap) n (hle : η.le η') => mlen_ac (η := η') (n := n) (b := b) (q := q) (l := l) (by
    obtain ⟨v, h1, h2⟩ := h
    refine ⟨v, hle _ _ h1, ?_⟩
    rcases h2 with ⟨e1, e2⟩ | ⟨J, e1, e2⟩
    · exact Or.inl ⟨e1, e2⟩
    · exact Or.inr ⟨J, e1, hle _ _ e2⟩)
  refine AC.pure (.tup _ (by simp; exact ⟨.agg _ (by simp; exact .int _ _), .bool _⟩)) ?_
  refine AC.fresh fun hf => ?_; refine AC.enter Tryz.func101 rfl Tryz.ntmps101 (by simp) ?_
  have hle : η.le (upd η n (some (.cells 2 [[.int .i64 0, .int .i64 0]]))) := le_upd (AHeap.le_rfl _) (hf n (Nat.le_refl _))
  have n0 : ¬ ((i : Int) < 0) := by omega
  have n1 : (l.length : Int) ≤ i := by omega
  simp [n0]
  refine ACK.rt (hlen _ _ hle) ?_
  simp [n1, aload, apart, upd_apply, astore, upd_upd, abuild, aplace, afillP]
  refine resK.of (η' := η) (le_old hf fun r hr => ?_) _ (Nat.le_refl _) ⟨rfl, rfl⟩
  simp only [upd_apply]; repeat rw [if_neg (by omega)]
set_option maxHeartbeats 2000000 in
theorem take0_ac {η : AHeap} {n b q : Nat} {l : List (Int × Int)} (h : BoxAt η b l q) (i : Nat) (hi : l.length ≤ i) : AC Tryz.prog 51 [.ptr b 0 0, .int .i64 i] η n (Rt (.tup [.agg [.int .i64 0, .int .i64 0], .bool false]) η n) := by
  have hat := fun (η' : AHeap) n (hle : η.le η') => mat0_ac (η := η') (n := n) (b := b) (q := q) (l := l) (by
    obtain ⟨v, h1, h2⟩ := h
    refine ⟨v, hle _ _ h1, ?_⟩
    rcases h2 with ⟨e1, e2⟩ | ⟨J, e1, e2⟩
    · exact Or.inl ⟨e1, e2⟩
    · exact Or.inr ⟨J, e1, hle _ _ e2⟩) i hi
  refine AC.pure (.tup _ (by simp; exact ⟨.agg _ (by simp; exact .int _ _), .bool _⟩)) ?_
  refine AC.fresh fun hf => ?_; refine AC.enter Tryz.func51 rfl Tryz.ntmps51 (by simp) ?_
  have hle : η.le (upd η n (some (.cells 2 [[.int .i64 0, .int .i64 0]]))) := le_upd (AHeap.le_rfl _) (hf n (Nat.le_refl _))
  simp
  refine ACK.rt (hat _ _ hle) ?_
  simp [aload, apart, upd_apply, astore, upd_upd]
  refine resK.of (η' := η) (le_old hf fun r hr => ?_) _ (Nat.le_refl _) ⟨rfl, rfl⟩
  simp only [upd_apply]; repeat rw [if_neg (by omega)]
end Go.Proofs.YtbomkomipaipmaaGreat
namespace Go.Proofs.YtbomkomipaipmaaGreat
set_option maxRecDepth 100000

def effV (e : Eff) : AVal := .agg (effC e (.rs 1 (ints e.args)))
theorem mfall_nx {η : AHeap} {n : Nat} {nm : Role → Nat} {D : MD} (h : MachAt η n nm D) (hi : MInv D) (ok : MachOK D) {i : Nat} {p : PD} (hp : D.ps[i]? = some p) (hd : p.dead = false) (r : Int × Int) :
    AC Tryz.prog 160 [.ptr (nm .mach) 0 0, .ptr (nm (.proc i)) 0 0, .agg [.int .i64 r.1, .int .i64 r.2]] η n (fun _ η' n' => Nx η n nm D η' n' nm (fallD D i p r)) := by
  refine (mfall_ac h ok hp hd r fun b hb => hi.reach ⟨i, p, hp, hd, rfl⟩ hb).mono ?_
  rintro v η' n' ⟨a1, a2, a3, a4, a5⟩
  exact ⟨a1, a3, a4, fun q hq => Or.inl (a5 q hq), rfl, fun _ _ => rfl, fun _ _ => rfl, Nat.le_of_eq (fallD_rel hi hp hd r).2.1.len.symm⟩
set_option maxHeartbeats 4000000 in
theorem out_ac {η : AHeap} {n : Nat} {nm : Role → Nat} {D : MD} (h : MachAt η n nm D) {i : Nat} {p : PD} (hp : D.ps[i]? = some p) (hl : p.out.length ≤ 100000) (e : Eff) :
    AC Tryz.prog 103 [.ptr (nm .mach) 0 0, .ptr (nm (.proc i)) 0 0, effV e] η n (fun _ η' n' => ∃ nm', Nx η n nm D η' n' nm' (outD D i p e.n)) := by
  have hq := h.proc hp
  have hi : i < D.ps.length := (List.getElem?_eq_some_iff.1 hp).1
  have l2 := h.lt (.proc i) hi
  have l3 := h.lt (.orow i) hi
  have l4 := h.lt (.brow i) hi
  have l5 := h.lt (.box i) hi
  have n1 : nm (.box i) ≠ nm (.proc i) := h.ne (ρ := .box i) (ρ' := .proc i) hi hi (by simp)
  have n2 : nm (.brow i) ≠ nm (.proc i) := h.ne (ρ := .brow i) (ρ' := .proc i) hi hi (by simp)
  have n3 : nm (.proc i) ≠ nm (.orow i) := h.ne (ρ := .proc i) (ρ' := .orow i) hi hi (by simp)
  have n4 : nm (.box i) ≠ nm (.orow i) := h.ne (ρ := .box i) (ρ' := .orow i) hi hi (by simp)
  have n5 : nm (.brow i) ≠ nm (.orow i) := h.ne (ρ := .brow i) (ρ' := .orow i) hi hi (by simp)
  have hbx := h.bx i p hp
  have z2 : ¬ nm (.proc i) = n := by omega
  have z3 : ∀ k, ¬ nm (.proc i) = n + k := fun k => by omega
  have z4 : ¬ n = nm (.proc i) := by omega
  have z5 : ∀ k, ¬ n + k = nm (.proc i) := fun k => by omega
  have z6 : ¬ nm (.orow i) = n := by omega
  have z7 : ∀ k, ¬ nm (.orow i) = n + k := fun k => by omega
  have hb1 : (p.out.length + 1) * 8 ≤ 140737488355328 := by omega
  have hb2 : p.out.length + 1 ≤ 17592186044416 := by omega
  have etk : List.take p.out.length (ints p.out) = ints p.out := List.take_of_length_le (by simp)
  have hne : ∀ o b, procC (setNm nm i o b) i { p with out := p.out ++ [e.n] } = [.int .i64 p.pid, .int .i64 p.parent, .int .i64 p.actor, .bool p.dead, .int .i64 p.rs.1, .int .i64 p.rs.2, .sl o 0 (p.out.length + 1), .int .i64 p.st.actor, .int .i64 p.st.pc, .rs 1 (ints p.st.stack), .rs 1 (ints p.st.regs), .bool p.st.waiting, .int .i64 p.st.till, .ptr (nm (.box i)) 0 0] := fun o b => by
    simp [procC, outV, setNm]
  have ei : ints (p.out ++ [e.n]) = ints p.out ++ [[.int .i64 e.n]] := by simp [ints]
  by_cases ho : p.out = []
  · have hv : outV nm i p = .nils := by simp [outV, ho]
    refine AC.fresh fun hf => ?_; refine AC.enter Tryz.func103 rfl Tryz.ntmps103 (by simp) ?_
    simp [effV, effC]
    refine drawK.intro mixed [(0, []), (1, []), (2, []), (3, []), (4, []), (5, []), (6, []), (7, []), (8, [5]), (9, []), (10, []), (11, []), (12, []), (13, [])] (by kernel_rfl) ?_
    simp [lk_some, chkK, aload, apart, afield, upd_apply, hq, procC, hv, z2, z3, Nat.add_assoc, abuildS, afillP, tek, chunk, appK, aappend, arows, lenMax, astore]
    refine resK.rt ⟨setNm nm i (n + 2) (nm (.brow i)), h.setP hf hp { p with out := p.out ++ [e.n] } rfl rfl (Or.inr ⟨by omega, by omega⟩) (Or.inl rfl) (by omega) ?_ ?_ ?_ ?_ (by omega)⟩
    · rw [hne, ho]; simp [upd_apply]
    · intro _; rw [ei, ho]; simp [upd_apply, z5, ints]
    · refine hbx.cong ?_ ?_
      · simp only [upd_apply]; repeat rw [if_neg (by omega)]
      · simp only [upd_apply]; repeat rw [if_neg (by omega)]
    · intro q h1 h2 h3 h4 h5
      simp only [upd_apply]; repeat rw [if_neg (by omega)]
  · have hv : outV nm i p = .sl (nm (.orow i)) 0 p.out.length := by simp [outV, ho]
    have hr : η (nm (.orow i)) = some (.cells 1 (ints p.out)) := h.obj (.orow i) _ (by simp [objOf, hp, ho])
    refine AC.fresh fun hf => ?_; refine AC.enter Tryz.func103 rfl Tryz.ntmps103 (by simp) ?_
    simp [effV, effC]
    refine drawK.intro mixed [(0, []), (1, []), (2, []), (3, []), (4, []), (5, []), (6, []), (7, []), (8, [5]), (9, []), (10, []), (11, []), (12, []), (13, [])] (by kernel_rfl) ?_
    simp [lk_some, chkK, aload, apart, afield, upd_apply, hq, procC, hv, hr, n3, z2, z3, z6, z7, Nat.add_assoc, abuildS, afillP, tek, chunk, appK, aappend, arows, lenMax, astore, hb1, hb2, etk]
    refine resK.rt ⟨setNm nm i (n + 2) (nm (.brow i)), h.setP hf hp { p with out := p.out ++ [e.n] } rfl rfl (Or.inr ⟨by omega, by omega⟩) (Or.inl rfl) (by omega) ?_ ?_ ?_ ?_ (by omega)⟩
    · rw [hne]; simp [upd_apply]
    · intro _; rw [ei]; simp [upd_apply, z5]
    · refine hbx.cong ?_ ?_
      · simp only [upd_apply]; repeat rw [if_neg (by omega)]
      · simp only [upd_apply]; repeat rw [if_neg (by omega)]
    · intro q h1 h2 h3 h4 h5
      simp only [upd_apply]; repeat rw [if_neg (by omega)]
theorem linkR_val (n m : Nat) (W : List LE) (a b : Int) : (linkR n m W a b).1 = .int .i64 (if linkBad W a b then 7 else 0) ∧ (linkBad W a b → (linkR n m W a b).2 = W) := by
  unfold linkR linkBad
  by_cases h1 : a = b ∨ b ∈ toW W a
  · rw [if_pos h1]
    simp [h1]
  · rw [if_neg h1]
    by_cases h2 : (toW W a).length = 8 ∨ (toW W b).length = 8
    · rw [if_pos h2]; simp [h1, h2]
    · rw [if_neg h2]; simp [h1, h2]
theorem linkR_nms {n m : Nat} {W : List LE} {a b : Int} (hm : n ≤ m) {q : Nat} (h : q ∈ (linkR n m W a b).2.map (·.nm)) : q ∈ W.map (·.nm) ∨ n ≤ q := by
  unfold linkR at h
  split at h
  · exact Or.inl h
  · split at h
    · exact Or.inl h
    · rcases joinW_nms h with h | h
      · rcases joinW_nms h with h | h
        · exact Or.inl h
        · right; omega
      · right; omega
set_option maxHeartbeats 4000000 in
theorem mexit_ac {η : AHeap} {n : Nat} {nm : Role → Nat} {D : MD} (h : MachAt η n nm D) (hi : MInv D) (ok : MachOK D) {i : Nat} {p : PD} (hp : D.ps[i]? = some p) (hd : p.dead = false) (e : Eff) :
    AC Tryz.prog 107 [.ptr (nm .mach) 0 0, .ptr (nm (.proc i)) 0 0, effV e] η n (fun _ η' n' => Nx η n nm D η' n' nm (fallD D i p e.reason)) := by
  refine AC.fresh fun hf => ?_; refine AC.enter Tryz.func107 rfl Tryz.ntmps107 (by simp) ?_
  simp [effV, effC]
  obtain ⟨H, hH⟩ : ∃ H, H = upd η n (some (.cells 10 [effC e (.rs 1 (ints e.args))])) := ⟨_, rfl⟩
  have hHk : ∀ q, q < n → H q = η q := fun q hq => by rw [hH, upd_ne (by omega)]
  have hHn : H n = some (.cells 10 [effC e (.rs 1 (ints e.args))]) := by rw [hH]; exact upd_eq _ _ _
  have b1 := Nx.beside (n' := n + 1) h hf hHk (by omega)
  simp only [effC] at hH
  rw [← hH]
  clear hH
  simp [aload, apart, afield, hHn, effC]
  refine ACK.use (mfall_nx b1.at' hi ok hp hd e.reason) ?_
  intro v η1 n1 b2
  simp
  exact resK.rt (b1.trans b2)
end Go.Proofs.YtbomkomipaipmaaGreat
namespace Go.Proofs.YtbomkomipaipmaaGreat
set_option maxRecDepth 100000

set_option maxHeartbeats 8000000 in
theorem msend_ac {η : AHeap} {n : Nat} {nm : Role → Nat} {D : MD} (h : MachAt η n nm D) (hi : MInv D) (ok : MachOK D) {i : Nat} {p : PD} (hp : D.ps[i]? = some p) (hd : p.dead = false) (e : Eff) :
    AC Tryz.prog 104 [.ptr (nm .mach) 0 0, .ptr (nm (.proc i)) 0 0, effV e] η n (fun _ η' n' => ∃ nm', Nx η n nm D η' n' nm' (sendD D i p e)) := by
  have l1 := h.lt .mach trivial
  unfold sendD
  cases ha : atP D.ps e.dest with
  | none =>
    refine AC.fresh fun hf => ?_; refine AC.enter Tryz.func104 rfl Tryz.ntmps104 (by simp) ?_
    simp [effV, effC]
    obtain ⟨H, hH⟩ : ∃ H, H = upd η n (some (.cells 10 [effC e (.rs 1 (ints e.args))])) := ⟨_, rfl⟩
    have hHk : ∀ q, q < n → H q = η q := fun q hq => by rw [hH, upd_ne (by omega)]
    have hHn : H n = some (.cells 10 [effC e (.rs 1 (ints e.args))]) := by rw [hH]; exact upd_eq _ _ _
    have b1 := Nx.beside (n' := n + 1) h hf hHk (by omega)
    have hm := b1.at'.mach
    have hL := lookLv b1.at' e.dest
    rw [ha] at hL
    simp only at hL
    simp only [effC] at hH
    rw [← hH]
    clear hH
    refine drawK.intro mixed [(0, []), (1, []), (2, []), (3, []), (4, []), (5, []), (6, []), (7, [])] (by kernel_rfl) ?_
    simp [aload, apart, afield, hHn, effC, hm, machC, hL]
    refine drawK.intro mixed [(0, []), (1, []), (2, []), (3, []), (4, []), (5, []), (6, []), (7, []), (8, []), (9, []), (10, []), (11, [])] (by kernel_rfl) ?_
    simp
    exact resK.rt ⟨nm, b1⟩
  | some j =>
    obtain ⟨q, hq, hqd, hqp⟩ := atP_some ha
    have hj : j < D.ps.length := (List.getElem?_eq_some_iff.1 hq).1
    have hqm : q ∈ D.ps := List.mem_of_getElem? hq
    have hbq : nm (.box j) ≠ nm (.brow j) := h.ne (ρ := .box j) (ρ' := .brow j) hj hj (by simp)
    simp only [hq]
    refine AC.fresh fun hf => ?_; refine AC.enter Tryz.func104 rfl Tryz.ntmps104 (by simp) ?_
    simp [effV, effC]
    obtain ⟨H, hH⟩ : ∃ H, H = upd η n (some (.cells 10 [effC e (.rs 1 (ints e.args))])) := ⟨_, rfl⟩
    have hHk : ∀ q, q < n → H q = η q := fun q hq => by rw [hH, upd_ne (by omega)]
    have hHn : H n = some (.cells 10 [effC e (.rs 1 (ints e.args))]) := by rw [hH]; exact upd_eq _ _ _
    have hHf : ∀ k, n + 1 ≤ k → H k = none := fun k hk => by rw [hH, upd_ne (by omega)]; exact hf k (by omega)
    have b1 := Nx.beside (n' := n + 1) h hf hHk (by omega)
    have hm := b1.at'.mach
    have hL := lookLv b1.at' e.dest
    rw [ha] at hL
    simp only at hL
    have hqc := b1.at'.proc hq
    have hbx := b1.at'.bx j q hq
    have hput := put_ac (n := n + 1) hbx hbq (ok.box q hqm) e.msg
    unfold msgV at hput
    simp only [effC] at hH
    rw [← hH]
    clear hH
    refine drawK.intro mixed [(0, []), (1, []), (2, []), (3, []), (4, []), (5, []), (6, []), (7, [])] (by kernel_rfl) ?_
    simp [aload, apart, afield, hHn, effC, hm, machC, hL]
    refine drawK.intro mixed [(0, []), (1, []), (2, []), (3, []), (4, []), (5, []), (6, []), (7, []), (8, []), (9, []), (10, []), (11, [])] (by kernel_rfl) ?_
    simp [aload, apart, afield, hHn, effC, hqc, procC]
    refine ACK.use hput.freshN ?_
    intro v η1 n1 ⟨hv, hf1, hn1⟩
    by_cases h16 : q.box.length = 16
    · rw [if_pos h16] at hv
      obtain ⟨rfl, rfl⟩ := hv
      simp [abuild, aplace, afillP]
      have b2 := Nx.beside (n' := n1) b1.at' hHf (fun _ _ => rfl) hn1
      refine ACK.use (mfall_nx b2.at' hi ok hp hd (4, 0)) ?_
      intro v η2 n2 b3
      simp
      exact resK.rt ⟨nm, by rw [if_pos h16]; exact (b1.trans b2).trans b3⟩
    · rw [if_neg h16] at hv
      obtain ⟨rfl, q', c1, c2, c3, c4, c5⟩ := hv
      simp [h16]
      have d1 : nm (.proc j) ≠ nm (.box j) := h.ne (ρ := .proc j) (ρ' := .box j) hj hj (by simp)
      have d2 : nm (.proc j) ≠ nm (.brow j) := h.ne (ρ := .proc j) (ρ' := .brow j) hj hj (by simp)
      have d3 : nm (.orow j) ≠ nm (.box j) := h.ne (ρ := .orow j) (ρ' := .box j) hj hj (by simp)
      have d4 : nm (.orow j) ≠ nm (.brow j) := h.ne (ρ := .orow j) (ρ' := .brow j) hj hj (by simp)
      have l2 := h.lt (.proc j) hj
      have l3 := h.lt (.orow j) hj
      have s1 : nm (.orow j) ≠ q' := by
        rcases c2 with k | k
        · rw [k]; exact d4
        · omega
      have s2 : η1 (nm (.proc j)) = some (.cells 14 [procC (setNm nm j (nm (.orow j)) q') j { q with box := q.box ++ [e.msg] }]) := by
        rw [c5 _ (by omega) d1 d2, hqc]
        simp [procC, outV, setNm]
      have s3 : ({ q with box := q.box ++ [e.msg] } : PD).out ≠ [] → η1 (nm (.orow j)) = some (.cells 1 (ints q.out)) := by
        intro ho
        rw [c5 _ (by omega) d3 d4]
        exact b1.at'.obj (.orow j) _ (by simp only [objOf, hq]; rw [if_neg ho])
      refine resK.rt ⟨_, by rw [if_neg h16]; exact b1.trans (b1.at'.setP hHf hq { q with box := q.box ++ [e.msg] } rfl rfl (o := nm (.orow j)) (b := q') (Or.inl rfl) (c2.imp _root_.id fun k => ⟨k, c3⟩) s1 s2 s3 c1 (fun x h1 h2 h3 h4 h5 => c5 x h1 h4 h5) c4)⟩
set_option maxHeartbeats 8000000 in
theorem mlink_ac {η : AHeap} {n : Nat} {nm : Role → Nat} {D : MD} (h : MachAt η n nm D) (hi : MInv D) (ok : MachOK D) {i : Nat} {p : PD} (hp : D.ps[i]? = some p) (hd : p.dead = false) (e : Eff) :
    AC Tryz.prog 106 [.ptr (nm .mach) 0 0, .ptr (nm (.proc i)) 0 0, effV e] η n (fun _ η' n' => ∃ m1 m2, Nx η n nm D η' n' nm (linkD m1 m2 D i p e)) := by
  have l1 := h.lt .mach trivial
  unfold linkD
  cases ha : atP D.ps e.dest with
  | none =>
    refine AC.fresh fun hf => ?_; refine AC.enter Tryz.func106 rfl Tryz.ntmps106 (by simp) ?_
    simp [effV, effC]
    obtain ⟨H, hH⟩ : ∃ H, H = upd η n (some (.cells 10 [effC e (.rs 1 (ints e.args))])) := ⟨_, rfl⟩
    have hHk : ∀ q, q < n → H q = η q := fun q hq => by rw [hH, upd_ne (by omega)]
    have hHn : H n = some (.cells 10 [effC e (.rs 1 (ints e.args))]) := by rw [hH]; exact upd_eq _ _ _
    have b1 := Nx.beside (n' := n + 1) h hf hHk (by omega)
    have hm := b1.at'.mach
    have hL := lookLv b1.at' e.dest
    rw [ha] at hL
    simp only at hL
    simp only [effC] at hH
    rw [← hH]
    clear hH
    refine drawK.intro mixed [(0, []), (1, []), (2, []), (3, []), (4, []), (5, []), (6, []), (7, []), (8, []), (9, []), (10, []), (11, []), (12, []), (13, []), (14, []), (15, []), (16, []), (17, []), (18, []), (19, []), (20, []), (21, []), (22, [])] (by kernel_rfl) ?_
    simp [aload, apart, afield, hHn, effC, hm, machC, hL]
    exact resK.rt ⟨0, 0, b1⟩
  | some j =>
    refine AC.fresh fun hf => ?_; refine AC.enter Tryz.func106 rfl Tryz.ntmps106 (by simp) ?_
    simp [effV, effC]
    obtain ⟨H, hH⟩ : ∃ H, H = upd η n (some (.cells 10 [effC e (.rs 1 (ints e.args))])) := ⟨_, rfl⟩
    have hHk : ∀ q, q < n → H q = η q := fun q hq => by rw [hH, upd_ne (by omega)]
    have hHn : H n = some (.cells 10 [effC e (.rs 1 (ints e.args))]) := by rw [hH]; exact upd_eq _ _ _
    have hHf : ∀ k, n + 1 ≤ k → H k = none := fun k hk => by rw [hH, upd_ne (by omega)]; exact hf k (by omega)
    have b1 := Nx.beside (n' := n + 1) h hf hHk (by omega)
    have hm := b1.at'.mach
    have hpc := b1.at'.proc hp
    have hL := lookLv b1.at' e.dest
    rw [ha] at hL
    simp only at hL
    have hlk := link_ac (n := n + 1) b1.at'.web ok.wk p.pid e.dest
    simp only [effC] at hH
    rw [← hH]
    clear hH
    refine drawK.intro mixed [(0, []), (1, []), (2, []), (3, []), (4, []), (5, []), (6, []), (7, []), (8, []), (9, []), (10, []), (11, []), (12, []), (13, []), (14, []), (15, []), (16, []), (17, []), (18, []), (19, []), (20, []), (21, []), (22, [])] (by kernel_rfl) ?_
    simp [aload, apart, afield, hHn, effC, hm, machC, hL, hpc, procC]
    refine ACK.use hlk ?_
    intro v η1 n1 ⟨m, c1, c2, c3, c4, c5⟩
    obtain ⟨v1, v2⟩ := linkR_val (n + 1) m D.W p.pid e.dest
    rw [v1] at c2
    subst c2
    have hG : Nx H (n + 1) nm D η1 n1 nm { D with W := (linkR (n + 1) m D.W p.pid e.dest).2 } := by
      have hk : ∀ ρ, dom D.ps.length ρ → ρ ≠ .wmap → η1 (nm ρ) = H (nm ρ) := fun ρ hρ hne => c4 _ (by have := h.lt ρ hρ; omega) fun k => by
        rcases List.mem_cons.1 k with k | k
        · exact h.ne hρ (ρ' := .wmap) trivial hne k
        · exact h.wnm ρ hρ k
      refine b1.at'.setG hHf rfl ?_ ?_ c3 (fun q h1 h2 h3 h4 h5 h6 => c4 q h1 fun k => ?_) (fun q hq => linkR_nms c1 hq) c5
      · rw [hk .mach trivial (by simp), hm]; rfl
      · rw [hk .pids trivial (by simp)]; exact b1.at'.obj .pids _ rfl
      · rcases List.mem_cons.1 k with k | k
        · exact h5 k
        · exact h6 k
    by_cases hb : linkBad D.W p.pid e.dest
    · simp [hb, abuild, aplace, afillP]
      rw [v2 hb] at hG
      refine ACK.use (mfall_nx hG.at' hi ok hp hd (5, 0)) ?_
      intro v η2 n2 b2
      simp
      exact resK.rt ⟨0, 0, by rw [if_pos hb]; exact (b1.trans hG).trans b2⟩
    · simp [hb]
      exact resK.rt ⟨n + 1, m, by rw [if_neg hb]; exact b1.trans hG⟩
end Go.Proofs.YtbomkomipaipmaaGreat
namespace Go.Proofs.YtbomkomipaipmaaGreat
set_option maxRecDepth 100000

def addNm (nm : Role → Nat) (L n : Nat) : Role → Nat
  | .all => n + 4
  | .proc j => if j = L then n + 2 else nm (.proc j)
  | .box j => if j = L then n + 1 else nm (.box j)
  | .brow j => if j = L then n else nm (.brow j)
  | .orow j => if j = L then n + 3 else nm (.orow j)
  | ρ => nm ρ
def addD (D : MD) (p : PD) (T : Tab) : MD := { D with ps := D.ps ++ [p], tab := T }
theorem liveL_lt : ∀ (ps : List PD) (k : Nat) (x : Int × Nat), x ∈ liveL ps k → x.2 < k + ps.length
  | [], k, x, h => by simp [liveL] at h
  | p :: ps, k, x, h => by
    unfold liveL at h
    split at h
    · have := liveL_lt ps (k + 1) x h; simp; omega
    · rcases List.mem_cons.1 h with rfl | h
      · simp
      · have := liveL_lt ps (k + 1) x h; simp; omega
theorem liveE_congr {nm nm' : Role → Nat} {ps : List PD} (h : ∀ i, i < ps.length → nm' (.proc i) = nm (.proc i)) : liveE nm' ps = liveE nm ps := by
  unfold liveE
  refine List.map_congr_left fun x hx => ?_
  have := liveL_lt ps 0 x hx
  rw [h x.2 (by omega)]
theorem addNm_old {nm : Role → Nat} {L n : Nat} {ρ : Role} (h : dom L ρ) (ha : ρ ≠ .all) : addNm nm L n ρ = nm ρ := by
  cases ρ with
  | all => exact absurd rfl ha
  | proc j => have : j < L := h; simp only [addNm]; rw [if_neg (by omega)]
  | box j => have : j < L := h; simp only [addNm]; rw [if_neg (by omega)]
  | brow j => have : j < L := h; simp only [addNm]; rw [if_neg (by omega)]
  | orow j => have : j < L := h; simp only [addNm]; rw [if_neg (by omega)]
  | _ => rfl
theorem addNm_new {nm : Role → Nat} {L n : Nat} {ρ : Role} (h : dom (L + 1) ρ) : (dom L ρ ∧ ρ ≠ .all) ∨ (ρ = .all ∧ addNm nm L n ρ = n + 4) ∨ (ρ = .proc L ∧ addNm nm L n ρ = n + 2) ∨ (ρ = .box L ∧ addNm nm L n ρ = n + 1) ∨ (ρ = .brow L ∧ addNm nm L n ρ = n) ∨ (ρ = .orow L ∧ addNm nm L n ρ = n + 3) := by
  cases ρ with
  | all => exact Or.inr (Or.inl ⟨rfl, rfl⟩)
  | proc j =>
    have : j < L + 1 := h
    by_cases e : j = L
    · subst e; exact Or.inr (Or.inr (Or.inl ⟨rfl, by simp [addNm]⟩))
    · exact Or.inl ⟨show j < L by omega, by simp⟩
  | box j =>
    have : j < L + 1 := h
    by_cases e : j = L
    · subst e; exact Or.inr (Or.inr (Or.inr (Or.inl ⟨rfl, by simp [addNm]⟩)))
    · exact Or.inl ⟨show j < L by omega, by simp⟩
  | brow j =>
    have : j < L + 1 := h
    by_cases e : j = L
    · subst e; exact Or.inr (Or.inr (Or.inr (Or.inr (Or.inl ⟨rfl, by simp [addNm]⟩))))
    · exact Or.inl ⟨show j < L by omega, by simp⟩
  | orow j =>
    have : j < L + 1 := h
    by_cases e : j = L
    · subst e; exact Or.inr (Or.inr (Or.inr (Or.inr (Or.inr ⟨rfl, by simp [addNm]⟩))))
    · exact Or.inl ⟨show j < L by omega, by simp⟩
  | _ => exact Or.inl ⟨trivial, by simp⟩
/-- a process more -/
theorem MachAt.addP {η η' : AHeap} {n n' : Nat} {nm : Role → Nat} {D : MD} (h : MachAt η n nm D) (hf : ∀ k, n ≤ k → η k = none) (p : PD) (T : Tab) (e1 : p.out = []) (e2 : p.box = [])
    (k1 : η' (nm .mach) = some (.cells 6 [machC (addNm nm D.ps.length n) (addD D p T)])) (k2 : η' (nm .pids) = some (tabO T)) (k3 : η' (n + 4) = some (.cells 1 (allR (addNm nm D.ps.length n) (D.ps.length + 1))))
    (k4 : η' (nm .live) = some (.map (ent (liveE (addNm nm D.ps.length n) (D.ps ++ [p]))))) (k5 : η' (n + 2) = some (.cells 14 [procC (addNm nm D.ps.length n) D.ps.length p])) (k6 : η' (n + 1) = some (.cells 1 [[.nils]]))
    (k7 : ∀ q, q < n → q ≠ nm .mach → q ≠ nm .pids → q ≠ nm .live → q ≠ nm .all → η' q = η q) (hn : n + 5 ≤ n') : Nx η n nm D η' n' (addNm nm D.ps.length n) (addD D p T) := by
  have hlen : (addD D p T).ps.length = D.ps.length + 1 := by simp [addD]
  have hne : (addD D p T).ps ≠ [] := by simp [addD]
  have hst : ∀ ρ, dom D.ps.length ρ → ρ ≠ .mach → ρ ≠ .pids → ρ ≠ .live → ρ ≠ .all → η' (nm ρ) = η (nm ρ) := fun ρ hρ a1 a2 a3 a4 => k7 _ (h.lt _ hρ) (h.ne hρ (ρ' := .mach) trivial a1) (h.ne hρ (ρ' := .pids) trivial a2) (h.ne hρ (ρ' := .live) trivial a3) (h.ne hρ (ρ' := .all) trivial a4)
  have hget : ∀ j, j < D.ps.length → (addD D p T).ps[j]? = D.ps[j]? := fun j hj => by simp only [addD]; rw [List.getElem?_append_left hj]
  have hgL : (addD D p T).ps[D.ps.length]? = some p := by simp [addD]
  have hgN : ∀ j, D.ps.length < j → (addD D p T).ps[j]? = none := fun j hj => List.getElem?_eq_none (by rw [hlen]; omega)
  have hWlt : ∀ q ∈ D.W.map (·.nm), q < n := fun q hq => h.inlt hf (Or.inr hq)
  have hproc : ∀ j (q : PD), j < D.ps.length → procC (addNm nm D.ps.length n) j q = procC nm j q := fun j q hj => by
    have : ¬ j = D.ps.length := by omega
    simp [procC, outV, addNm, this]
  refine ⟨⟨fun ρ o ho => ?_, fun j q hj => ?_, ?_, fun ρ ρ' h1 h2 he => ?_, fun ρ h1 hk => ?_, fun ρ h1 => ?_⟩, fun q hq hk => ?_, by omega, fun q hq => ?_, rfl, fun j hj => addNm_old (ρ := .proc j) hj (by simp), fun j hj => addNm_old (ρ := .box j) hj (by simp), by rw [hlen]; omega⟩
  · cases ρ with
    | mach => rw [← ho]; exact k1
    | pids => rw [← ho]; exact k2
    | web => cases ho
    | wmap => cases ho
    | all =>
      simp only [objOf, if_neg hne, hlen] at ho
      rw [← ho]; exact k3
    | live => rw [← ho]; exact k4
    | proc j =>
      rcases Nat.lt_trichotomy j D.ps.length with hj | hj | hj
      · rw [addNm_old (ρ := .proc j) hj (by simp), hst (.proc j) hj (by simp) (by simp) (by simp) (by simp)]
        refine h.obj (.proc j) o ?_
        rw [← ho]
        simp only [objOf, hget j hj]
        cases D.ps[j]? with
        | none => rfl
        | some q => simp only [Option.map_some, hproc j q hj]
      · subst hj
        simp only [objOf, hgL, Option.map_some] at ho
        rw [← ho]
        simp only [addNm, if_true]
        exact k5
      · simp only [objOf, hgN j hj] at ho; cases ho
    | box j => cases ho
    | brow j => cases ho
    | orow j =>
      rcases Nat.lt_trichotomy j D.ps.length with hj | hj | hj
      · rw [addNm_old (ρ := .orow j) hj (by simp), hst (.orow j) hj (by simp) (by simp) (by simp) (by simp)]
        refine h.obj (.orow j) o ?_
        rw [← ho]
        simp only [objOf, hget j hj]
      · subst hj
        simp only [objOf, hgL, e1, if_true] at ho; cases ho
      · simp only [objOf, hgN j hj] at ho; cases ho
  · rcases Nat.lt_trichotomy j D.ps.length with hj' | hj' | hj'
    · rw [hget j hj'] at hj
      rw [addNm_old (ρ := .box j) hj' (by simp), addNm_old (ρ := .brow j) hj' (by simp)]
      exact (h.bx j q hj).cong (hst (.box j) hj' (by simp) (by simp) (by simp) (by simp)) (hst (.brow j) hj' (by simp) (by simp) (by simp) (by simp))
    · subst hj'
      rw [hgL] at hj; cases hj
      simp only [addNm, if_true]
      rw [e2]
      exact ⟨.nils, k6, Or.inl ⟨rfl, rfl⟩⟩
    · rw [hgN j hj'] at hj; cases hj
  · show WebAt η' (nm .web) (nm .wmap) D.W
    refine h.web.cong (hst .web trivial (by simp) (by simp) (by simp) (by simp)) (hst .wmap trivial (by simp) (by simp) (by simp) (by simp)) fun e he => ?_
    have hin : e.nm ∈ D.W.map (·.nm) := List.mem_map.2 ⟨e, he, rfl⟩
    exact k7 _ (hWlt _ hin) (fun k => h.wnm .mach trivial (k ▸ hin)) (fun k => h.wnm .pids trivial (k ▸ hin)) (fun k => h.wnm .live trivial (k ▸ hin)) (fun k => h.wnm .all trivial (k ▸ hin))
  · rw [hlen] at h1 h2
    rcases addNm_new (nm := nm) (n := n) h1 with ⟨a, b⟩ | ⟨a, b⟩ | ⟨a, b⟩ | ⟨a, b⟩ | ⟨a, b⟩ | ⟨a, b⟩ <;> rcases addNm_new (nm := nm) (n := n) h2 with ⟨c, d⟩ | ⟨c, d⟩ | ⟨c, d⟩ | ⟨c, d⟩ | ⟨c, d⟩ | ⟨c, d⟩
    · rw [addNm_old a b, addNm_old c d] at he; exact h.inj ρ ρ' a c he
    all_goals first
      | (rw [a, c]; done)
      | (exfalso; rw [b, d] at he; omega)
      | (exfalso; rw [addNm_old a b, d] at he; have := h.lt ρ a; omega)
      | (exfalso; rw [b, addNm_old c d] at he; have := h.lt ρ' c; omega)
  · rw [hlen] at h1
    have hk' : addNm nm D.ps.length n ρ ∈ D.W.map (·.nm) := hk
    have := hWlt _ hk'
    rcases addNm_new (nm := nm) (n := n) h1 with ⟨a, b⟩ | ⟨a, b⟩ | ⟨a, b⟩ | ⟨a, b⟩ | ⟨a, b⟩ | ⟨a, b⟩
    · rw [addNm_old a b] at hk'; exact h.wnm ρ a hk'
    all_goals omega
  · rw [hlen] at h1
    rcases addNm_new (nm := nm) (n := n) h1 with ⟨a, b⟩ | ⟨a, b⟩ | ⟨a, b⟩ | ⟨a, b⟩ | ⟨a, b⟩ | ⟨a, b⟩
    · rw [addNm_old a b]; have := h.lt ρ a; omega
    all_goals omega
  · exact k7 q hq (fun e => hk (Or.inl ⟨.mach, trivial, e.symm⟩)) (fun e => hk (Or.inl ⟨.pids, trivial, e.symm⟩)) (fun e => hk (Or.inl ⟨.live, trivial, e.symm⟩)) (fun e => hk (Or.inl ⟨.all, trivial, e.symm⟩))
  · rcases hq with ⟨ρ, h1, rfl⟩ | hq
    · rw [hlen] at h1
      rcases addNm_new (nm := nm) (n := n) h1 with ⟨a, b⟩ | ⟨a, b⟩ | ⟨a, b⟩ | ⟨a, b⟩ | ⟨a, b⟩ | ⟨a, b⟩
      · rw [addNm_old a b]; exact Or.inl (Or.inl ⟨ρ, a, rfl⟩)
      all_goals right; omega
    · exact Or.inl (Or.inr hq)
theorem allR_add (nm : Role → Nat) (L n : Nat) : allR (addNm nm L n) (L + 1) = allR nm L ++ [[.ptr (n + 2) 0 0]] := by
  unfold allR
  rw [List.range_succ, List.map_append]
  congr 1
  · refine List.map_congr_left fun i hi => ?_
    have := List.mem_range.1 hi
    rw [addNm_old (ρ := .proc i) this (by simp)]
  · simp [addNm]
theorem insE_add {nm : Role → Nat} {ps : List PD} {p : PD} {n : Nat} (hn : ¬ p.pid ∈ ps.map (·.pid)) (hd : p.dead = false) : insE (liveE nm ps) p.pid (.ptr (n + 2) 0 0) = liveE (addNm nm ps.length n) (ps ++ [p]) := by
  have := insE_live (addNm nm ps.length n) hn hd
  rw [liveE_congr (nm := nm) fun i hi => addNm_old (ρ := .proc i) hi (by simp)] at this
  rw [← this]
  simp [addNm]
def spawnV (r : MD × Int × Bool) : AVal := .tup [.int .i64 r.2.1, .bool r.2.2]
set_option maxHeartbeats 8000000 in
theorem spawn_ac {η : AHeap} {n : Nat} {nm : Role → Nat} {D : MD} (h : MachAt η n nm D) (hi : MInv D) (ok : MachOK D) (hnum : D.ps.length ≤ 100000) (parent actor : Int) (args : List Int) {av : AVal} (hv : av = .rs 1 (ints args) ∨ av = .nils ∧ args = []) (hl : args.length ≤ lenMax) :
    AC Tryz.prog 43 [.ptr (nm .mach) 0 0, .int .i64 parent, .int .i64 actor, av] η n (fun v η' n' => v = spawnV (spawnD D parent actor args) ∧ ∃ nm', Nx η n nm D η' n' nm' (spawnD D parent actor args).1) := by
  have hm := h.mach
  have hT := h.obj .pids _ rfl
  have hLv := h.obj .live _ rfl
  have l1 := h.lt .mach trivial
  have l2 := h.lt .pids trivial
  have l3 := h.lt .live trivial
  have l4 := h.lt .all trivial
  have n1 : nm .mach ≠ nm .pids := h.ne (ρ := .mach) (ρ' := .pids) trivial trivial (by simp)
  have n2 : nm .mach ≠ nm .live := h.ne (ρ := .mach) (ρ' := .live) trivial trivial (by simp)
  have n3 : nm .live ≠ nm .pids := h.ne (ρ := .live) (ρ' := .pids) trivial trivial (by simp)
  have n4 : nm .all ≠ nm .pids := h.ne (ρ := .all) (ρ' := .pids) trivial trivial (by simp)
  have halloc := alloc_ac (n := n) hT ok.tab.ok
  cases hlow : lowS D.tab.sl with
  | none =>
    have ea : allocR D.tab = (.tup [.int .i64 0, .int .i64 7], D.tab) := by
      rw [allocR_low]
      split
      · rename_i s' h'; rw [hlow] at h'; cases h'
      · rfl
    rw [ea] at halloc
    rw [spawnD_none hlow]
    refine AC.fresh fun hf => ?_; refine AC.enter Tryz.func43 rfl Tryz.ntmps43 (by simp) ?_
    simp [aload, apart, afield, hm, machC]
    refine ACK.use halloc ?_
    intro v η1 n1' ⟨c1, c2, c3⟩
    subst c1 c3
    simp
    have e : η1 = η := by
      rw [c2]; funext q; by_cases hq : q = nm .pids
      · subst hq; rw [upd_eq, hT]
      · rw [upd_ne hq]
    rw [e]
    exact resK.rt ⟨rfl, nm, Nx.rfl' h⟩
  | some s =>
    have ea : allocR D.tab = (.tup [.int .i64 (pidOf (D.tab.sl[s]'(lowS_some hlow).1).1 s), .int .i64 0], takeT D.tab s (lowS_some hlow).1) := by
      rw [allocR_low]
      split
      · rename_i s' h'; rw [hlow] at h'; cases h'; rfl
      · rename_i h'; rw [hlow] at h'; cases h'
    rw [ea] at halloc
    rw [spawnD_some hlow]
    have hfresh := hi.fresh (lowS_some hlow).1 (lowS_some hlow).2
    generalize pidOf (D.tab.sl[s]'(lowS_some hlow).1).1 s = np at halloc hfresh ⊢
    generalize takeT D.tab s (lowS_some hlow).1 = T at halloc ⊢
    have hnew := fun η n => pnewR_ac D.m actor args η n hv hl fun a ha => by have := ok.mod.par a ha; unfold lenMax; omega
    simp only [modV, newV, stV, stC] at hnew
    have hmn := fun η n => mnew_ac η n
    have n5 : nm .mach ≠ nm .all := h.ne (ρ := .mach) (ρ' := .all) trivial trivial (by simp)
    have n6 : nm .live ≠ nm .all := h.ne (ρ := .live) (ρ' := .all) trivial trivial (by simp)
    have n7 : nm .pids ≠ nm .all := n4.symm
    have n8 : nm .live ≠ nm .mach := n2.symm
    have n9 : nm .pids ≠ nm .mach := n1.symm
    have n10 : nm .pids ≠ nm .live := n3.symm
    have n11 : nm .all ≠ nm .mach := n5.symm
    have z1 : ¬ nm .mach = n := by omega
    have z2 : ∀ k, ¬ nm .mach = n + k := fun k => by omega
    have z3 : ¬ nm .all = n := by omega
    have z4 : ∀ k, ¬ nm .all = n + k := fun k => by omega
    have z5 : ¬ nm .live = n := by omega
    have z6 : ∀ k, ¬ nm .live = n + k := fun k => by omega
    have z7 : ¬ nm .pids = n := by omega
    have z8 : ∀ k, ¬ nm .pids = n + k := fun k => by omega
    have z9 : ∀ k, ¬ n + k = nm .mach := fun k => by omega
    have z10 : ∀ k, ¬ n + k = nm .all := fun k => by omega
    have z11 : ∀ k, ¬ n + k = nm .live := fun k => by omega
    have z12 : ∀ k, ¬ n + k = nm .pids := fun k => by omega
    have hw64 : True := trivial
    have hb1 : (D.ps.length + 1) * 8 ≤ 140737488355328 := by omega
    have hb2 : D.ps.length + 1 ≤ 17592186044416 := by omega
    have etk : List.take D.ps.length (allR nm D.ps.length) = allR nm D.ps.length := List.take_of_length_le (by simp [allR])
    have elen : (allR nm D.ps.length).length = D.ps.length := by simp [allR]
    by_cases hps : D.ps = []
    · have hv0 : allV nm D = .nils := by simp [allV, hps]
      refine AC.fresh fun hf => ?_; refine AC.enter Tryz.func43 rfl Tryz.ntmps43 (by simp) ?_
      simp [aload, apart, afield, hm, machC]
      refine ACK.use halloc ?_
      intro v η1 n1' ⟨c1, c2, c3⟩
      replace c3 := c3.symm
      subst c1 c3
      have hHm : η1 (nm .mach) = some (.cells 6 [machC nm D]) := by rw [c2, upd_ne n1, hm]
      have hHl : η1 (nm .live) = some (.map (ent (liveE nm D.ps))) := by rw [c2, upd_ne n3, hLv]
      have hHT : η1 (nm .pids) = some (tabO T) := by rw [c2, upd_eq]
      have hHk : ∀ q, q < n → q ≠ nm .pids → η1 q = η q := fun q _ hq => by rw [c2, upd_ne hq]
      clear c2
      simp [aload, apart, afield, hHm, machC]
      refine ACK.rt (hnew _ _) ?_
      simp [astore, upd_apply, upd_upd]
      refine drawK.intro mixed [(0, []), (1, []), (2, []), (3, []), (4, []), (5, [4]), (6, []), (7, []), (8, [])] (by kernel_rfl) ?_
      simp [lk_some, chkK, aload, apart, upd_apply, abuild, aplace, afillP]
      refine ACK.use (hmn _ _) ?_
      intro v η2 n2 ⟨d1, d2, d3⟩
      subst d1 d2 d3
      simp [aload, apart, afield, upd_apply, abuild, aplace, afillP, z1, z2, hHm, machC, hv0, Nat.add_assoc, abuildS, tek, chunk, appK, aappend, arows, lenMax, astore]
      rw [ainsert_ent (es := liveE nm D.ps) Tryz.underlying87 Tryz.underlying2 ?hr]
      case hr => simp [upd_apply, z5, z6, n8, hHl]
      simp
      refine resK.rt ⟨rfl, addNm nm D.ps.length n, h.addP hf _ T rfl rfl ?_ ?_ ?_ ?_ ?_ ?_ ?_ ?_⟩
      · simp [upd_apply, n2, machC, allV, addD, addNm, hps]
      · simp [upd_apply, n10, n9, z7, z8, hHT]
      · rw [allR_add]; simp [upd_apply, z9, z11, hps, allR]
      · rw [← insE_add (p := spawnP D parent actor args np) hfresh rfl]; simp [upd_apply, spawnP]
      · simp [upd_apply, z9, z11, procC, outV, spawnP, addNm]
      · simp [upd_apply, z9, z11]
      · intro q h1 h2 h3 h4 h5
        simp only [upd_apply]
        repeat rw [if_neg (by omega)]
        exact hHk q h1 h3
      · omega
    · have hv0 : allV nm D = .sl (nm .all) 0 D.ps.length := by simp [allV, hps]
      have hA : η (nm .all) = some (.cells 1 (allR nm D.ps.length)) := h.obj .all _ (by simp [objOf, hps])
      refine AC.fresh fun hf => ?_; refine AC.enter Tryz.func43 rfl Tryz.ntmps43 (by simp) ?_
      simp [aload, apart, afield, hm, machC]
      refine ACK.use halloc ?_
      intro v η1 n1' ⟨c1, c2, c3⟩
      replace c3 := c3.symm
      subst c1 c3
      have hHm : η1 (nm .mach) = some (.cells 6 [machC nm D]) := by rw [c2, upd_ne n1, hm]
      have hHl : η1 (nm .live) = some (.map (ent (liveE nm D.ps))) := by rw [c2, upd_ne n3, hLv]
      have hHA : η1 (nm .all) = some (.cells 1 (allR nm D.ps.length)) := by rw [c2, upd_ne n4, hA]
      have hHT : η1 (nm .pids) = some (tabO T) := by rw [c2, upd_eq]
      have hHk : ∀ q, q < n → q ≠ nm .pids → η1 q = η q := fun q _ hq => by rw [c2, upd_ne hq]
      clear c2
      simp [aload, apart, afield, hHm, machC]
      refine ACK.rt (hnew _ _) ?_
      simp [astore, upd_apply, upd_upd]
      refine drawK.intro mixed [(0, []), (1, []), (2, []), (3, []), (4, []), (5, [4]), (6, []), (7, []), (8, [])] (by kernel_rfl) ?_
      simp [lk_some, chkK, aload, apart, upd_apply, abuild, aplace, afillP]
      refine ACK.use (hmn _ _) ?_
      intro v η2 n2 ⟨d1, d2, d3⟩
      subst d1 d2 d3
      simp [aload, apart, afield, upd_apply, abuild, aplace, afillP, z1, z2, z3, z4, n5, hHm, hHA, machC, hv0, Nat.add_assoc, abuildS, tek, chunk, appK, aappend, arows, lenMax, astore, hb1, hb2, etk, elen]
      rw [ainsert_ent (es := liveE nm D.ps) Tryz.underlying87 Tryz.underlying2 ?hr]
      case hr => simp [upd_apply, z5, z6, n6, n8, hHl]
      simp
      refine resK.rt ⟨rfl, addNm nm D.ps.length n, h.addP hf _ T rfl rfl ?_ ?_ ?_ ?_ ?_ ?_ ?_ ?_⟩
      · simp [upd_apply, n2, machC, allV, addD, addNm, hps]
      · simp [upd_apply, n10, n9, n7, z7, z8, hHT]
      · rw [allR_add]; simp [upd_apply, z9, z11, allR]
      · rw [← insE_add (p := spawnP D parent actor args np) hfresh rfl]; simp [upd_apply, spawnP]
      · simp [upd_apply, z9, z10, z11, procC, outV, spawnP, addNm]
      · simp [upd_apply, z9, z10, z11]
      · intro q h1 h2 h3 h4 h5
        simp only [upd_apply]
        repeat rw [if_neg (by omega)]
        exact hHk q h1 h3
      · omega
end Go.Proofs.YtbomkomipaipmaaGreat
namespace Go.Proofs.YtbomkomipaipmaaGreat
set_option maxRecDepth 100000

theorem spawnD_get {D : MD} {parent actor : Int} {args : List Int} {i : Nat} {p : PD} (hp : D.ps[i]? = some p) : (spawnD D parent actor args).1.ps[i]? = some p := by
  cases hl : lowS D.tab.sl with
  | none => rw [spawnD_none hl]; exact hp
  | some s => rw [spawnD_some hl]; simp only; rw [List.getElem?_append_left (List.getElem?_eq_some_iff.1 hp).1]; exact hp
set_option maxHeartbeats 8000000 in
theorem mspawns_ac {η : AHeap} {n : Nat} {nm : Role → Nat} {D : MD} (h : MachAt η n nm D) (hi : MInv D) (ok : MachOK D) (hnum : D.ps.length ≤ 100000) {i : Nat} {p : PD} (hp : D.ps[i]? = some p) (hd : p.dead = false) (e : Eff) (hA : e.args.length ≤ lenMax) :
    AC Tryz.prog 105 [.ptr (nm .mach) 0 0, .ptr (nm (.proc i)) 0 0, effV e] η n (fun _ η' n' => ∃ nm', Nx η n nm D η' n' nm' (spawnsD D i p e)) := by
  have hil : i < D.ps.length := (List.getElem?_eq_some_iff.1 hp).1
  have hpm : p ∈ D.ps := List.mem_of_getElem? hp
  refine AC.fresh fun hf => ?_; refine AC.enter Tryz.func105 rfl Tryz.ntmps105 (by simp) ?_
  simp [effV, effC]
  obtain ⟨H, hH⟩ : ∃ H, H = upd η n (some (.cells 10 [effC e (.rs 1 (ints e.args))])) := ⟨_, rfl⟩
  have hHk : ∀ q, q < n → H q = η q := fun q hq => by rw [hH, upd_ne (by omega)]
  have hHn : H n = some (.cells 10 [effC e (.rs 1 (ints e.args))]) := by rw [hH]; exact upd_eq _ _ _
  have hHf : ∀ k, n + 1 ≤ k → H k = none := fun k hk => by rw [hH, upd_ne (by omega)]; exact hf k (by omega)
  have b1 := Nx.beside (n' := n + 1) h hf hHk (by omega)
  have hpc := b1.at'.proc hp
  have hsp := spawn_ac (n := n + 1) b1.at' hi ok hnum p.pid e.actor e.args (av := .rs 1 (ints e.args)) (Or.inl rfl) hA
  simp only [effC] at hH
  rw [← hH]
  clear hH
  refine drawK.intro mixed [(0, []), (1, []), (2, []), (3, []), (4, []), (5, []), (6, []), (7, []), (8, []), (9, []), (10, []), (11, []), (12, []), (13, []), (14, []), (15, [])] (by kernel_rfl) ?_
  simp [aload, apart, afield, hHn, effC, hpc, procC]
  refine ACK.use hsp.freshN ?_
  intro v η1 n1 ⟨⟨c1, nm1, b2⟩, hf1, _⟩
  subst c1
  have hp1 : (spawnD D p.pid e.actor e.args).1.ps[i]? = some p := spawnD_get hp
  have hpc1 := b2.at'.proc hp1
  have em : nm1 .mach = nm .mach := b2.mach
  have ep : nm1 (.proc i) = nm (.proc i) := b2.proc i hil
  have hinv := hi.spawn p.pid e.actor e.args
  unfold spawnsD
  cases hc : (spawnD D p.pid e.actor e.args).2.2 with
  | false =>
    simp [spawnV, hc, abuild, aplace, afillP]
    have hno : (spawnD D p.pid e.actor e.args).1 = D := by
      cases hl : lowS D.tab.sl with
      | none => rw [spawnD_none hl]
      | some s => rw [spawnD_some hl] at hc; simp at hc
    rw [hno] at b2
    have := mfall_nx b2.at' hi ok hp hd (3, 0)
    rw [em, ep] at this
    refine ACK.use this ?_
    intro v η2 n2 b3
    simp
    exact resK.rt ⟨nm1, (b1.trans b2).trans b3⟩
  | true =>
    have hst := ok.stk p hpm
    have hgot := fun η n => gotR_ac p.st (spawnD D p.pid e.actor e.args).2.1 η n hst.1 hst.2
    simp only [newV, stV, stC] at hgot
    rw [ep] at hpc1
    simp [spawnV, hc, aload, apart, afield, hpc1, procC]
    refine ACK.rt (hgot _ _) ?_
    simp [afield, hpc1, procC, astore]
    have hl1 : i < (spawnD D p.pid e.actor e.args).1.ps.length := (List.getElem?_eq_some_iff.1 hp1).1
    have o1 : nm1 (.orow i) ≠ nm1 (.brow i) := b2.at'.ne (ρ := .orow i) (ρ' := .brow i) hl1 hl1 (by simp)
    have o2 : nm1 (.orow i) ≠ nm1 (.proc i) := b2.at'.ne (ρ := .orow i) (ρ' := .proc i) hl1 hl1 (by simp)
    have o3 : nm1 (.box i) ≠ nm1 (.proc i) := b2.at'.ne (ρ := .box i) (ρ' := .proc i) hl1 hl1 (by simp)
    have o4 : nm1 (.brow i) ≠ nm1 (.proc i) := b2.at'.ne (ρ := .brow i) (ρ' := .proc i) hl1 hl1 (by simp)
    refine resK.rt ⟨setNm nm1 i (nm1 (.orow i)) (nm1 (.brow i)), (b1.trans b2).trans (b2.at'.setP hf1 hp1 { p with st := (gotF p.st (spawnD D p.pid e.actor e.args).2.1).1 } rfl rfl (Or.inl rfl) (Or.inl rfl) o1 ?_ ?_ ?_ ?_ (Nat.le_refl _))⟩
    · rw [setNm_same, ep, upd_eq]; rfl
    · intro ho
      rw [upd_ne (by rw [← ep]; exact o2)]
      exact b2.at'.obj (.orow i) _ (by simp only [objOf, hp1]; rw [if_neg ho])
    · exact (b2.at'.bx i p hp1).cong (upd_ne (by rw [← ep]; exact o3)) (upd_ne (by rw [← ep]; exact o4))
    · intro q h1 h2 h3 h4 h5
      exact upd_ne (by rw [← ep]; exact h2)
def effFn (k : Int) : AVal := if k = 1 then .func 103 [] [] else if k = 2 then .func 104 [] [] else if k = 3 then .func 105 [] [] else if k = 4 then .func 106 [] [] else if k = 5 then .func 107 [] [] else .nilf
theorem azvF : azv Tryz.prog 114 = some .nilf := by kernel_rfl
theorem effFn_nr (k : Int) : NR (effFn k) := by
  unfold effFn
  repeat' split
  all_goals first
    | exact .nilf
    | exact .func _ _ _ (by simp) (by simp)
set_option maxHeartbeats 4000000 in
theorem meffect_ac (k : Int) (η : AHeap) (n : Nat) : AC Tryz.prog 52 [.int .i64 k] η n (Rt (effFn k) η n) := by
  refine AC.pure (effFn_nr k) ?_
  by_cases h1 : k = 1
  · subst h1
    refine AC.fresh fun hf => ?_; refine AC.enter Tryz.func52 rfl Tryz.ntmps52 (by simp) ?_
    simp [ainsert, akOK, afind, akeq, upd_apply, upd_upd, alookup]
    exact resK.of (η' := η) (le_upd (AHeap.le_rfl _) (hf n (Nat.le_refl _))) _ (Nat.le_refl _) ⟨by simp [effFn], rfl⟩
  by_cases h2 : k = 2
  · subst h2
    refine AC.fresh fun hf => ?_; refine AC.enter Tryz.func52 rfl Tryz.ntmps52 (by simp) ?_
    simp [ainsert, akOK, afind, akeq, upd_apply, upd_upd, alookup]
    exact resK.of (η' := η) (le_upd (AHeap.le_rfl _) (hf n (Nat.le_refl _))) _ (Nat.le_refl _) ⟨by simp [effFn], rfl⟩
  by_cases h3 : k = 3
  · subst h3
    refine AC.fresh fun hf => ?_; refine AC.enter Tryz.func52 rfl Tryz.ntmps52 (by simp) ?_
    simp [ainsert, akOK, afind, akeq, upd_apply, upd_upd, alookup]
    exact resK.of (η' := η) (le_upd (AHeap.le_rfl _) (hf n (Nat.le_refl _))) _ (Nat.le_refl _) ⟨by simp [effFn], rfl⟩
  by_cases h4 : k = 4
  · subst h4
    refine AC.fresh fun hf => ?_; refine AC.enter Tryz.func52 rfl Tryz.ntmps52 (by simp) ?_
    simp [ainsert, akOK, afind, akeq, upd_apply, upd_upd, alookup]
    exact resK.of (η' := η) (le_upd (AHeap.le_rfl _) (hf n (Nat.le_refl _))) _ (Nat.le_refl _) ⟨by simp [effFn], rfl⟩
  by_cases h5 : k = 5
  · subst h5
    refine AC.fresh fun hf => ?_; refine AC.enter Tryz.func52 rfl Tryz.ntmps52 (by simp) ?_
    simp [ainsert, akOK, afind, akeq, upd_apply, upd_upd, alookup]
    exact resK.of (η' := η) (le_upd (AHeap.le_rfl _) (hf n (Nat.le_refl _))) _ (Nat.le_refl _) ⟨by simp [effFn], rfl⟩
  have g1 : (k == 1) = false := beq_eq_false_iff_ne.2 h1
  have g2 : (k == 2) = false := beq_eq_false_iff_ne.2 h2
  have g3 : (k == 3) = false := beq_eq_false_iff_ne.2 h3
  have g4 : (k == 4) = false := beq_eq_false_iff_ne.2 h4
  have g5 : (k == 5) = false := beq_eq_false_iff_ne.2 h5
  refine AC.fresh fun hf => ?_; refine AC.enter Tryz.func52 rfl Tryz.ntmps52 (by simp) ?_
  simp [ainsert, akOK, afind, akeq, upd_apply, upd_upd, alookup, g1, g2, g3, g4, g5, azvF]
  exact resK.of (η' := η) (le_upd (AHeap.le_rfl _) (hf n (Nat.le_refl _))) _ (Nat.le_refl _) ⟨by simp [effFn, h1, h2, h3, h4, h5], rfl⟩
/-- an effect is done -/
theorem eff_ac {η : AHeap} {n : Nat} {nm : Role → Nat} {D : MD} (h : MachAt η n nm D) (hi : MInv D) (ok : MachOK D) (hnum : D.ps.length ≤ 100000) {i : Nat} {p : PD} (hp : D.ps[i]? = some p) (hd : p.dead = false) (hl : p.out.length ≤ 100000) (e : Eff) (hA : e.args.length ≤ lenMax) :
    (effFn e.kind = .nilf ∧ ∀ m1 m2, effD m1 m2 D i p e = D) ∨ ∃ f, effFn e.kind = .func f [] [] ∧ HB Tryz.prog f = true ∧ AC Tryz.prog f [.ptr (nm .mach) 0 0, .ptr (nm (.proc i)) 0 0, effV e] η n (fun _ η' n' => ∃ nm' m1 m2, Nx η n nm D η' n' nm' (effD m1 m2 D i p e)) := by
  unfold effFn effD
  by_cases h1 : e.kind = 1
  · rw [if_pos h1]
    exact Or.inr ⟨_, rfl, by simp, (out_ac h hp hl e).mono fun _ _ _ ⟨nm', k⟩ => ⟨nm', 0, 0, by rw [if_pos h1]; exact k⟩⟩
  rw [if_neg h1]
  by_cases h2 : e.kind = 2
  · rw [if_pos h2]
    exact Or.inr ⟨_, rfl, by simp, (msend_ac h hi ok hp hd e).mono fun _ _ _ ⟨nm', k⟩ => ⟨nm', 0, 0, by rw [if_neg h1, if_pos h2]; exact k⟩⟩
  rw [if_neg h2]
  by_cases h3 : e.kind = 3
  · rw [if_pos h3]
    exact Or.inr ⟨_, rfl, by simp, (mspawns_ac h hi ok hnum hp hd e hA).mono fun _ _ _ ⟨nm', k⟩ => ⟨nm', 0, 0, by rw [if_neg h1, if_neg h2, if_pos h3]; exact k⟩⟩
  rw [if_neg h3]
  by_cases h4 : e.kind = 4
  · rw [if_pos h4]
    exact Or.inr ⟨_, rfl, by simp, (mlink_ac h hi ok hp hd e).mono fun _ _ _ ⟨m1, m2, k⟩ => ⟨nm, m1, m2, by rw [if_neg h1, if_neg h2, if_neg h3, if_pos h4]; exact k⟩⟩
  rw [if_neg h4]
  by_cases h5 : e.kind = 5
  · rw [if_pos h5]
    exact Or.inr ⟨_, rfl, by simp, (mexit_ac h hi ok hp hd e).mono fun _ _ _ k => ⟨nm, 0, 0, by rw [if_neg h1, if_neg h2, if_neg h3, if_neg h4, if_pos h5]; exact k⟩⟩
  rw [if_neg h5]
  exact Or.inl ⟨rfl, fun m1 m2 => by rw [if_neg h1, if_neg h2, if_neg h3, if_neg h4, if_neg h5]⟩
end Go.Proofs.YtbomkomipaipmaaGreat
namespace Go.Proofs.YtbomkomipaipmaaGreat
set_option maxRecDepth 100000

/-- a row of pointers to processes -/
def ptrs (nm : Role → Nat) (is : List Nat) : List (List AVal) := is.map fun i => [.ptr (nm (.proc i)) 0 0]
@[simp] theorem ptrs_len (nm : Role → Nat) (is : List Nat) : (ptrs nm is).length = is.length := by simp [ptrs]
/-- an own row of such, made behind n -/
def PtrI (nm : Role → Nat) (η1 : AHeap) (n n1 : Nat) (v : AVal) (is : List Nat) : Prop := (v = .nils ∧ is = []) ∨ ∃ g, v = .sl g 0 is.length ∧ n ≤ g ∧ g < n1 ∧ η1 g = some (.cells 1 (ptrs nm is))
def OutI (η1 : AHeap) (n n1 : Nat) (v : AVal) (l : List Int) : Prop := (v = .nils ∧ l = []) ∨ ∃ g, v = .sl g 0 l.length ∧ n ≤ g ∧ g < n1 ∧ η1 g = some (.cells 1 (ints l))
theorem PtrI.len {nm : Role → Nat} {η1 : AHeap} {n n1 : Nat} {v : AVal} {is : List Nat} (h : PtrI nm η1 n n1 v is) (η : AHeap) : alenT Tryz.prog 88 v η = some (is.length : Int) := by
  rcases h with ⟨rfl, rfl⟩ | ⟨g, rfl, _⟩ <;> simp
@[simp] theorem ptrs_at (nm : Role → Nat) (is : List Nat) (i : Nat) (h : i < (ptrs nm is).length) : (ptrs nm is)[i] = [.ptr (nm (.proc (is[i]'(by simpa using h)))) 0 0] := by simp [ptrs]
theorem ptrs_get {nm : Role → Nat} {is : List Nat} {k : Nat} (h : k < is.length) : (ptrs nm is)[k]? = some [.ptr (nm (.proc is[k])) 0 0] := by simp [ptrs, h]
set_option maxHeartbeats 8000000 in
theorem waiting_ac {η : AHeap} {n kk : Nat} {nm : Role → Nat} {D : MD} (h : MachAt η n nm D) (gd : Good kk D) :
    AC Tryz.prog 47 [.ptr (nm .mach) 0 0] η n (fun v η1 n1 => PtrI nm η1 n n1 v (waitL D) ∧ (∀ q, q < n → η1 q = η q) ∧ n ≤ n1) := by
  have ok := gd.ok
  have h32 := allP_len D.tab.sl 0
  have hT := gd.inv.tab.len
  have hL32 : (liveP D).length ≤ 32 := by unfold liveP; simp; omega
  have hall : ∀ x ∈ liveP D, Alive D.ps x := fun x hx => (gd.inv.liveM x).1 hx
  have hlive := live_ac (n := n) h ok (by omega)
  unfold waitL
  change AC Tryz.prog 15 _ _ _ (Rt (.rs 1 (ints (liveP D))) _ _) at hlive
  generalize liveP D = L at hL32 hall hlive
  refine AC.fresh fun hf => ?_; refine AC.enter Tryz.func47 rfl Tryz.ntmps47 (by simp) ?_
  simp
  refine ACK.rt hlive ?_
  simp
  refine loopK.inv [3, 5, 6, 10, 11, 12, 13, 14, 15, 16, 17, 18, 19, 20, 21, 22, 23, 24, 25, 26, 27, 28] (fun s : Nat × AVal × AHeap × Nat => s.1 ≤ L.length ∧ PtrI nm s.2.2.1 n s.2.2.2 s.2.1 ((L.take s.1).filterMap (waitP D)) ∧ (∀ q, q < n → s.2.2.1 q = η q) ∧ n ≤ s.2.2.2) (fun s => [(10, .int .i64 s.1), (3, s.2.1)]) (fun s => s.2.2.1) (fun s => s.2.2.2) (fun s => L.length - s.1) (0, .nils, η, n) ⟨by simp, Or.inl ⟨rfl, rfl⟩, fun _ _ => rfl, Nat.le_refl _⟩ (by simp) (AHeap.le_rfl _) (Nat.le_refl _) ?_
  intro ⟨k, t, η1, n1⟩ ⟨j1, j2, j3, j4⟩
  simp only at j1 j2 j3 j4
  simp
  refine CondP.dec (fun hk => ?_) (fun hk => ?_)
  · have hk' : k < L.length := by omega
    have ewk : IntKind.i64.wrap ((k : Int) + 1) = (k : Int) + 1 := wrap_id (by omega) (by omega)
    have h1 : MachAt η1 n1 nm D := h.grow (fun q hq => j3 q (h.inlt hf hq)) j4
    obtain ⟨i, p, a1, a2, a3, a4⟩ := gd.inv.at.1 (hall L[k] (List.getElem_mem hk'))
    have hm := h1.mach
    have elook := lookLv h1 L[k]
    rw [a1] at elook
    simp only at elook
    simp [hk, aload, apart, afield, aindex, hm, machC, elook]
    refine ACK.rt (mready_ac h1 ok a2) ?_
    have etake : (L.take (k + 1)).filterMap (waitP D) = (L.take k).filterMap (waitP D) ++ (if readyP D p = true then [] else [i]) := by
      rw [List.take_succ_eq_append_getElem hk', List.filterMap_append]
      congr 1
      simp only [List.filterMap_cons, List.filterMap_nil]
      unfold waitP
      rw [a1]
      simp only [a2]
      cases readyP D p <;> simp
    cases hr : readyP D p with
    | true =>
      simp [ewk]
      rw [hr] at etake
      refine endK.intro (k + 1, t, η1, n1) ⟨by simp only; omega, ?_, j3, j4⟩ (by simp) (by repeat (first | exact Agree.mask _ _ | refine Agree.setf rfl ?_ | refine Agree.inner rfl ?_)) (AHeap.le_rfl _) (Nat.le_refl _) (show L.length - (k + 1) < L.length - k by omega)
      simp only
      rw [etake]; simpa using j2
    | false =>
      rw [hr] at etake
      simp only [Bool.false_eq_true, if_false] at etake
      have hlen : ((L.take k).filterMap (waitP D)).length ≤ 32 := by
        refine Nat.le_trans (List.length_filterMap_le _ _) ?_
        simp; omega
      revert j2 etake hlen
      generalize (L.take k).filterMap (waitP D) = J
      intro j2 etake hlen
      have y0 : ∀ k, ¬ n1 = n1 + (k + 1) := fun k => by omega
      rcases j2 with ⟨rfl, rfl⟩ | ⟨g, rfl, k6, k7, k8⟩
      · simp [ewk, upd_apply, Nat.add_assoc, abuildS, afillP, tek, chunk, appK, aappend, arows, lenMax]
        refine endK.heap fun G hG => ?_
        have g1 : G (n1 + 1) = some (.cells 1 [[.ptr (nm (.proc i)) 0 0]]) := by rw [hG]; simp [upd_apply]
        have g2 : ∀ q, q < n → G q = η q := fun q hq => by
          rw [hG]; simp only [upd_apply]
          repeat rw [if_neg (by omega)]
          exact j3 q hq
        refine endK.intro (k + 1, .sl (n1 + 1) 0 1, G, n1 + 2) ⟨by simp only; omega, ?_, g2, by simp only; omega⟩ (by simp) (by repeat (first | exact Agree.mask _ _ | refine Agree.setf rfl ?_ | refine Agree.inner rfl ?_)) (AHeap.le_rfl _) (Nat.le_refl _) (show L.length - (k + 1) < L.length - k by omega)
        simp only
        rw [etake]
        exact Or.inr ⟨n1 + 1, by simp, by omega, by omega, by rw [g1]; simp [ptrs]⟩
      · have y5 : ¬ g = n1 := by omega
        have y6 : ∀ k, ¬ g = n1 + k := fun k => by omega
        have hb1 : (J.length + 1) * 8 ≤ 140737488355328 := by omega
        have hb2 : J.length + 1 ≤ 17592186044416 := by omega
        have etk : List.take J.length (ptrs nm J) = ptrs nm J := List.take_of_length_le (by simp)
        simp [ewk, upd_apply, Nat.add_assoc, abuildS, afillP, tek, chunk, appK, aappend, arows, lenMax, y5, k8, hb1, hb2, etk]
        refine endK.heap fun G hG => ?_
        have g1 : G (n1 + 1) = some (.cells 1 (ptrs nm J ++ [[.ptr (nm (.proc i)) 0 0]])) := by rw [hG]; simp [upd_apply]
        have g2 : ∀ q, q < n → G q = η q := fun q hq => by
          rw [hG]; simp only [upd_apply]
          repeat rw [if_neg (by omega)]
          exact j3 q hq
        refine endK.intro (k + 1, .sl (n1 + 1) 0 (J.length + 1), G, n1 + 2) ⟨by simp only; omega, ?_, g2, by simp only; omega⟩ (by simp) (by repeat (first | exact Agree.mask _ _ | refine Agree.setf rfl ?_ | refine Agree.inner rfl ?_)) (AHeap.le_rfl _) (Nat.le_refl _) (show L.length - (k + 1) < L.length - k by omega)
        simp only
        rw [etake]
        exact Or.inr ⟨n1 + 1, by simp, by omega, by omega, by rw [g1]; simp [ptrs]⟩
  · simp [hk]
    have e9 : L.take k = L := List.take_of_length_le (by omega)
    rw [e9] at j2
    exact resK.rt ⟨j2, j3, j4⟩
def PtrL (nm : Role → Nat) (η : AHeap) (v : AVal) (is : List Nat) : Prop := (v = .nils ∧ is = []) ∨ ∃ g, v = .sl g 0 is.length ∧ η g = some (.cells 1 (ptrs nm is))
theorem PtrI.l {nm : Role → Nat} {η1 : AHeap} {n n1 : Nat} {v : AVal} {is : List Nat} (h : PtrI nm η1 n n1 v is) : PtrL nm η1 v is := h.imp _root_.id fun ⟨g, a, _, _, b⟩ => ⟨g, a, b⟩
theorem PtrL.len {nm : Role → Nat} {η1 : AHeap} {v : AVal} {is : List Nat} (h : PtrL nm η1 v is) (η : AHeap) : alenT Tryz.prog 88 v η = some (is.length : Int) := by
  rcases h with ⟨rfl, rfl⟩ | ⟨g, rfl, _⟩ <;> simp
theorem PtrL.sc {nm : Role → Nat} {η1 : AHeap} {v : AVal} {is : List Nat} (h : PtrL nm η1 v is) : v.sc = true ∧ acells v = [v] := by
  rcases h with ⟨rfl, rfl⟩ | ⟨g, rfl, _⟩ <;> exact ⟨rfl, rfl⟩
theorem wokenL_take {D : MD} {is : List Nat} {k : Nat} (hk : k < is.length) : wokenL D (is.take (k + 1)) = wokenL D (is.take k) ++ wokenP D is[k] := by
  unfold wokenL
  rw [List.take_succ_eq_append_getElem hk, List.flatMap_append]
  simp
set_option maxHeartbeats 8000000 in
theorem woken_ac {η : AHeap} {n : Nat} {nm : Role → Nat} {D : MD} (h : MachAt η n nm D) (ok : MachOK D) {v : AVal} {is : List Nat} (hv : PtrL nm η v is) (his : ∀ i ∈ is, i < D.ps.length) (hl2 : is.length ≤ 1000) :
    AC Tryz.prog 48 [.ptr (nm .mach) 0 0, v] η n (fun u η1 n1 => OutI η1 n n1 u (wokenL D is) ∧ (∀ q, q < n → η1 q = η q) ∧ n ≤ n1) := by
  have hlen := hv.len
  obtain ⟨hsc1, hsc2⟩ := hv.sc
  refine AC.fresh fun hf => ?_; refine AC.enter Tryz.func48 rfl Tryz.ntmps48 (by simp) ?_
  have hold : ∀ r o, η r = some o → r < n := fun r o hr => by
    rcases Nat.lt_or_ge r n with h | h
    · exact h
    · rw [hf r h] at hr; cases hr
  simp [hlen]
  refine loopK.inv [5, 7, 10, 11, 12, 13, 14, 15, 16, 17, 18, 19, 20, 21, 22, 23, 24, 25, 26, 27, 28, 29, 30, 31, 32, 33] (fun s : Nat × AVal × AHeap × Nat => s.1 ≤ is.length ∧ OutI s.2.2.1 n s.2.2.2 s.2.1 (wokenL D (is.take s.1)) ∧ (∀ q, q < n → s.2.2.1 q = η q) ∧ n ≤ s.2.2.2) (fun s => [(10, .int .i64 s.1), (5, s.2.1)]) (fun s => s.2.2.1) (fun s => s.2.2.2) (fun s => is.length - s.1) (0, .nils, η, n) ⟨by simp, Or.inl ⟨rfl, rfl⟩, fun _ _ => rfl, Nat.le_refl _⟩ (by simp) (AHeap.le_rfl _) (Nat.le_refl _) ?_
  intro ⟨k, t, η1, n1⟩ ⟨j1, j2, j3, j4⟩
  simp only at j1 j2 j3 j4
  simp
  refine CondP.dec (fun hk => ?_) (fun hk => ?_)
  · have hk' : k < is.length := by omega
    have ewk : IntKind.i64.wrap ((k : Int) + 1) = (k : Int) + 1 := wrap_id (by omega) (by omega)
    have h1 : MachAt η1 n1 nm D := h.grow (fun q hq => j3 q (h.inlt hf hq)) j4
    have hi : is[k] < D.ps.length := his _ (List.getElem_mem hk')
    obtain ⟨i, hie⟩ : ∃ i, is[k] = i := ⟨_, rfl⟩
    rw [hie] at hi
    obtain ⟨p, hp⟩ : ∃ p, D.ps[i]? = some p := ⟨_, List.getElem?_eq_getElem hi⟩
    have hidx : ∃ g, v = .sl g 0 is.length ∧ η1 g = some (.cells 1 (ptrs nm is)) := by
      rcases hv with ⟨_, e⟩ | ⟨g, e1, e2⟩
      · rw [e] at hk'; simp at hk'
      · exact ⟨g, e1, by rw [j3 g (hold g _ e2), e2]⟩
    obtain ⟨g, hvg, hg⟩ := hidx
    have hget := ptrs_get (nm := nm) hk'
    rw [hie] at hget
    have hpc := h1.proc hp
    have ewt := wokenL_take (D := D) hk'
    rw [hie] at ewt
    have hix : aindex Tryz.prog 88 v (.int .i64 k) η1 = some (.ptr g k 0) := by rw [hvg]; simp [aindex, hg, hk']
    simp [hk, hix, aload, apart, hg, hie, afield, hpc, procC]
    unfold wokenP at ewt
    simp only [hp] at ewt
    have hlenW : (wokenL D (is.take k)).length ≤ 1000 := by
      refine Nat.le_trans (wokenL_len _ _) ?_
      simp; omega
    cases hdd : p.dead with
    | true =>
      rw [hdd] at ewt
      simp at ewt
      simp [ewk]
      refine endK.intro (k + 1, t, η1, n1) ⟨by simp only; omega, ?_, j3, j4⟩ (by simp) (by repeat (first | exact Agree.mask _ _ | refine Agree.setf rfl ?_ | refine Agree.inner rfl ?_)) (AHeap.le_rfl _) (Nat.le_refl _) (show is.length - (k + 1) < is.length - k by omega)
      simp only
      rw [ewt]; exact j2
    | false =>
      rw [hdd] at ewt
      simp
      refine ACK.rt (mready_ac h1 ok hp) ?_
      cases hr : readyP D p with
      | false =>
        rw [hr] at ewt
        simp at ewt
        simp [ewk]
        refine endK.intro (k + 1, t, η1, n1) ⟨by simp only; omega, ?_, j3, j4⟩ (by simp) (by repeat (first | exact Agree.mask _ _ | refine Agree.setf rfl ?_ | refine Agree.inner rfl ?_)) (AHeap.le_rfl _) (Nat.le_refl _) (show is.length - (k + 1) < is.length - k by omega)
        simp only
        rw [ewt]; exact j2
      | true =>
        rw [hr] at ewt
        simp at ewt
        revert j2 ewt hlenW
        generalize wokenL D (is.take k) = J
        intro j2 hlenW ewt
        rcases j2 with ⟨rfl, rfl⟩ | ⟨g, rfl, k6, k7, k8⟩
        · simp [ewk, upd_apply, Nat.add_assoc, aload, apart, afield, hpc, procC, abuildS, afillP, tek, chunk, appK, aappend, arows, lenMax]
          refine endK.heap fun G hG => ?_
          have g1 : G (n1 + 1) = some (.cells 1 [[.int .i64 p.pid]]) := by rw [hG]; simp [upd_apply]
          have g2 : ∀ q, q < n → G q = η q := fun q hq => by
            rw [hG]; simp only [upd_apply]
            repeat rw [if_neg (by omega)]
            exact j3 q hq
          refine endK.intro (k + 1, .sl (n1 + 1) 0 1, G, n1 + 2) ⟨by simp only; omega, ?_, g2, by simp only; omega⟩ (by simp) (by repeat (first | exact Agree.mask _ _ | refine Agree.setf rfl ?_ | refine Agree.inner rfl ?_)) (AHeap.le_rfl _) (Nat.le_refl _) (show is.length - (k + 1) < is.length - k by omega)
          simp only
          rw [ewt]
          exact Or.inr ⟨n1 + 1, by simp, by omega, by omega, by rw [g1]; simp [ints]⟩
        · have y5 : ¬ g = n1 := by omega
          have y6 : ∀ k, ¬ g = n1 + k := fun k => by omega
          have hb1 : (J.length + 1) * 8 ≤ 140737488355328 := by omega
          have hb2 : J.length + 1 ≤ 17592186044416 := by omega
          have etk : List.take J.length (ints J) = ints J := List.take_of_length_le (by simp)
          simp [ewk, upd_apply, Nat.add_assoc, aload, apart, afield, hpc, procC, abuildS, afillP, tek, chunk, appK, aappend, arows, lenMax, y5, k8, hb1, hb2, etk]
          refine endK.heap fun G hG => ?_
          have g1 : G (n1 + 1) = some (.cells 1 (ints J ++ [[.int .i64 p.pid]])) := by rw [hG]; simp [upd_apply]
          have g2 : ∀ q, q < n → G q = η q := fun q hq => by
            rw [hG]; simp only [upd_apply]
            repeat rw [if_neg (by omega)]
            exact j3 q hq
          refine endK.intro (k + 1, .sl (n1 + 1) 0 (J.length + 1), G, n1 + 2) ⟨by simp only; omega, ?_, g2, by simp only; omega⟩ (by simp) (by repeat (first | exact Agree.mask _ _ | refine Agree.setf rfl ?_ | refine Agree.inner rfl ?_)) (AHeap.le_rfl _) (Nat.le_refl _) (show is.length - (k + 1) < is.length - k by omega)
          simp only
          rw [ewt]
          exact Or.inr ⟨n1 + 1, by simp, by omega, by omega, by rw [g1]; simp [ints]⟩
  · simp [hk]
    have e9 : is.take k = is := List.take_of_length_le (by omega)
    rw [e9] at j2
    exact resK.rt ⟨j2, j3, j4⟩
end Go.Proofs.YtbomkomipaipmaaGreat
namespace Go.Proofs.YtbomkomipaipmaaGreat
set_option maxRecDepth 100000

/-- the same own row of pointers, behind more -/
theorem ptrs_more {nm nm5 : Role → Nat} {L L' : Nat} {is : List Nat} (_ : L ≤ L') (his : ∀ i ∈ is, i < L) (hn : ∀ i, i < L → nm5 (.proc i) = nm (.proc i)) :
    ptrs nm is ++ ((allR nm5 L').drop L).take (L' - L) = ptrs nm5 (is ++ (List.range (L' - L)).map (L + ·)) := by
  have e1 : ptrs nm is = ptrs nm5 is := List.map_congr_left fun i hi => by rw [hn i (his i hi)]
  rw [e1]
  unfold ptrs
  rw [List.map_append]
  congr 1
  have e2 : (allR nm5 L').length = L' := by simp [allR]
  rw [List.take_of_length_le (by simp [e2])]
  refine List.ext_getElem (by simp [allR]) fun k h1 h2 => ?_
  simp [allR]
/-- Take, whatever place -/
theorem takeA_ac {η : AHeap} {n b q : Nat} {l : List (Int × Int)} (h : BoxAt η b l q) (hbq : b ≠ q) (h16 : l.length ≤ 16) (t : Int) (ht : 0 ≤ t) : AC Tryz.prog 51 [.ptr b 0 0, .int .i64 t] η n
    (fun _ η' n' => BoxAt η' b (l.eraseIdx t.toNat) q ∧ n ≤ n' ∧ ∀ r, r < n → r ≠ b → r ≠ q → η' r = η r) := by
  obtain ⟨i, rfl⟩ : ∃ i : Nat, t = i := ⟨t.toNat, by omega⟩
  simp only [Int.toNat_natCast]
  by_cases hi : i < l.length
  · exact (take_ac h hbq h16 i hi).mono fun _ _ _ ⟨_, a, b, c⟩ => ⟨a, b, c⟩
  · refine (take0_ac h i (by omega)).mono ?_
    rintro v η' n' ⟨_, rfl, rfl⟩
    rw [List.eraseIdx_of_length_le (by omega)]
    exact ⟨h, Nat.le_refl _, fun _ _ _ _ => rfl⟩
/-- the state is set -/
theorem MachAt.setSt {η η' : AHeap} {n n' : Nat} {nm : Role → Nat} {D : MD} (h : MachAt η n nm D) (hf : ∀ k, n ≤ k → η k = none) {i : Nat} {p : PD} (hp : D.ps[i]? = some p) (s : Sta)
    (hP : η' (nm (.proc i)) = some (.cells 14 [procC nm i { p with st := s }])) (hk : ∀ q, q < n → q ≠ nm (.proc i) → η' q = η q) (hn : n ≤ n') : Nx η n nm D η' n' nm (setD D i { p with st := s }) := by
  have hl1 : i < D.ps.length := (List.getElem?_eq_some_iff.1 hp).1
  have o1 : nm (.orow i) ≠ nm (.brow i) := h.ne (ρ := .orow i) (ρ' := .brow i) hl1 hl1 (by simp)
  have o2 : nm (.orow i) ≠ nm (.proc i) := h.ne (ρ := .orow i) (ρ' := .proc i) hl1 hl1 (by simp)
  have o3 : nm (.box i) ≠ nm (.proc i) := h.ne (ρ := .box i) (ρ' := .proc i) hl1 hl1 (by simp)
  have o4 : nm (.brow i) ≠ nm (.proc i) := h.ne (ρ := .brow i) (ρ' := .proc i) hl1 hl1 (by simp)
  have := h.setP (η' := η') (n' := n') hf hp { p with st := s } rfl rfl (o := nm (.orow i)) (b := nm (.brow i)) (Or.inl rfl) (Or.inl rfl) o1 (by rw [setNm_same]; exact hP) (fun ho => by
      rw [hk _ (h.lt (.orow i) hl1) o2]; exact h.obj (.orow i) _ (by simp only [objOf, hp]; rw [if_neg ho])) ((h.bx i p hp).cong (hk _ (h.lt (.box i) hl1) o3) (hk _ (h.lt (.brow i) hl1) o4)) (fun q h1 h2 _ _ _ => hk q h1 h2) hn
  rw [setNm_same] at this
  exact this
/-- the mailbox is set -/
theorem MachAt.setBx {η η' : AHeap} {n n' : Nat} {nm : Role → Nat} {D : MD} (h : MachAt η n nm D) (hf : ∀ k, n ≤ k → η k = none) {i : Nat} {p : PD} (hp : D.ps[i]? = some p) (l : List (Int × Int)) (hb : BoxAt η' (nm (.box i)) l (nm (.brow i))) (hn : n ≤ n')
    (hk : ∀ q, q < n → q ≠ nm (.box i) → q ≠ nm (.brow i) → η' q = η q) : Nx η n nm D η' n' nm (setD D i { p with box := l }) := by
  have hl1 : i < D.ps.length := (List.getElem?_eq_some_iff.1 hp).1
  have o1 : nm (.orow i) ≠ nm (.brow i) := h.ne (ρ := .orow i) (ρ' := .brow i) hl1 hl1 (by simp)
  have o2 : nm (.proc i) ≠ nm (.box i) := h.ne (ρ := .proc i) (ρ' := .box i) hl1 hl1 (by simp)
  have o3 : nm (.proc i) ≠ nm (.brow i) := h.ne (ρ := .proc i) (ρ' := .brow i) hl1 hl1 (by simp)
  have o4 : nm (.orow i) ≠ nm (.box i) := h.ne (ρ := .orow i) (ρ' := .box i) hl1 hl1 (by simp)
  have := h.setP (η' := η') (n' := n') hf hp { p with box := l } rfl rfl (o := nm (.orow i)) (b := nm (.brow i)) (Or.inl rfl) (Or.inl rfl) o1 (by
      rw [setNm_same, hk _ (h.lt (.proc i) hl1) o2 o3]; have := h.proc hp; exact this) (fun ho => by
      rw [hk _ (h.lt (.orow i) hl1) o4 o1]; exact h.obj (.orow i) _ (by simp only [objOf, hp]; rw [if_neg ho])) hb (fun q a _ _ b c => hk q a b c) hn
  rw [setNm_same] at this
  exact this
theorem app_ptr {T : TypeId} {e : TypeId} {zs : List AVal} {b : Nat} {nm : Role → Nat} {av : AVal} {is : List Nat} {H : AHeap} {n a L m : Nat} {R : List (List AVal)} {K : AVal → AHeap → Nat → Prop} {g : Tag K} (t1 : telem Tryz.prog T = some e) (t2 : tzero Tryz.prog e = some zs) (t3 : tbytes Tryz.prog e = some b) (t4 : Tryz.prog.underlying T = some (.slice e)) (t5 : zs.length = 1) (t6 : b ≤ 8)
    (hav : PtrL nm H av is) (hA : H a = some (.cells 1 R)) (hb : L + m ≤ R.length) (hs : ∀ r ∈ R, ∀ c ∈ r, c.sc = true) (hl : is.length + m ≤ 1000000)
    (hK : ∀ G, G n = some (.cells 1 (ptrs nm is ++ (R.drop L).take m)) → (∀ q, q ≠ n → (∀ ga len, av = .sl ga 0 len → q ≠ ga) → G q = H q) → K (.sl n 0 (is.length + m)) G (n + 1)) : appK Tryz.prog T T av (.sl a L m) H n K g := by
  unfold appK aappend
  simp only [t1, t2, t3, t4, t5, arows, hA, true_and, hb, if_true]
  have hm : ((R.drop L).take m).length = m := by simp; omega
  refine ⟨by omega, fun r hr => hs r (List.mem_of_mem_drop (List.mem_of_mem_take hr)), ?_⟩
  have hbb : (is.length + m) * b ≤ 140737488355328 := by
    have : (is.length + m) * b ≤ 1000000 * 8 := Nat.mul_le_mul hl t6
    omega
  rcases hav with ⟨rfl, rfl⟩ | ⟨ga, rfl, hg⟩
  · simp only [hm]
    simp only [List.length_nil, Nat.zero_add] at hbb hl
    refine ⟨hbb, by unfold lenMax; omega, ?_⟩
    have := hK (upd H n (some (.cells 1 ((R.drop L).take m)))) (by rw [upd_eq]; simp [ptrs]) fun q hq _ => upd_ne hq
    simpa using this
  · simp only [hg, hm]
    refine ⟨trivial, by simp, hbb, by unfold lenMax; omega, ?_⟩
    refine hK _ ?_ fun q hq h2 => ?_
    · rw [upd_eq]; simp [List.take_of_length_le]
    · rw [upd_ne hq, upd_ne (h2 ga _ rfl)]
theorem setD_setD (D : MD) (i : Nat) (p p' : PD) : setD (setD D i p) i p' = setD D i p' := by simp [setD]
theorem setD_get {D : MD} {i : Nat} {p : PD} (hp : D.ps[i]? = some p) (p' : PD) : (setD D i p').ps[i]? = some p' := by
  simp only [setD]; rw [get_set hp, if_pos rfl]
end Go.Proofs.YtbomkomipaipmaaGreat
namespace Go.Proofs.YtbomkomipaipmaaGreat
set_option maxRecDepth 100000

/-- what Do hands back -/
def DoK (η : AHeap) (n : Nat) (nm : Role → Nat) (D : MD) (pid : Int) : AVal → AHeap → Nat → Prop := fun v η' n' => ∃ nm' D' l e u, v = .tup [u, .int .i64 e] ∧ OutI η' n n' u l ∧ Nx η n nm D η' n' nm' D' ∧ DoR D pid D' l e
set_option maxHeartbeats 16000000 in
theorem do_ac {η : AHeap} {n kk : Nat} {nm : Role → Nat} {D : MD} (h : MachAt η n nm D) (gd : Good kk D) (hk : kk ≤ 5000) (pid : Int) :
    AC Tryz.prog 19 [.ptr (nm .mach) 0 0, .int .i64 pid] η n (DoK η n nm D pid) := by
  have hm := h.mach
  have hL := lookLv h pid
  have ok := gd.ok
  unfold DoK
  cases ha : atP D.ps pid with
  | none =>
    rw [ha] at hL
    simp only at hL
    refine AC.enter Tryz.func19 rfl Tryz.ntmps19 (by simp) ?_
    simp [aload, apart, afield, hm, machC, hL]
    exact resK.rt ⟨nm, D, [], 6, .nils, rfl, Or.inl ⟨rfl, rfl⟩, Nx.rfl' h, by unfold DoR; rw [ha]; exact ⟨rfl, rfl, rfl⟩⟩
  | some i =>
    rw [ha] at hL
    simp only at hL
    obtain ⟨p, hp, hd, hpid⟩ := atP_some ha
    have hil : i < D.ps.length := (List.getElem?_eq_some_iff.1 hp).1
    have hpm : p ∈ D.ps := List.mem_of_getElem? hp
    have hready := mready_ac (n := n) h ok hp
    cases hr : readyP D p with
    | false =>
      rw [hr] at hready
      refine AC.enter Tryz.func19 rfl Tryz.ntmps19 (by simp) ?_
      simp [aload, apart, afield, hm, machC, hL]
      refine ACK.rt hready ?_
      simp
      exact resK.rt ⟨nm, D, [], 13, .nils, rfl, Or.inl ⟨rfl, rfl⟩, Nx.rfl' h, by unfold DoR; rw [ha]; simp only; intro p' hp'; rw [hp] at hp'; cases hp'; rw [hr]; simp⟩
    | true =>
      rw [hr] at hready
      have hne0 : D.ps ≠ [] := fun e => by rw [e] at hil; simp at hil
      have hv0 : allV nm D = .sl (nm .all) 0 D.ps.length := by simp [allV, hne0]
      have hst := ok.stk p hpm
      have h16 := ok.box p hpm
      have hstep := fun η n => stepR_ac D.m p.pid p.st D.now p.box η n ok.mod.ok (by omega) hst.1 hst.2
      have hlens := stepF_lens D.m p.pid p.st D.now p.box hst.1 hst.2
      have hrun : ∀ m1 m2 D', D' = doD m1 m2 D i p → DoR D p.pid D' (sorted (wokenL D' (waitL D ++ newL D D'))) 0 := fun m1 m2 D' hx => by
        unfold DoR
        rw [hpid, ha]
        intro p' hp'
        rw [hp] at hp'; cases hp'
        rw [hr, if_pos rfl]
        exact ⟨m1, m2, hx, rfl, rfl⟩
      have hgood := fun m1 m2 => (⟨doD_rel gd.inv hp hd hst m1 m2, gd.rel hp (doD_rel gd.inv hp hd hst m1 m2)⟩ : DoRel D (doD m1 m2 D i p) i p ∧ Good (kk + 1) (doD m1 m2 D i p))
      unfold doD at hrun hgood
      revert hstep hlens hrun hgood
      generalize stepF D.m p.pid p.st D.now p.box = r
      intro hstep hlens hrun hgood
      obtain ⟨s', e, err⟩ := r
      simp only [modV, stV, stC, stepV, effC] at hstep
      simp only at hlens hrun hgood
      subst hpid
      refine AC.fresh fun hf => ?_; refine AC.enter Tryz.func19 rfl Tryz.ntmps19 (by simp) ?_
      simp [aload, apart, afield, hm, machC, hL]
      refine ACK.rt hready ?_
      simp
      refine drawK.intro mixed [(0, []), (2, []), (3, []), (4, []), (5, []), (6, []), (1, [5, 6]), (7, []), (8, [])] (by kernel_rfl) ?_
      simp [lk_some, chkK, aload, apart, afield, hm, machC, hv0]
      refine ACK.use (waiting_ac h gd).freshN ?_
      intro av η1 n1 ⟨⟨w1, w2, w3⟩, hf1, _⟩
      have b1 := Nx.beside (n' := n1) h hf w2 w3
      have hm1 := b1.at'.mach
      have hp1 := b1.at'.proc hp
      have hbx1 := b1.at'.bx i p hp
      have lp := b1.at'.lt (.proc i) hil
      have lm := b1.at'.lt .mach trivial
      have zp : ¬ nm (.proc i) = n1 := by omega
      have zp' : ∀ k, ¬ nm (.proc i) = n1 + k := fun k => by omega
      have zm : ¬ nm .mach = n1 := by omega
      have zm' : ∀ k, ¬ nm .mach = n1 + k := fun k => by omega
      have zq : ¬ n1 = nm (.proc i) := by omega
      have zq' : ∀ k, ¬ n1 + k = nm (.proc i) := fun k => by omega
      have hmsg := fun n => messages_ac (n := n) hbx1 h16
      simp [hm1, machC, hv0]
      refine drawK.introF mixed [23, 24] [(0, []), (1, []), (2, []), (3, []), (4, []), (5, []), (6, []), (7, []), (8, []), (9, []), (10, []), (11, []), (12, []), (13, []), (14, []), (15, []), (16, []), (17, [3, 8, 12]), (18, []), (19, []), (20, []), (21, []), (22, []), (23, [3, 8, 12, 16, 17, 18]), (24, [3, 8, 12, 16, 17, 18]), (25, []), (26, []), (27, [])] (by kernel_rfl) (by simp [fltC]) ?_
      simp [lk_some, chkK, aload, apart, afield, hm1, hp1, machC, procC]
      refine ACK.rt (hmsg _) ?_
      simp [hm1, hp1, machC, procC]
      refine ACK.rt (hstep _ _) ?_
      simp [lk_some, chkK, aload, apart, afield, hm1, hp1, machC, procC, astore, upd_apply, zp, zp', zm, zm', zq', Nat.add_assoc]
      refine CondP.dec (fun ht => ?_) (fun ht => ?_)
      · simp
        refine drawK.intro mixed [(0, []), (1, []), (2, []), (3, []), (4, []), (5, []), (6, [])] (by kernel_rfl) ?_
        simp [aload, apart, afield, upd_apply, zq']
        refine ACK.heap fun H hH => ?_
        have hHk : ∀ q, q < n1 → q ≠ nm (.proc i) → H q = η1 q := fun q h1 h2 => by
          rw [hH]; simp only [upd_apply]
          repeat rw [if_neg (by omega)]
        have hHp : H (nm (.proc i)) = some (.cells 14 [procC nm i { p with st := s' }]) := by
          rw [hH]; simp [upd_apply, procC, outV]
        have hHe : H (n1 + 1) = some (.cells 10 [effC e (.rs 1 (ints e.args))]) := by
          rw [hH]; simp [upd_apply, zq', effC]
        have hHf : ∀ k, n1 + 2 ≤ k → H k = none := fun k h1 => by
          rw [hH]; simp only [upd_apply]
          repeat rw [if_neg (by omega)]
          exact hf1 k (by omega)
        clear hH
        have b3r := b1.at'.setSt hf1 hp s' hHp hHk (n' := n1 + 2) (by omega)
        have b3 := b1.trans b3r
        have hpS : (setD D i { p with st := s' }).ps[i]? = some { p with st := s' } := setD_get hp _
        have hbq : nm (.box i) ≠ nm (.brow i) := h.ne (ρ := .box i) (ρ' := .brow i) hil hil (by simp)
        have lbx := h.lt (.box i) hil
        have lbr := h.lt (.brow i) hil
        have hbxS := b3.at'.bx i _ hpS
        refine ACK.use (takeA_ac hbxS hbq h16 e.taken ht).freshN ?_
        intro tv H4 n4 ⟨⟨t1, t2, t3⟩, hf4, _⟩
        have b4r := b3.at'.setBx hHf hpS _ t1 t2 (fun q a b c => t3 q a b c)
        rw [setD_setD] at b4r
        have b4 := b3.trans b4r
        obtain ⟨D2, hD2⟩ : ∃ D2, D2 = setD D i (midP p (s', e, err)) := ⟨_, rfl⟩
        have e2 : setD D i { ({ p with st := s' } : PD) with box := p.box.eraseIdx e.taken.toNat } = D2 := by rw [hD2]; simp [midP, ht]
        have b4 : Nx η n nm D H4 n4 nm D2 := by rw [← e2]; exact b4
        have hE4 : H4 (n1 + 1) = some (.cells 10 [effC e (.rs 1 (ints e.args))]) := by rw [t3 _ (by omega) (by omega) (by omega), hHe]
        have hg4 : ∀ g, n ≤ g → g < n1 → H4 g = η1 g := fun g l1 l2 => by rw [t3 g (by omega) (by omega) (by omega), hHk g l2 (by have := h.lt (.proc i) hil; omega)]
        clear e2
        simp [effC] at hE4
        simp
        have hbx2 : (midP p (s', e, err)).box.length ≤ 16 := by
          by_cases hz : 0 ≤ e.taken
          · simp only [midP, hz, if_true]; exact Nat.le_trans (eraseIdx_len' _ _) h16
          · simp only [midP, hz, if_false]; exact h16
        have hi2 : MInv D2 := by rw [hD2]; exact gd.inv.setD hp rfl rfl
        have hp2 : D2.ps[i]? = some (midP p (s', e, err)) := by rw [hD2]; exact setD_get hp _
        have ok2 : MachOK D2 := by rw [hD2]; exact ok.setP hp rfl ⟨hlens.1, hlens.2.1⟩ hbx2
        have hlen2 : D2.ps.length = D.ps.length := by rw [hD2]; simp [setD]
        have hnum2 := gd.num
        have hout2 := gd.out p hpm
        have hin2 : ∀ q, InM nm D2 q → q < n := fun q hq => h.inlt hf (by
          rw [hD2] at hq
          rcases hq with ⟨ρ, a, b⟩ | hq
          · exact Or.inl ⟨ρ, by simpa [setD] using a, b⟩
          · exact Or.inr hq)
        have heff := eff_ac b4.at' hi2 ok2 (by omega) hp2 hd (by show p.out.length ≤ _; omega) e hlens.2.2
        simp [aload, apart, afield, hE4]
        refine ACK.rt (meffect_ac _ _ _) ?_
        rcases heff with ⟨f1, f2⟩ | ⟨f, f1, f2, f3⟩
        · rw [f1]
          simp
          obtain ⟨H5, hH5⟩ : ∃ H5, H5 = H4 := ⟨_, rfl⟩
          obtain ⟨n5, hn5⟩ : ∃ n5, n5 = n4 := ⟨_, rfl⟩
          obtain ⟨nm5, hnm5⟩ : ∃ nm5, nm5 = nm := ⟨_, rfl⟩
          obtain ⟨D', hD5⟩ : ∃ D', D' = D2 := ⟨_, rfl⟩
          obtain ⟨m1, hm1'⟩ : ∃ m1 : Nat, m1 = 0 := ⟨_, rfl⟩
          obtain ⟨m2, hm2'⟩ : ∃ m2 : Nat, m2 = 0 := ⟨_, rfl⟩
          have bD : Nx η n nm D H5 n5 nm5 D' := by rw [hH5, hn5, hnm5, hD5]; exact b4
          have hD' : D' = effD m1 m2 (setD D i (midP p (s', e, err))) i (midP p (s', e, err)) e := by rw [hD5, ← hD2, f2]
          have hf5 : ∀ k, n5 ≤ k → H5 k = none := by rw [hH5, hn5]; exact hf4
          have hgk : ∀ g, n ≤ g → g < n1 → H5 g = η1 g := by rw [hH5]; exact hg4
          have hgn : ∀ g, n ≤ g → g < n1 → ¬ InM nm5 D' g := fun g l1 l2 hq => by
            rw [hnm5, hD5] at hq
            have := hin2 g hq; omega
          rw [← hH5, ← hn5]
          clear hH5 hn5 f2
          have hm5 := bD.at'.mach
          rw [bD.mach] at hm5
          obtain ⟨hrel5, hgd5⟩ := hgood m1 m2
          rw [← hD'] at hrel5 hgd5
          have hlen5 : D.ps.length ≤ D'.ps.length ∧ D'.ps.length ≤ D.ps.length + 1 := by rcases hrel5.len with k | k <;> omega
          have hne5 : D'.ps ≠ [] := fun e0 => by have hl0 := congrArg List.length e0; rw [List.length_nil] at hl0; omega
          have hv5 : allV nm5 D' = .sl (nm5 .all) 0 D'.ps.length := by simp [allV, hne5]
          have hA5 := bD.at'.obj .all (.cells 1 (allR nm5 D'.ps.length)) (by simp [objOf, hne5])
          have hsl : asliceV Tryz.prog 88 (.sl (nm5 .all) 0 D'.ps.length) (some (.int .i64 (D.ps.length : Int))) none none H5 = some (.sl (nm5 .all) D.ps.length (D'.ps.length - D.ps.length)) := by
            have : (D.ps.length : Int) ≤ D'.ps.length := by omega
            simp [asliceV, abnd, hA5, this]
          have eR : (allR nm5 D'.ps.length).length = D'.ps.length := by simp [allR]
          have wl32 := waitL_len gd.inv
          have hnum := gd.num
          have hav : PtrL nm H5 av (waitL D) := w1.l.imp _root_.id fun ⟨g, a, b⟩ => ⟨g, a, by
            rcases w1 with ⟨e1, _⟩ | ⟨g', e1, l1, l2, l3⟩
            · rw [e1] at a; cases a
            · rw [e1] at a
              have : g' = g := by simpa using a
              subst this
              rw [hgk g' l1 l2]; exact l3⟩
          simp [aload, apart, afield, hm5, machC, hv5, hsl]
          refine app_ptr (e := 98) (zs := [.nilp]) (b := 8) (by simp) (by simp) (by simp) (by simp) rfl (Nat.le_refl _) hav hA5 (by rw [eR]; omega) (fun r hr c hc => by
            obtain ⟨x, _, rfl⟩ := List.mem_map.1 hr
            have := List.mem_singleton.1 hc
            subst this; rfl) (by omega) ?_
          intro G hG1 hG2
          have hgin : ∀ q, InM nm5 D' q → q < n5 := fun q hq => bD.at'.inlt hf5 hq
          have hGk : ∀ q, InM nm5 D' q → G q = H5 q := fun q hq => hG2 q (by have := hgin q hq; omega) fun ga len e1 e2 => by
            rcases w1 with ⟨e0, _⟩ | ⟨g', e0, l1, l2, _⟩
            · rw [e0] at e1; cases e1
            · rw [e0] at e1
              have : g' = ga := by
                have := e1; simp at this; exact this.1
              subst this
              exact hgn g' l1 l2 (e2 ▸ hq)
          have hGn : ∀ q, q < n → G q = H5 q := fun q hq => hG2 q (by have := bD.le; omega) fun ga len e1 e2 => by
            rcases w1 with ⟨e0, _⟩ | ⟨g', e0, l1, l2, _⟩
            · rw [e0] at e1; cases e1
            · rw [e0] at e1
              have : g' = ga := by
                have := e1; simp at this; exact this.1
              subst this
              omega
          have b6 := bD.beside2 (η' := G) (n' := n5 + 1) hGk hGn (by omega)
          have hpm5 := ptrs_more (nm := nm) (nm5 := nm5) (L := D.ps.length) (L' := D'.ps.length) (is := waitL D) hlen5.1 (fun j hj => waitL_lt gd.inv hj) (fun j hj => bD.proc j hj)
          rw [hpm5] at hG1
          have hwk := woken_ac (v := .sl n5 0 ((waitL D).length + (D'.ps.length - D.ps.length))) (is := waitL D ++ newL D D') b6.at' hgd5.ok (Or.inr ⟨n5, by simp [newL], hG1⟩) (fun j hj => by
            rcases List.mem_append.1 hj with hj | hj
            · have := waitL_lt gd.inv hj; omega
            · exact ((newL_mem hlen5.1 j).1 hj).2) (by simp [newL]; omega)
          rw [b6.mach] at hwk
          simp
          refine ACK.use hwk.freshN ?_
          intro lv η6 n6 ⟨⟨o1, o2, o3⟩, hf6, _⟩
          have b7 := b6.beside2 (η' := η6) (n' := n6) (fun q hq => o2 q (by have := hgin q hq; omega)) (fun q hq => o2 q (by have := bD.le; omega)) (by omega)
          have wlen := wokenL_len D' (waitL D ++ newL D D')
          have wlen2 : (waitL D ++ newL D D').length ≤ 1000 := by simp [newL]; omega
          have hfin := hrun m1 m2 D' hD'
          rcases o1 with ⟨rfl, oe⟩ | ⟨g6, rfl, og1, og2, og3⟩
          · simp
            refine ACK.use (sort_nil_ac _ _) ?_
            intro v' η7 n7 ⟨d1, d2⟩
            replace d2 := d2.symm
            subst d1 d2
            simp
            refine resK.rt ⟨nm5, D', sorted (wokenL D' (waitL D ++ newL D D')), 0, .nils, rfl, Or.inl ⟨rfl, by rw [oe]; simp [sorted]⟩, b7, hfin⟩
          · simp
            refine ACK.use (sort_ac og3 (by simp) (by unfold lenMax; omega)) ?_
            intro v' η7 n7 ⟨d1, d2⟩
            replace d2 := d2.symm
            subst d1 d2
            simp
            have b8 := b7.beside2 (η' := upd η6 g6 (some (.cells 1 (ints (sorted (wokenL D' (waitL D ++ newL D D'))))))) (n' := n6) (fun q hq => upd_ne (by have := hgin q hq; omega)) (fun q hq => upd_ne (by have := bD.le; omega)) (Nat.le_refl _)
            refine resK.rt ⟨nm5, D', sorted (wokenL D' (waitL D ++ newL D D')), 0, .sl g6 0 (wokenL D' (waitL D ++ newL D D')).length, rfl, Or.inr ⟨g6, by simp, by have := bD.le; omega, og2, by rw [upd_eq]⟩, b8, hfin⟩
        · rw [f1]
          simp [f2, aload, apart, hE4]
          refine ACK.use f3.freshN ?_
          intro ev H5 n5 ⟨⟨nm5, m1, m2, b5⟩, hf5, _⟩
          obtain ⟨D', hD5⟩ : ∃ D', D' = effD m1 m2 D2 i (midP p (s', e, err)) e := ⟨_, rfl⟩
          rw [← hD5] at b5
          have bD : Nx η n nm D H5 n5 nm5 D' := b4.trans b5
          have hD' : D' = effD m1 m2 (setD D i (midP p (s', e, err))) i (midP p (s', e, err)) e := by rw [hD5, hD2]
          have hgk : ∀ g, n ≤ g → g < n1 → H5 g = η1 g := fun g l1 l2 => by
            rw [b5.keep g (by omega) fun hq => by have := hin2 g hq; omega, hg4 g l1 l2]
          have hgn : ∀ g, n ≤ g → g < n1 → ¬ InM nm5 D' g := fun g l1 l2 hq => by
            rcases b5.own g hq with k | k
            · have := hin2 g k; omega
            · omega
          simp
          have hm5 := bD.at'.mach
          rw [bD.mach] at hm5
          obtain ⟨hrel5, hgd5⟩ := hgood m1 m2
          rw [← hD'] at hrel5 hgd5
          have hlen5 : D.ps.length ≤ D'.ps.length ∧ D'.ps.length ≤ D.ps.length + 1 := by rcases hrel5.len with k | k <;> omega
          have hne5 : D'.ps ≠ [] := fun e0 => by have hl0 := congrArg List.length e0; rw [List.length_nil] at hl0; omega
          have hv5 : allV nm5 D' = .sl (nm5 .all) 0 D'.ps.length := by simp [allV, hne5]
          have hA5 := bD.at'.obj .all (.cells 1 (allR nm5 D'.ps.length)) (by simp [objOf, hne5])
          have hsl : asliceV Tryz.prog 88 (.sl (nm5 .all) 0 D'.ps.length) (some (.int .i64 (D.ps.length : Int))) none none H5 = some (.sl (nm5 .all) D.ps.length (D'.ps.length - D.ps.length)) := by
            have : (D.ps.length : Int) ≤ D'.ps.length := by omega
            simp [asliceV, abnd, hA5, this]
          have eR : (allR nm5 D'.ps.length).length = D'.ps.length := by simp [allR]
          have wl32 := waitL_len gd.inv
          have hnum := gd.num
          have hav : PtrL nm H5 av (waitL D) := w1.l.imp _root_.id fun ⟨g, a, b⟩ => ⟨g, a, by
            rcases w1 with ⟨e1, _⟩ | ⟨g', e1, l1, l2, l3⟩
            · rw [e1] at a; cases a
            · rw [e1] at a
              have : g' = g := by simpa using a
              subst this
              rw [hgk g' l1 l2]; exact l3⟩
          simp [aload, apart, afield, hm5, machC, hv5, hsl]
          refine app_ptr (e := 98) (zs := [.nilp]) (b := 8) (by simp) (by simp) (by simp) (by simp) rfl (Nat.le_refl _) hav hA5 (by rw [eR]; omega) (fun r hr c hc => by
            obtain ⟨x, _, rfl⟩ := List.mem_map.1 hr
            have := List.mem_singleton.1 hc
            subst this; rfl) (by omega) ?_
          intro G hG1 hG2
          have hgin : ∀ q, InM nm5 D' q → q < n5 := fun q hq => bD.at'.inlt hf5 hq
          have hGk : ∀ q, InM nm5 D' q → G q = H5 q := fun q hq => hG2 q (by have := hgin q hq; omega) fun ga len e1 e2 => by
            rcases w1 with ⟨e0, _⟩ | ⟨g', e0, l1, l2, _⟩
            · rw [e0] at e1; cases e1
            · rw [e0] at e1
              have : g' = ga := by
                have := e1; simp at this; exact this.1
              subst this
              exact hgn g' l1 l2 (e2 ▸ hq)
          have hGn : ∀ q, q < n → G q = H5 q := fun q hq => hG2 q (by have := bD.le; omega) fun ga len e1 e2 => by
            rcases w1 with ⟨e0, _⟩ | ⟨g', e0, l1, l2, _⟩
            · rw [e0] at e1; cases e1
            · rw [e0] at e1
              have : g' = ga := by
                have := e1; simp at this; exact this.1
              subst this
              omega
          have b6 := bD.beside2 (η' := G) (n' := n5 + 1) hGk hGn (by omega)
          have hpm5 := ptrs_more (nm := nm) (nm5 := nm5) (L := D.ps.length) (L' := D'.ps.length) (is := waitL D) hlen5.1 (fun j hj => waitL_lt gd.inv hj) (fun j hj => bD.proc j hj)
          rw [hpm5] at hG1
          have hwk := woken_ac (v := .sl n5 0 ((waitL D).length + (D'.ps.length - D.ps.length))) (is := waitL D ++ newL D D') b6.at' hgd5.ok (Or.inr ⟨n5, by simp [newL], hG1⟩) (fun j hj => by
            rcases List.mem_append.1 hj with hj | hj
            · have := waitL_lt gd.inv hj; omega
            · exact ((newL_mem hlen5.1 j).1 hj).2) (by simp [newL]; omega)
          rw [b6.mach] at hwk
          simp
          refine ACK.use hwk.freshN ?_
          intro lv η6 n6 ⟨⟨o1, o2, o3⟩, hf6, _⟩
          have b7 := b6.beside2 (η' := η6) (n' := n6) (fun q hq => o2 q (by have := hgin q hq; omega)) (fun q hq => o2 q (by have := bD.le; omega)) (by omega)
          have wlen := wokenL_len D' (waitL D ++ newL D D')
          have wlen2 : (waitL D ++ newL D D').length ≤ 1000 := by simp [newL]; omega
          have hfin := hrun m1 m2 D' hD'
          rcases o1 with ⟨rfl, oe⟩ | ⟨g6, rfl, og1, og2, og3⟩
          · simp
            refine ACK.use (sort_nil_ac _ _) ?_
            intro v' η7 n7 ⟨d1, d2⟩
            replace d2 := d2.symm
            subst d1 d2
            simp
            refine resK.rt ⟨nm5, D', sorted (wokenL D' (waitL D ++ newL D D')), 0, .nils, rfl, Or.inl ⟨rfl, by rw [oe]; simp [sorted]⟩, b7, hfin⟩
          · simp
            refine ACK.use (sort_ac og3 (by simp) (by unfold lenMax; omega)) ?_
            intro v' η7 n7 ⟨d1, d2⟩
            replace d2 := d2.symm
            subst d1 d2
            simp
            have b8 := b7.beside2 (η' := upd η6 g6 (some (.cells 1 (ints (sorted (wokenL D' (waitL D ++ newL D D'))))))) (n' := n6) (fun q hq => upd_ne (by have := hgin q hq; omega)) (fun q hq => upd_ne (by have := bD.le; omega)) (Nat.le_refl _)
            refine resK.rt ⟨nm5, D', sorted (wokenL D' (waitL D ++ newL D D')), 0, .sl g6 0 (wokenL D' (waitL D ++ newL D D')).length, rfl, Or.inr ⟨g6, by simp, by have := bD.le; omega, og2, by rw [upd_eq]⟩, b8, hfin⟩
      · simp [aload, apart, afield, upd_apply, zq']
        refine ACK.heap fun H hH => ?_
        have hHk : ∀ q, q < n1 → q ≠ nm (.proc i) → H q = η1 q := fun q h1 h2 => by
          rw [hH]; simp only [upd_apply]
          repeat rw [if_neg (by omega)]
        have hHp : H (nm (.proc i)) = some (.cells 14 [procC nm i { p with st := s' }]) := by
          rw [hH]; simp [upd_apply, procC, outV]
        have hHe : H (n1 + 1) = some (.cells 10 [effC e (.rs 1 (ints e.args))]) := by
          rw [hH]; simp [upd_apply, zq', effC]
        have hHf : ∀ k, n1 + 2 ≤ k → H k = none := fun k h1 => by
          rw [hH]; simp only [upd_apply]
          repeat rw [if_neg (by omega)]
          exact hf1 k (by omega)
        clear hH
        have b3r := b1.at'.setSt hf1 hp s' hHp hHk (n' := n1 + 2) (by omega)
        have b3 := b1.trans b3r
        have hpS : (setD D i { p with st := s' }).ps[i]? = some { p with st := s' } := setD_get hp _
        obtain ⟨H4, hH4⟩ : ∃ H4, H4 = H := ⟨_, rfl⟩
        obtain ⟨n4, hn4⟩ : ∃ n4, n4 = n1 + 2 := ⟨_, rfl⟩
        rw [← hH4, ← hn4]
        obtain ⟨D2, hD2⟩ : ∃ D2, D2 = setD D i (midP p (s', e, err)) := ⟨_, rfl⟩
        have e2 : setD D i ({ p with st := s' } : PD) = D2 := by rw [hD2]; simp [midP, ht]
        have b4 : Nx η n nm D H4 n4 nm D2 := by rw [← e2, hH4, hn4]; exact b3
        have hE4 : H4 (n1 + 1) = some (.cells 10 [effC e (.rs 1 (ints e.args))]) := by rw [hH4]; exact hHe
        have hg4 : ∀ g, n ≤ g → g < n1 → H4 g = η1 g := fun g l1 l2 => by rw [hH4, hHk g l2 (by have := h.lt (.proc i) hil; omega)]
        have hf4 : ∀ k, n4 ≤ k → H4 k = none := by rw [hH4, hn4]; exact hHf
        clear e2
        simp [effC] at hE4
        have hbx2 : (midP p (s', e, err)).box.length ≤ 16 := by
          by_cases hz : 0 ≤ e.taken
          · simp only [midP, hz, if_true]; exact Nat.le_trans (eraseIdx_len' _ _) h16
          · simp only [midP, hz, if_false]; exact h16
        have hi2 : MInv D2 := by rw [hD2]; exact gd.inv.setD hp rfl rfl
        have hp2 : D2.ps[i]? = some (midP p (s', e, err)) := by rw [hD2]; exact setD_get hp _
        have ok2 : MachOK D2 := by rw [hD2]; exact ok.setP hp rfl ⟨hlens.1, hlens.2.1⟩ hbx2
        have hlen2 : D2.ps.length = D.ps.length := by rw [hD2]; simp [setD]
        have hnum2 := gd.num
        have hout2 := gd.out p hpm
        have hin2 : ∀ q, InM nm D2 q → q < n := fun q hq => h.inlt hf (by
          rw [hD2] at hq
          rcases hq with ⟨ρ, a, b⟩ | hq
          · exact Or.inl ⟨ρ, by simpa [setD] using a, b⟩
          · exact Or.inr hq)
        have heff := eff_ac b4.at' hi2 ok2 (by omega) hp2 hd (by show p.out.length ≤ _; omega) e hlens.2.2
        refine ACK.rt (meffect_ac _ _ _) ?_
        rcases heff with ⟨f1, f2⟩ | ⟨f, f1, f2, f3⟩
        · rw [f1]
          simp
          obtain ⟨H5, hH5⟩ : ∃ H5, H5 = H4 := ⟨_, rfl⟩
          obtain ⟨n5, hn5⟩ : ∃ n5, n5 = n4 := ⟨_, rfl⟩
          obtain ⟨nm5, hnm5⟩ : ∃ nm5, nm5 = nm := ⟨_, rfl⟩
          obtain ⟨D', hD5⟩ : ∃ D', D' = D2 := ⟨_, rfl⟩
          obtain ⟨m1, hm1'⟩ : ∃ m1 : Nat, m1 = 0 := ⟨_, rfl⟩
          obtain ⟨m2, hm2'⟩ : ∃ m2 : Nat, m2 = 0 := ⟨_, rfl⟩
          have bD : Nx η n nm D H5 n5 nm5 D' := by rw [hH5, hn5, hnm5, hD5]; exact b4
          have hD' : D' = effD m1 m2 (setD D i (midP p (s', e, err))) i (midP p (s', e, err)) e := by rw [hD5, ← hD2, f2]
          have hf5 : ∀ k, n5 ≤ k → H5 k = none := by rw [hH5, hn5]; exact hf4
          have hgk : ∀ g, n ≤ g → g < n1 → H5 g = η1 g := by rw [hH5]; exact hg4
          have hgn : ∀ g, n ≤ g → g < n1 → ¬ InM nm5 D' g := fun g l1 l2 hq => by
            rw [hnm5, hD5] at hq
            have := hin2 g hq; omega
          rw [← hH5, ← hn5]
          clear hH5 hn5 f2
          have hm5 := bD.at'.mach
          rw [bD.mach] at hm5
          obtain ⟨hrel5, hgd5⟩ := hgood m1 m2
          rw [← hD'] at hrel5 hgd5
          have hlen5 : D.ps.length ≤ D'.ps.length ∧ D'.ps.length ≤ D.ps.length + 1 := by rcases hrel5.len with k | k <;> omega
          have hne5 : D'.ps ≠ [] := fun e0 => by have hl0 := congrArg List.length e0; rw [List.length_nil] at hl0; omega
          have hv5 : allV nm5 D' = .sl (nm5 .all) 0 D'.ps.length := by simp [allV, hne5]
          have hA5 := bD.at'.obj .all (.cells 1 (allR nm5 D'.ps.length)) (by simp [objOf, hne5])
          have hsl : asliceV Tryz.prog 88 (.sl (nm5 .all) 0 D'.ps.length) (some (.int .i64 (D.ps.length : Int))) none none H5 = some (.sl (nm5 .all) D.ps.length (D'.ps.length - D.ps.length)) := by
            have : (D.ps.length : Int) ≤ D'.ps.length := by omega
            simp [asliceV, abnd, hA5, this]
          have eR : (allR nm5 D'.ps.length).length = D'.ps.length := by simp [allR]
          have wl32 := waitL_len gd.inv
          have hnum := gd.num
          have hav : PtrL nm H5 av (waitL D) := w1.l.imp _root_.id fun ⟨g, a, b⟩ => ⟨g, a, by
            rcases w1 with ⟨e1, _⟩ | ⟨g', e1, l1, l2, l3⟩
            · rw [e1] at a; cases a
            · rw [e1] at a
              have : g' = g := by simpa using a
              subst this
              rw [hgk g' l1 l2]; exact l3⟩
          simp [aload, apart, afield, hm5, machC, hv5, hsl]
          refine app_ptr (e := 98) (zs := [.nilp]) (b := 8) (by simp) (by simp) (by simp) (by simp) rfl (Nat.le_refl _) hav hA5 (by rw [eR]; omega) (fun r hr c hc => by
            obtain ⟨x, _, rfl⟩ := List.mem_map.1 hr
            have := List.mem_singleton.1 hc
            subst this; rfl) (by omega) ?_
          intro G hG1 hG2
          have hgin : ∀ q, InM nm5 D' q → q < n5 := fun q hq => bD.at'.inlt hf5 hq
          have hGk : ∀ q, InM nm5 D' q → G q = H5 q := fun q hq => hG2 q (by have := hgin q hq; omega) fun ga len e1 e2 => by
            rcases w1 with ⟨e0, _⟩ | ⟨g', e0, l1, l2, _⟩
            · rw [e0] at e1; cases e1
            · rw [e0] at e1
              have : g' = ga := by
                have := e1; simp at this; exact this.1
              subst this
              exact hgn g' l1 l2 (e2 ▸ hq)
          have hGn : ∀ q, q < n → G q = H5 q := fun q hq => hG2 q (by have := bD.le; omega) fun ga len e1 e2 => by
            rcases w1 with ⟨e0, _⟩ | ⟨g', e0, l1, l2, _⟩
            · rw [e0] at e1; cases e1
            · rw [e0] at e1
              have : g' = ga := by
                have := e1; simp at this; exact this.1
              subst this
              omega
          have b6 := bD.beside2 (η' := G) (n' := n5 + 1) hGk hGn (by omega)
          have hpm5 := ptrs_more (nm := nm) (nm5 := nm5) (L := D.ps.length) (L' := D'.ps.length) (is := waitL D) hlen5.1 (fun j hj => waitL_lt gd.inv hj) (fun j hj => bD.proc j hj)
          rw [hpm5] at hG1
          have hwk := woken_ac (v := .sl n5 0 ((waitL D).length + (D'.ps.length - D.ps.length))) (is := waitL D ++ newL D D') b6.at' hgd5.ok (Or.inr ⟨n5, by simp [newL], hG1⟩) (fun j hj => by
            rcases List.mem_append.1 hj with hj | hj
            · have := waitL_lt gd.inv hj; omega
            · exact ((newL_mem hlen5.1 j).1 hj).2) (by simp [newL]; omega)
          rw [b6.mach] at hwk
          simp
          refine ACK.use hwk.freshN ?_
          intro lv η6 n6 ⟨⟨o1, o2, o3⟩, hf6, _⟩
          have b7 := b6.beside2 (η' := η6) (n' := n6) (fun q hq => o2 q (by have := hgin q hq; omega)) (fun q hq => o2 q (by have := bD.le; omega)) (by omega)
          have wlen := wokenL_len D' (waitL D ++ newL D D')
          have wlen2 : (waitL D ++ newL D D').length ≤ 1000 := by simp [newL]; omega
          have hfin := hrun m1 m2 D' hD'
          rcases o1 with ⟨rfl, oe⟩ | ⟨g6, rfl, og1, og2, og3⟩
          · simp
            refine ACK.use (sort_nil_ac _ _) ?_
            intro v' η7 n7 ⟨d1, d2⟩
            replace d2 := d2.symm
            subst d1 d2
            simp
            refine resK.rt ⟨nm5, D', sorted (wokenL D' (waitL D ++ newL D D')), 0, .nils, rfl, Or.inl ⟨rfl, by rw [oe]; simp [sorted]⟩, b7, hfin⟩
          · simp
            refine ACK.use (sort_ac og3 (by simp) (by unfold lenMax; omega)) ?_
            intro v' η7 n7 ⟨d1, d2⟩
            replace d2 := d2.symm
            subst d1 d2
            simp
            have b8 := b7.beside2 (η' := upd η6 g6 (some (.cells 1 (ints (sorted (wokenL D' (waitL D ++ newL D D'))))))) (n' := n6) (fun q hq => upd_ne (by have := hgin q hq; omega)) (fun q hq => upd_ne (by have := bD.le; omega)) (Nat.le_refl _)
            refine resK.rt ⟨nm5, D', sorted (wokenL D' (waitL D ++ newL D D')), 0, .sl g6 0 (wokenL D' (waitL D ++ newL D D')).length, rfl, Or.inr ⟨g6, by simp, by have := bD.le; omega, og2, by rw [upd_eq]⟩, b8, hfin⟩
        · rw [f1]
          simp [f2, aload, apart, hE4]
          refine ACK.use f3.freshN ?_
          intro ev H5 n5 ⟨⟨nm5, m1, m2, b5⟩, hf5, _⟩
          obtain ⟨D', hD5⟩ : ∃ D', D' = effD m1 m2 D2 i (midP p (s', e, err)) e := ⟨_, rfl⟩
          rw [← hD5] at b5
          have bD : Nx η n nm D H5 n5 nm5 D' := b4.trans b5
          have hD' : D' = effD m1 m2 (setD D i (midP p (s', e, err))) i (midP p (s', e, err)) e := by rw [hD5, hD2]
          have hgk : ∀ g, n ≤ g → g < n1 → H5 g = η1 g := fun g l1 l2 => by
            rw [b5.keep g (by omega) fun hq => by have := hin2 g hq; omega, hg4 g l1 l2]
          have hgn : ∀ g, n ≤ g → g < n1 → ¬ InM nm5 D' g := fun g l1 l2 hq => by
            rcases b5.own g hq with k | k
            · have := hin2 g k; omega
            · omega
          simp
          have hm5 := bD.at'.mach
          rw [bD.mach] at hm5
          obtain ⟨hrel5, hgd5⟩ := hgood m1 m2
          rw [← hD'] at hrel5 hgd5
          have hlen5 : D.ps.length ≤ D'.ps.length ∧ D'.ps.length ≤ D.ps.length + 1 := by rcases hrel5.len with k | k <;> omega
          have hne5 : D'.ps ≠ [] := fun e0 => by have hl0 := congrArg List.length e0; rw [List.length_nil] at hl0; omega
          have hv5 : allV nm5 D' = .sl (nm5 .all) 0 D'.ps.length := by simp [allV, hne5]
          have hA5 := bD.at'.obj .all (.cells 1 (allR nm5 D'.ps.length)) (by simp [objOf, hne5])
          have hsl : asliceV Tryz.prog 88 (.sl (nm5 .all) 0 D'.ps.length) (some (.int .i64 (D.ps.length : Int))) none none H5 = some (.sl (nm5 .all) D.ps.length (D'.ps.length - D.ps.length)) := by
            have : (D.ps.length : Int) ≤ D'.ps.length := by omega
            simp [asliceV, abnd, hA5, this]
          have eR : (allR nm5 D'.ps.length).length = D'.ps.length := by simp [allR]
          have wl32 := waitL_len gd.inv
          have hnum := gd.num
          have hav : PtrL nm H5 av (waitL D) := w1.l.imp _root_.id fun ⟨g, a, b⟩ => ⟨g, a, by
            rcases w1 with ⟨e1, _⟩ | ⟨g', e1, l1, l2, l3⟩
            · rw [e1] at a; cases a
            · rw [e1] at a
              have : g' = g := by simpa using a
              subst this
              rw [hgk g' l1 l2]; exact l3⟩
          simp [aload, apart, afield, hm5, machC, hv5, hsl]
          refine app_ptr (e := 98) (zs := [.nilp]) (b := 8) (by simp) (by simp) (by simp) (by simp) rfl (Nat.le_refl _) hav hA5 (by rw [eR]; omega) (fun r hr c hc => by
            obtain ⟨x, _, rfl⟩ := List.mem_map.1 hr
            have := List.mem_singleton.1 hc
            subst this; rfl) (by omega) ?_
          intro G hG1 hG2
          have hgin : ∀ q, InM nm5 D' q → q < n5 := fun q hq => bD.at'.inlt hf5 hq
          have hGk : ∀ q, InM nm5 D' q → G q = H5 q := fun q hq => hG2 q (by have := hgin q hq; omega) fun ga len e1 e2 => by
            rcases w1 with ⟨e0, _⟩ | ⟨g', e0, l1, l2, _⟩
            · rw [e0] at e1; cases e1
            · rw [e0] at e1
              have : g' = ga := by
                have := e1; simp at this; exact this.1
              subst this
              exact hgn g' l1 l2 (e2 ▸ hq)
          have hGn : ∀ q, q < n → G q = H5 q := fun q hq => hG2 q (by have := bD.le; omega) fun ga len e1 e2 => by
            rcases w1 with ⟨e0, _⟩ | ⟨g', e0, l1, l2, _⟩
            · rw [e0] at e1; cases e1
            · rw [e0] at e1
              have : g' = ga := by
                have := e1; simp at this; exact this.1
              subst this
              omega
          have b6 := bD.beside2 (η' := G) (n' := n5 + 1) hGk hGn (by omega)
          have hpm5 := ptrs_more (nm := nm) (nm5 := nm5) (L := D.ps.length) (L' := D'.ps.length) (is := waitL D) hlen5.1 (fun j hj => waitL_lt gd.inv hj) (fun j hj => bD.proc j hj)
          rw [hpm5] at hG1
          have hwk := woken_ac (v := .sl n5 0 ((waitL D).length + (D'.ps.length - D.ps.length))) (is := waitL D ++ newL D D') b6.at' hgd5.ok (Or.inr ⟨n5, by simp [newL], hG1⟩) (fun j hj => by
            rcases List.mem_append.1 hj with hj | hj
            · have := waitL_lt gd.inv hj; omega
            · exact ((newL_mem hlen5.1 j).1 hj).2) (by simp [newL]; omega)
          rw [b6.mach] at hwk
          simp
          refine ACK.use hwk.freshN ?_
          intro lv η6 n6 ⟨⟨o1, o2, o3⟩, hf6, _⟩
          have b7 := b6.beside2 (η' := η6) (n' := n6) (fun q hq => o2 q (by have := hgin q hq; omega)) (fun q hq => o2 q (by have := bD.le; omega)) (by omega)
          have wlen := wokenL_len D' (waitL D ++ newL D D')
          have wlen2 : (waitL D ++ newL D D').length ≤ 1000 := by simp [newL]; omega
          have hfin := hrun m1 m2 D' hD'
          rcases o1 with ⟨rfl, oe⟩ | ⟨g6, rfl, og1, og2, og3⟩
          · simp
            refine ACK.use (sort_nil_ac _ _) ?_
            intro v' η7 n7 ⟨d1, d2⟩
            replace d2 := d2.symm
            subst d1 d2
            simp
            refine resK.rt ⟨nm5, D', sorted (wokenL D' (waitL D ++ newL D D')), 0, .nils, rfl, Or.inl ⟨rfl, by rw [oe]; simp [sorted]⟩, b7, hfin⟩
          · simp
            refine ACK.use (sort_ac og3 (by simp) (by unfold lenMax; omega)) ?_
            intro v' η7 n7 ⟨d1, d2⟩
            replace d2 := d2.symm
            subst d1 d2
            simp
            have b8 := b7.beside2 (η' := upd η6 g6 (some (.cells 1 (ints (sorted (wokenL D' (waitL D ++ newL D D'))))))) (n' := n6) (fun q hq => upd_ne (by have := hgin q hq; omega)) (fun q hq => upd_ne (by have := bD.le; omega)) (Nat.le_refl _)
            refine resK.rt ⟨nm5, D', sorted (wokenL D' (waitL D ++ newL D D')), 0, .sl g6 0 (wokenL D' (waitL D ++ newL D D')).length, rfl, Or.inr ⟨g6, by simp, by have := bD.le; omega, og2, by rw [upd_eq]⟩, b8, hfin⟩
end Go.Proofs.YtbomkomipaipmaaGreat
namespace Go.Proofs.YtbomkomipaipmaaGreat
set_option maxRecDepth 100000

set_option maxHeartbeats 4000000 in
theorem tick_ac {η : AHeap} {n kk : Nat} {nm : Role → Nat} {D : MD} (h : MachAt η n nm D) (gd : Good kk D) (hk : kk ≤ 5000) :
    AC Tryz.prog 17 [.ptr (nm .mach) 0 0] η n (fun v η' n' => OutI η' n n' v (wokenL (tickD D) (waitL D)) ∧ Nx η n nm D η' n' nm (tickD D)) := by
  have ew : IntKind.i64.wrap (D.now + 1) = D.now + 1 := wrap_id (by have := gd.now; omega) (by have := gd.now; omega)
  have l1 := h.lt .mach trivial
  have wl32 := waitL_len gd.inv
  refine AC.fresh fun hf => ?_; refine AC.enter Tryz.func17 rfl Tryz.ntmps17 (by simp) ?_
  simp
  refine ACK.use (waiting_ac h gd).freshN ?_
  intro av η1 n1 ⟨⟨w1, w2, w3⟩, hf1, _⟩
  have b1 := Nx.beside (n' := n1) h hf w2 w3
  have hm1 := b1.at'.mach
  simp [aload, apart, afield, hm1, machC, ew, astore, aminmax]
  refine ACK.heap fun H hH => ?_
  have hHm : H (nm .mach) = some (.cells 6 [machC nm (tickD D)]) := by rw [hH, upd_eq]; rfl
  have hHk : ∀ q, q ≠ nm .mach → H q = η1 q := fun q hq => by rw [hH, upd_ne hq]
  clear hH
  have hd : ∀ ρ, dom D.ps.length ρ → ρ ≠ .mach → H (nm ρ) = η1 (nm ρ) := fun ρ hρ hne => hHk _ (h.ne hρ (ρ' := .mach) trivial hne)
  have hw : ∀ e ∈ D.W, H e.nm = η1 e.nm := fun e he => hHk _ fun k => h.wnm .mach trivial (k ▸ List.mem_map.2 ⟨e, he, rfl⟩)
  have b2r : Nx η1 n1 nm D H n1 nm (tickD D) := b1.at'.setG hf1 rfl hHm (by rw [hd .pids trivial (by simp)]; exact b1.at'.obj .pids _ rfl) (b1.at'.web.cong (hd .web trivial (by simp)) (hd .wmap trivial (by simp)) hw) (fun q _ h1 _ _ _ _ => hHk q h1) (fun q hq => Or.inl hq) (Nat.le_refl _)
  have b2 := b1.trans b2r
  have hav : PtrL nm H av (waitL D) := w1.l.imp _root_.id fun ⟨g, a, b⟩ => ⟨g, a, by
    rcases w1 with ⟨e1, _⟩ | ⟨g', e1, l1', l2, l3⟩
    · rw [e1] at a; cases a
    · rw [e1] at a
      have : g' = g := by simpa using a
      subst this
      rw [hHk _ (by omega)]; exact l3⟩
  refine ACK.use (woken_ac b2.at' gd.tick.ok hav (fun j hj => waitL_lt gd.inv hj) (by omega)).freshN ?_
  intro lv η2 n2 ⟨⟨o1, o2, o3⟩, hf2, _⟩
  simp
  have b3 := b2.beside2 (η' := η2) (n' := n2) (fun q hq => o2 q (b2.at'.inlt (fun k hk => by rw [hHk k (by omega)]; exact hf1 k hk) hq)) (fun q hq => o2 q (by omega)) o3
  refine resK.rt ⟨?_, b3⟩
  rcases o1 with o1 | ⟨g, e1, e2, e3, e4⟩
  · exact Or.inl o1
  · exact Or.inr ⟨g, e1, by omega, e3, e4⟩
theorem liveL_mem : ∀ (ps : List PD) (k : Nat) (x : Int × Nat), x ∈ liveL ps k ↔ ∃ j p, ps[j]? = some p ∧ p.dead = false ∧ x = (p.pid, k + j)
  | [], k, x => by simp [liveL]
  | q :: ps, k, x => by
    have ih := liveL_mem ps (k + 1) x
    have e : (∃ j p, (q :: ps)[j]? = some p ∧ p.dead = false ∧ x = (p.pid, k + j)) ↔ (q.dead = false ∧ x = (q.pid, k)) ∨ ∃ (j : Nat) (p : PD), ps[j]? = some p ∧ p.dead = false ∧ x = (p.pid, k + 1 + j) := by
      constructor
      · rintro ⟨j, p, h1, h2, h3⟩
        cases j with
        | zero => simp at h1; subst h1; exact Or.inl ⟨h2, h3⟩
        | succ j => exact Or.inr ⟨j, p, by simpa using h1, h2, by rw [h3]; congr 1; omega⟩
      · rintro (⟨h1, h2⟩ | ⟨j, p, h1, h2, h3⟩)
        · exact ⟨0, q, rfl, h1, h2⟩
        · exact ⟨j + 1, p, by simpa using h1, h2, by rw [h3]; congr 1; omega⟩
    rw [e, ← ih]
    show x ∈ (if q.dead = true then liveL ps (k + 1) else (q.pid, k) :: liveL ps (k + 1)) ↔ _
    cases hq : q.dead <;> simp
def goesP (D : MD) (p : PD) : Bool := !p.dead && (decide (0 ≤ p.st.till) || readyP D p)
def endF (D : MD) : Int := if liveL D.ps 0 = [] then 1 else if D.ps.any (goesP D) then 0 else 2
theorem lenLv {η : AHeap} {r : Nat} {es : List (Int × AVal)} (hr : η r = some (.map (ent es))) : alenT Tryz.prog 87 (.mp r) η = some (es.length : Int) := by
  unfold alenT
  rw [Tryz.underlying87]
  simp [hr]
set_option maxHeartbeats 4000000 in
/-- ready, of what is looked at alone -/
theorem mreadyX_ac {η : AHeap} {n : Nat} {nm : Role → Nat} {D : MD} (ok : MachOK D) {i : Nat} {p : PD} (hp : D.ps[i]? = some p) (hm : η (nm .mach) = some (.cells 6 [machC nm D])) (hq : η (nm (.proc i)) = some (.cells 14 [procC nm i p])) (hbx : BoxAt η (nm (.box i)) p.box (nm (.brow i))) :
    AC Tryz.prog 46 [.ptr (nm .mach) 0 0, .ptr (nm (.proc i)) 0 0] η n (Rt (.bool (readyP D p)) η n) := by
  have hpm : p ∈ D.ps := List.mem_of_getElem? hp
  unfold readyP
  cases hw : p.st.waiting with
  | false =>
    refine AC.enter Tryz.func46 rfl Tryz.ntmps46 (by simp) ?_
    simp
    refine drawK.intro mixed [(0, []), (1, []), (2, []), (3, []), (4, []), (5, []), (6, []), (7, []), (8, []), (9, []), (10, []), (11, []), (12, []), (13, []), (14, []), (15, []), (16, []), (17, []), (18, []), (19, []), (20, []), (21, []), (22, []), (23, []), (24, []), (25, []), (26, [13, 17, 21]), (27, []), (28, []), (29, []), (30, [])] (by kernel_rfl) ?_
    simp [aload, apart, afield, hq, procC, hw]
    exact resK.rt ⟨rfl, rfl, rfl⟩
  | true =>
    have h16 := ok.box p hpm
    have hrd := ready_ac D.m p.st D.now p.box η n (η0 := η) (Or.inl rfl) (Or.inl rfl) ok.mod.ok (by omega)
    simp only [stC, modV, hw] at hrd
    refine AC.enter Tryz.func46 rfl Tryz.ntmps46 (by simp) ?_
    simp
    refine drawK.intro mixed [(0, []), (1, []), (2, []), (3, []), (4, []), (5, []), (6, []), (7, []), (8, []), (9, []), (10, []), (11, []), (12, []), (13, []), (14, []), (15, []), (16, []), (17, []), (18, []), (19, []), (20, []), (21, []), (22, []), (23, []), (24, []), (25, []), (26, [13, 17, 21]), (27, []), (28, []), (29, []), (30, [])] (by kernel_rfl) ?_
    simp [lk_some, chkK, aload, apart, afield, hm, machC, hq, procC, hw]
    refine ACK.rt (messages_ac hbx h16) ?_
    simp [hm, machC, hq, procC, hw]
    refine ACK.rt hrd ?_
    simp
    exact resK.rt ⟨by simp, rfl, rfl⟩
set_option maxHeartbeats 4000000 in
theorem mend_ac {η : AHeap} {n : Nat} {nm : Role → Nat} {D : MD} (h : MachAt η n nm D) (ok : MachOK D) :
    AC Tryz.prog 37 [.ptr (nm .mach) 0 0] η n (Rt (.int .i64 (endF D)) η n) := by
  have hm := h.mach
  have hLv := h.obj .live _ rfl
  have hlen := lenLv hLv
  have elen : (liveE nm D.ps).length = (liveL D.ps 0).length := by simp [liveE]
  rw [elen] at hlen
  refine AC.pure (.int _ _) ?_
  unfold endF
  by_cases h0 : liveL D.ps 0 = []
  · rw [if_pos h0]
    rw [h0] at hlen
    refine AC.fresh fun hf => ?_; refine AC.enter Tryz.func37 rfl Tryz.ntmps37 (by simp) ?_
    simp [aload, apart, afield, hm, machC, hlen]
    exact resK.rt ⟨rfl, rfl⟩
  · rw [if_neg h0]
    have hpos : ¬ ((liveL D.ps 0).length : Int) = 0 := fun e => h0 (List.length_eq_zero_iff.1 (by omega))
    refine AC.unrange (r := nm .live) (es := ent (liveE nm D.ps)) ?_
    have l1 := h.lt .mach trivial
    have l3 := h.lt .live trivial
    have n2 : nm .mach ≠ nm .live := h.ne (ρ := .mach) (ρ' := .live) trivial trivial (by simp)
    refine AC.fresh fun hf => ?_; refine AC.enter Tryz.func37 rfl Tryz.ntmps37 (by simp) ?_
    simp [aload, apart, afield, hm, machC, hlen, h0]
    refine rangeK.map Tryz.underlying87 hLv fun E clk hE => ?_
    simp
    have hrn : nm .live ≠ n := by omega
    have hall : ∀ i (hi : i < (liveE nm D.ps).length), ∃ j p, D.ps[j]? = some p ∧ p.dead = false ∧ (liveE nm D.ps)[i] = (p.pid, .ptr (nm (.proc j)) 0 0) := fun i hi => by
      have hi' : i < (liveL D.ps 0).length := by rw [← elen]; exact hi
      obtain ⟨j, p, a1, a2, a3⟩ := (liveL_mem D.ps 0 _).1 (List.getElem_mem hi')
      exact ⟨j, p, a1, a2, by simp [liveE, a3]⟩
    have hat : ∀ j p, D.ps[j]? = some p → p.dead = false → ∃ i, ∃ hi : i < (liveE nm D.ps).length, (liveE nm D.ps)[i] = (p.pid, .ptr (nm (.proc j)) 0 0) := fun j p a1 a2 => by
      obtain ⟨i, hi, e⟩ := List.getElem_of_mem ((liveL_mem D.ps 0 (p.pid, j)).2 ⟨j, p, a1, a2, by simp⟩)
      exact ⟨i, by rw [elen]; exact hi, by simp [liveE, e]⟩
    refine loopK.inv [2, 4, 20, 21, 22, 23, 24, 25, 26, 27, 28, 29, 30, 31, 32, 33, 34] (fun x : List Nat × AHeap => x.1.Nodup ∧ (∀ i ∈ x.1, i < (liveE nm D.ps).length) ∧ x.2 (nm .live) = some (.mapR E clk (ent (liveE nm D.ps))) ∧ x.2 n = some (.iter (some (nm .live, E, clk)) x.1) ∧ (∀ q, q < n → q ≠ nm .live → x.2 q = η q) ∧ ∀ i ∈ x.1, ∀ j p, D.ps[j]? = some p → (liveE nm D.ps)[i]? = some (p.pid, .ptr (nm (.proc j)) 0 0) → goesP D p = false) (fun _ => []) (fun x => x.2) (fun _ => n + 1) (fun x => (liveE nm D.ps).length - x.1.length) ([], upd (upd η (nm .live) (some (.mapR E clk (ent (liveE nm D.ps))))) n (some (.iter (some (nm .live, E, clk)) []))) ⟨by simp, by simp, by simp only; rw [upd_ne hrn, upd_eq], upd_eq _ _ _, fun q h1 h2 => by simp only; rw [upd_ne (by omega), upd_ne h2], by simp⟩ (by simp) (AHeap.le_rfl _) (Nat.le_refl _) ?_
    intro ⟨seen, η1⟩ ⟨k1, k2, k4, k5, k6, k7⟩
    simp only at k1 k2 k4 k5 k6 k7
    have fin : ∀ b : Int, (∀ η2 : AHeap, η2 (nm .live) = some (.mapR E clk (ent (liveE nm D.ps))) → (∀ q, q < n → q ≠ nm .live → η2 q = η q) → (upd η (nm .live) (some (.mapR E clk (ent (liveE nm D.ps))))).le η2 ∧ ((∃ E' clk', upd η (nm .live) (some (.mapR E clk (ent (liveE nm D.ps)))) (nm .live) = some (.mapR E' clk' (ent (liveE nm D.ps)))) ∧ upd (upd η (nm .live) (some (.mapR E clk (ent (liveE nm D.ps))))) (nm .live) (some (.map (ent (liveE nm D.ps)))) = η)) := fun b η2 h1 h2 => by
      refine ⟨fun q o hq => ?_, ⟨E, clk, upd_eq _ _ _⟩, ?_⟩
      · by_cases e : q = nm .live
        · subst e; rw [upd_eq] at hq; rw [h1, hq]
        · rw [upd_ne e] at hq
          have : q < n := by
            rcases Nat.lt_or_ge q n with k | k
            · exact k
            · rw [hf q k] at hq; cases hq
          rw [h2 q this e, hq]
      · funext q
        by_cases e : q = nm .live
        · subst e; rw [upd_eq, hLv]
        · rw [upd_ne e, upd_ne e]
    simp
    refine nextK.map k5 k4 (fun i hi hni => ?_) (fun hdone => ?_)
    · have hi' : i < (liveE nm D.ps).length := by simpa using hi
      obtain ⟨j, p, a1, a2, a3⟩ := hall i hi'
      have hj : j < D.ps.length := (List.getElem?_eq_some_iff.1 a1).1
      have ek : (ent (liveE nm D.ps))[i] = (.int .i64 p.pid, .ptr (nm (.proc j)) 0 0) := by simp [ent, a3]
      simp
      refine entryK.map (seen := seen) (i := i) (E := E) (clk := clk) (r := nm .live) (es := ent (liveE nm D.ps)) (upd_eq _ _ _) (by rw [upd_ne hrn]; exact k4) hi ?_
      obtain ⟨H, hH⟩ : ∃ H, H = upd η1 n (some (.iter (some (nm .live, E, clk)) (seen ++ [i]))) := ⟨_, rfl⟩
      have hHk : ∀ q, q < n → q ≠ nm .live → H q = η q := fun q h1 h2 => by rw [hH, upd_ne (by omega), k6 q h1 h2]
      have hHl : H (nm .live) = some (.mapR E clk (ent (liveE nm D.ps))) := by rw [hH, upd_ne hrn]; exact k4
      have hHn : H n = some (.iter (some (nm .live, E, clk)) (seen ++ [i])) := by rw [hH]; exact upd_eq _ _ _
      rw [← hH]
      clear hH
      have hd : ∀ ρ, dom D.ps.length ρ → ρ ≠ .live → H (nm ρ) = η (nm ρ) := fun ρ hρ hne => hHk _ (h.lt ρ hρ) (h.ne hρ (ρ' := .live) trivial hne)
      have hHm : H (nm .mach) = some (.cells 6 [machC nm D]) := by rw [hd .mach trivial (by simp), hm]
      have hHp : H (nm (.proc j)) = some (.cells 14 [procC nm j p]) := by rw [hd (.proc j) hj (by simp)]; exact h.proc a1
      have hHb : BoxAt H (nm (.box j)) p.box (nm (.brow j)) := (h.bx j p a1).cong (hd (.box j) hj (by simp)) (hd (.brow j) hj (by simp))
      have hrd := fun n => mreadyX_ac (n := n) ok a1 hHm hHp hHb
      simp [ek, aload, apart, afield, hHp, procC]
      by_cases ht : 0 ≤ p.st.till
      · simp [ht]
        have hany : D.ps.any (goesP D) = true := List.any_eq_true.2 ⟨p, List.mem_of_getElem? a1, by simp [goesP, a2, ht]⟩
        obtain ⟨f1, f2, f3⟩ := fin 0 H hHl hHk
        exact resK.of f1 _ (Nat.le_refl _) ⟨f2, by rw [hany]; rfl, f3⟩
      · simp [ht]
        refine ACK.rt (hrd _) ?_
        cases hr : readyP D p with
        | true =>
          simp
          have hany : D.ps.any (goesP D) = true := List.any_eq_true.2 ⟨p, List.mem_of_getElem? a1, by simp [goesP, a2, hr]⟩
          obtain ⟨f1, f2, f3⟩ := fin 0 H hHl hHk
          exact resK.of f1 _ (Nat.le_refl _) ⟨f2, by rw [hany]; rfl, f3⟩
        | false =>
          simp
          have hsub : (seen ++ [i]).Nodup := by
            rw [List.nodup_append]; exact ⟨k1, by simp, fun a ha b hb e => by simp at hb; subst hb; exact hni (e ▸ ha)⟩
          have hin : ∀ x ∈ seen ++ [i], x < (liveE nm D.ps).length := fun x hx => by
            rcases List.mem_append.1 hx with k | k
            · exact k2 x k
            · simp at k; subst k; exact hi'
          have hlen2 : seen.length < (liveE nm D.ps).length := by
            have := hsub.length_le_of_subset (l₂ := List.range (liveE nm D.ps).length) fun x hx => List.mem_range.2 (hin x hx)
            simp at this; omega
          refine endK.intro (seen ++ [i], H) ⟨hsub, hin, hHl, hHn, hHk, fun x hx j' p' b1 b2 => ?_⟩ (by simp) (by repeat (first | exact Agree.mask _ _ | refine Agree.setf rfl ?_ | refine Agree.inner rfl ?_)) (AHeap.le_rfl _) (Nat.le_refl _) (show (liveE nm D.ps).length - (seen ++ [i]).length < (liveE nm D.ps).length - seen.length by simp; omega)
          rcases List.mem_append.1 hx with k | k
          · exact k7 x k j' p' b1 b2
          · have k := List.mem_singleton.1 k
            subst k
            rw [List.getElem?_eq_getElem hi', a3] at b2
            have e1 : nm (.proc j) = nm (.proc j') := by simp at b2; exact b2.2
            have e2 := h.inj (.proc j) (.proc j') hj (List.getElem?_eq_some_iff.1 b1).1 e1
            simp at e2; subst e2
            rw [a1] at b1; cases b1
            simp [goesP, ht, hr]
    · simp
      have hnone : D.ps.any (goesP D) = false := by
        rw [List.any_eq_false]
        intro p hpm
        obtain ⟨j, hj, rfl⟩ := List.getElem_of_mem hpm
        have hp : D.ps[j]? = some D.ps[j] := List.getElem?_eq_getElem hj
        cases hdd : D.ps[j].dead with
        | true => simp [goesP, hdd]
        | false =>
          obtain ⟨i, hi, e⟩ := hat j _ hp hdd
          have := k7 i (hdone i (by simpa using hi)) j _ hp (by rw [List.getElem?_eq_getElem hi, e])
          rw [this]; simp
      obtain ⟨f1, f2, f3⟩ := fin 2 η1 k4 k6
      exact resK.of f1 _ (Nat.le_refl _) ⟨f2, by rw [hnone]; rfl, f3⟩
end Go.Proofs.YtbomkomipaipmaaGreat
