/- Layer 6: an actor alone. -/
import Derived.Test.YtkhoelmbcmkhjaaGh
namespace Go.Proofs.Ytkhoelmbcmkhjaa
set_option maxRecDepth 100000

def halt : Actr := ⟨[], [], [], [(0, 0)], []⟩
/-- one actor, and halting ones behind it -/
def lone (a : Actr) (r : Nat) : List Actr := a :: List.replicate r halt
theorem lone_actr0 (a : Actr) (r : Nat) : actr (lone a r) (0 : Nat) = a := rfl
theorem lone_actr (a : Actr) (r j : Nat) (hj : j < r) : actr (lone a r) ((j + 1 : Nat) : Int) = halt := by
  show (lone a r).getD (j + 1) _ = halt
  simp [lone, List.getD_eq_getElem?_getD, hj]
theorem lone_len (a : Actr) (r : Nat) : (lone a r).length = r + 1 := by simp [lone]
theorem rightT_more {t : Int} {n : Nat} (hn : 1 ≤ n) (h : rightT t 1 = true) : rightT t n = true := by
  simp only [rightT, decide_eq_true_eq] at *; omega
theorem lone_send {a : Actr} {r : Nat} {x : Int} {s : List Int} (hs : TyOK 1 s) : sendL ⟨lone a r, 0, a⟩ x s = sendL ⟨[a], 0, a⟩ x s := by
  unfold sendL
  by_cases h1 : s.length < 2
  · rw [if_pos h1, if_pos h1]
  rw [if_neg h1, if_neg h1]
  by_cases h2 : (actT (s.getD (s.length - 2) 0)).2 = false
  · rw [if_pos h2, if_pos h2]
  rw [if_neg h2, if_neg h2]
  have hk : s.length - 2 < s.length := by omega
  obtain ⟨j, ej, hj⟩ := actT_of (hs.getD hk) (by simpa using h2)
  have : j = 0 := by omega
  subst this
  rw [ej]
  rfl
theorem lone_eff {a : Actr} {r : Nat} {i : Int × Int} (hi : i.1 ≠ 19) : effL ⟨lone a r, 0, a⟩ i = effL ⟨[a], 0, a⟩ i := by
  unfold effL
  simp only [if_neg hi]
theorem lone_names {a : Actr} {r : Nat} {i : Int × Int} (hi : i.1 ≠ 19) : namesL ⟨lone a r, 0, a⟩ i = namesL ⟨[a], 0, a⟩ i := by
  unfold namesL
  simp only [if_neg hi]
theorem lone_beh {a : Actr} {r : Nat} {i : Int × Int} (hi : i.1 ≠ 19) {s : List Int} (hs : TyOK 1 s) : behL ⟨lone a r, 0, a⟩ i s = behL ⟨[a], 0, a⟩ i s := by
  unfold behL; rw [lone_names hi, lone_eff hi, lone_send hs]
theorem lone_goes (a : Actr) (r : Nat) (x : Lx) (to : Nat) (s : List Int) : goesL ⟨lone a r, 0, a⟩ x to s = goesL ⟨[a], 0, a⟩ x to s := rfl
theorem lone_recv (a : Actr) (r : Nat) (tmo : Int) (s : List Int) : ∀ (cls : List (Int × Int)) (x : Lx), recvL ⟨lone a r, 0, a⟩ tmo s cls x = recvL ⟨[a], 0, a⟩ tmo s cls x
  | [], x => rfl
  | cl :: q, x => by
    unfold recvL
    simp only [lone_goes]
    rw [lone_recv a r tmo s q]
    rfl
theorem lone_at {a : Actr} {r : Nat} {x : Lx} {p : Nat} (hi : (a.code.getD p (0, 0)).1 ≠ 19) (hs : TyOK 1 (x.shapes.getD p [])) : atL ⟨lone a r, 0, a⟩ x p = atL ⟨[a], 0, a⟩ x p := by
  unfold atL
  simp only [lone_beh hi hs, lone_goes, lone_recv]
theorem lone_all {a : Actr} {r : Nat} (hc : LcOK ⟨[a], 0, a⟩) (hi : ∀ p, (a.code.getD p (0, 0)).1 ≠ 19) : ∀ (f : Nat) (x : Lx), LI ⟨[a], 0, a⟩ x → allL ⟨lone a r, 0, a⟩ f x = allL ⟨[a], 0, a⟩ f x
  | 0, _, _ => rfl
  | f + 1, x, hx => by
    unfold allL
    cases hf : x.todo.findIdx? id with
    | none => rfl
    | some p =>
      obtain ⟨o1, o2, o3⟩ := off_goes hx hf
      have e := lone_at (r := r) (x := x.off p) (hi p) (o2.ok p).1
      simp only [e]
      rw [lone_all hc hi f _ (atL_goes hc o3 o2).2]
theorem halt_look (m : List Actr) (k : Nat) (h : actr m k = halt) : (lookL m k).2 = (0, 0, 0) := by
  unfold lookL
  rw [h]
  have hl : (lx0 halt.code.length).todo.findIdx? id = some 0 := by
    refine low_some (by show 0 < (off.set 0 true).length; simp [off_len]) ?_ (by simp)
    show (off.set 0 true)[0]'_ = true
    simp
  have hb : behL ⟨m, k, halt⟩ (0, 0) [] = ([], 0) := by simp [behL, namesL, effL, popL, high]
  have ha : atL ⟨m, k, halt⟩ ((lx0 halt.code.length).off 0) 0 = ((lx0 halt.code.length).off 0, 0) := by
    have e1 : halt.code.getD 0 (0, 0) = (0, 0) := rfl
    have e2 : ((lx0 halt.code.length).off 0).shapes.getD 0 [] = [] := rfl
    unfold atL
    simp only [e1, e2, hb]
    simp
  have hn : ((lx0 halt.code.length).off 0).todo.findIdx? id = none := by
    refine low_none fun j hj => ?_
    show ((off.set 0 true).set 0 false).getD j false = false
    rw [getD_set, getD_set]
    by_cases e : 0 = j
    · rw [if_pos ⟨e, by rw [List.length_set, off_len]; omega⟩]
    · rw [if_neg (by omega), if_neg (by omega)]
      simp only [off, List.getD_eq_getElem?_getD, List.getElem?_replicate]; split <;> rfl
  rw [show (700 : Nat) = 698 + 1 + 1 from rfl, allL]
  simp only [hl, ha]
  rw [if_neg (by simp), allL]
  simp only [hn]
theorem lone_right {a : Actr} {r : Nat} (hr : r ≤ 7) (h : rightM [a] = 0) : rightM (lone a r) = 0 := by
  have hc := lcOK_of h (k := 0) (by simp)
  have f1 := hc.few a (by simp)
  have f2 := hc.ok a (by simp)
  have hp : a.params = [] := by
    unfold rightM at h
    split at h
    · cases h
    · split at h
      · cases h
      · rename_i h2
        have : ¬ 0 < a.params.length := fun e => h2 (Or.inr (Or.inl e))
        exact List.length_eq_zero_iff.1 (by omega)
  have g1 : (lone a r).all littleF = true := by
    refine List.all_eq_true.2 fun b hb => ?_
    simp [lone] at hb
    rcases hb with rfl | ⟨_, rfl⟩
    · exact f1
    · rfl
  have g2 : ((lone a r).all fun b => rightA b (lone a r).length) = true := by
    refine List.all_eq_true.2 fun b hb => ?_
    simp [lone] at hb
    rcases hb with rfl | ⟨_, rfl⟩
    · unfold rightA at f2 ⊢
      simp only [Bool.and_eq_true] at f2 ⊢
      refine ⟨List.all_eq_true.2 fun t ht => ?_, f2.2⟩
      rw [lone_len]
      exact rightT_more (by omega) (List.all_eq_true.1 f2.1 t ht)
    · simp [rightA, halt, allT, rightI, countI]
  unfold rightM
  rw [if_neg (by rw [lone_len, g1]; simp; omega), if_neg]
  rintro (e | e | e)
  · simp [lone] at e
  · have e' : 0 < a.params.length := e
    rw [hp] at e'; simp at e'
  · rw [g2] at e; cases e
theorem lone_check {a : Actr} {r : Nat} (hr : r ≤ 7) (h : rightM [a] = 0) (hi : ∀ p, (a.code.getD p (0, 0)).1 ≠ 19) : checkF (lone a r) = checkF [a] := by
  have hc : LcOK ⟨[a], 0, a⟩ := lcOK_of h (k := 0) (by simp)
  have e0 : lookL (lone a r) 0 = lookL [a] 0 := lone_all hc hi 700 _ (LI0 hc.ownA.c0)
  unfold checkF
  rw [if_neg (by simpa using lone_right hr h), if_neg (by simpa using h), lone_len]
  show checkN (lone a r) (r + 1) 0 = checkN [a] (0 + 1) 0
  unfold checkN
  rw [e0]
  split
  · rfl
  · rw [checkN_of _ _ fun i h1 h2 => ?_]
    · rfl
    · obtain ⟨j, rfl⟩ : ∃ j, i = j + 1 := ⟨i - 1, by omega⟩
      rw [halt_look _ _ (lone_actr a r j (by omega))]
end Go.Proofs.Ytkhoelmbcmkhjaa
