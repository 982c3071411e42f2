/- How the program's data lie in memory, as predicates over lists: no program in sight. -/
import Derived.WalkKit
import Derived.WalkLawsBesides
import Derived.Lib.Hide
namespace Go.Proofs.YtkhoelmbcmkhjaaDoor
open Go.RowKit

theorem _root_.Go.World.block_lt {w : World} {a : Addr} {v : Value} (h : w.cell? a = some v) : a.block < w.heap.size := by
  rcases Nat.lt_or_ge a.block w.heap.size with g | g
  · exact g
  · simp [World.cell?, Array.getElem?_eq_none g] at h

theorem ups {b n : Nat} (h : b < n) : b < n + 1 ∧ b < n + 1 + 1 ∧ b < n + 1 + 1 + 1 ∧ b < n + 1 + 1 + 1 + 1 ∧ b < n + 1 + 1 + 1 + 1 + 1 := by omega

/-- A slice value whose elements, k cells each, read by R as the list. -/
def SlAt {α : Type} (k : Nat) (R : World → List Value → α → Prop) (w : World) (v : Value) (l : List α) : Prop :=
  ∃ a cap, v = .slice a l.length cap ∧ l.length ≤ cap ∧ (l.length ≤ 17592186044416 ∧ cap ≤ 9223372036854775807 ∧ (a = none → cap = 0)) ∧
    (0 < l.length → ∃ b o, a = some ⟨b, o, none⟩) ∧
    ∀ b o, a = some ⟨b, o, none⟩ → ∀ i x, l[i]? = some x → ∃ cs, cs.length = k ∧
      (∀ j c, cs[j]? = some c → w.cell? ⟨b, o + i * k + j, none⟩ = some c) ∧ R w cs x

def IntR (_ : World) (cs : List Value) (x : Int) : Prop := cs = [.int .i64 x] ∧ -9223372036854775808 ≤ x ∧ x ≤ 9223372036854775807
def PairR (_ : World) (cs : List Value) (x : Int × Int) : Prop := cs = [.int .i64 x.1, .int .i64 x.2] ∧ (-9223372036854775808 ≤ x.1 ∧ x.1 ≤ 9223372036854775807) ∧ -9223372036854775808 ≤ x.2 ∧ x.2 ≤ 9223372036854775807

abbrev IntsAt := SlAt 1 IntR
abbrev PairsAt := SlAt 2 PairR

structure Tbl where
  cls : List (Int × Int)
  tmo : Int

def TblR (w : World) (cs : List Value) (t : Tbl) : Prop := ∃ v, cs = [v, .int .i64 t.tmo] ∧ (-9223372036854775808 ≤ t.tmo ∧ t.tmo ≤ 9223372036854775807) ∧ PairsAt w v t.cls

structure Actr where
  params : List Int
  regs : List Int
  msgs : List Int
  code : List (Int × Int)
  tabs : List Tbl

def ActR (w : World) (cs : List Value) (a : Actr) : Prop := ∃ p r m c t, cs = [p, r, m, c, t] ∧ IntsAt w p a.params ∧ IntsAt w r a.regs ∧ IntsAt w m a.msgs ∧ PairsAt w c a.code ∧ SlAt 2 TblR w t a.tabs

abbrev ActsAt := SlAt 5 ActR

/-- What a reading needs stays. -/
theorem SlAt.keep {α : Type} {k : Nat} {R : World → List Value → α → Prop} {w w' : World} {v : Value} {l : List α} (h : SlAt k R w v l) (hk : 0 < k)
    (hb : ∀ b, b < w.heap.size → w'.heap[b]? = w.heap[b]?) (hR : ∀ cs x, R w cs x → R w' cs x) : SlAt k R w' v l := by
  obtain ⟨a, cap, hv, hl, hc, ha, hcell⟩ := h
  refine ⟨a, cap, hv, hl, hc, ha, fun b o hbo i x hx => ?_⟩
  obtain ⟨cs, hn, hcs, hr⟩ := hcell b o hbo i x hx
  refine ⟨cs, hn, fun j c hj => ?_, hR _ _ hr⟩
  have h1 := hcs j c hj
  have hlt : b < w.heap.size := by
    rcases Nat.lt_or_ge b w.heap.size with h | h
    · exact h
    · simp [World.cell?, Array.getElem?_eq_none h] at h1
  rw [World.cell?_of_block (w := w) (hb b hlt)]
  exact h1

theorem SlAt.below {α : Type} {k : Nat} {R : World → List Value → α → Prop} {w w' : World} {v : Value} {l : List α} (h : SlAt k R w v l) (hk : 0 < k)
    (hb : Below w.heap.size w w') (hR : ∀ cs x, R w cs x → R w' cs x) : SlAt k R w' v l := h.keep hk (fun b hlt => hb.block b hlt) hR

theorem PairsAt.below {w w' : World} {v : Value} {l : List (Int × Int)} (h : PairsAt w v l) (hb : Below w.heap.size w w') : PairsAt w' v l := SlAt.below h (by omega) hb fun _ _ h => h
theorem IntsAt.below {w w' : World} {v : Value} {l : List Int} (h : IntsAt w v l) (hb : Below w.heap.size w w') : IntsAt w' v l := SlAt.below h (by omega) hb fun _ _ h => h
theorem TblR.below {w w' : World} {cs : List Value} {x : Tbl} (h : TblR w cs x) (hb : Below w.heap.size w w') : TblR w' cs x := by
  obtain ⟨v, h1, h2, h3⟩ := h
  exact ⟨v, h1, h2, h3.below hb⟩
theorem TblsAt.below {w w' : World} {v : Value} {l : List Tbl} (h : SlAt 2 TblR w v l) (hb : Below w.heap.size w w') : SlAt 2 TblR w' v l := SlAt.below h (by omega) hb fun _ _ h => h.below hb
theorem ActR.below {w w' : World} {cs : List Value} {x : Actr} (h : ActR w cs x) (hb : Below w.heap.size w w') : ActR w' cs x := by
  obtain ⟨p, r, m, c, t, h0, h1, h2, h3, h4, h5⟩ := h
  exact ⟨p, r, m, c, t, h0, h1.below hb, h2.below hb, h3.below hb, h4.below hb, TblsAt.below h5 hb⟩
theorem ActsAt.below {w w' : World} {v : Value} {l : List Actr} (h : ActsAt w v l) (hb : Below w.heap.size w w') : ActsAt w' v l := SlAt.below h (by omega) hb fun _ _ h => h.below hb

/-- Elements of two numbers. -/
theorem PairsAt.cells {w : World} {v : Value} {l : List (Int × Int)} (h : PairsAt w v l) : ∃ a cap, v = .slice a l.length cap ∧ l.length ≤ 17592186044416 ∧ (0 < l.length → ∃ b o, a = some ⟨b, o, none⟩) ∧
    ∀ b o, a = some ⟨b, o, none⟩ → ∀ i (h : i < l.length), w.cell? ⟨b, o + i * 2, none⟩ = some (.int .i64 l[i].1) ∧ w.cell? ⟨b, o + i * 2 + 1, none⟩ = some (.int .i64 l[i].2) := by
  obtain ⟨a, cap, hv, hl, hc, ha, hcell⟩ := h
  refine ⟨a, cap, hv, by omega, ha, fun b o hbo i hi => ?_⟩
  obtain ⟨cs, _, h1, rfl, _⟩ := hcell b o hbo i l[i] (List.getElem?_eq_getElem hi)
  exact ⟨h1 0 _ rfl, h1 1 _ rfl⟩
theorem IntsAt.cells {w : World} {v : Value} {l : List Int} (h : IntsAt w v l) : ∃ a cap, v = .slice a l.length cap ∧ l.length ≤ 17592186044416 ∧ (0 < l.length → ∃ b o, a = some ⟨b, o, none⟩) ∧
    ∀ b o, a = some ⟨b, o, none⟩ → ∀ i (h : i < l.length), w.cell? ⟨b, o + i, none⟩ = some (.int .i64 l[i]) := by
  obtain ⟨a, cap, hv, hl, hc, ha, hcell⟩ := h
  refine ⟨a, cap, hv, by omega, ha, fun b o hbo i hi => ?_⟩
  obtain ⟨cs, _, h1, rfl, _⟩ := hcell b o hbo i l[i] (List.getElem?_eq_getElem hi)
  simpa using h1 0 _ rfl
end Go.Proofs.YtkhoelmbcmkhjaaDoor
