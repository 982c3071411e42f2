/- Plain laws on numbers: or, xor, a product by binary digits, quotients by size and sign. No program in sight. -/
import Derived.Test.YtkhoelmbcmkhjaaAh
namespace Go.Proofs.Ytkhoelmbcmkhjaa
open Go.RowKit (wrap64)

theorem or_zero (a b : Int) (ha : -9223372036854775808 ≤ a ∧ a ≤ 9223372036854775807) (hb : -9223372036854775808 ≤ b ∧ b ≤ 9223372036854775807) :
    bitF .or .i64 a b = 0 ↔ a = 0 ∧ b = 0 := by
  show IntKind.i64.wrap ((BitVec.ofInt 64 a ||| BitVec.ofInt 64 b).toNat : Int) = 0 ↔ _
  have hw : ∀ n : Nat, n < 18446744073709551616 → (IntKind.i64.wrap (n : Int) = 0 ↔ n = 0) := by
    intro n hn
    simp [IntKind.wrap, IntKind.bits, IntKind.signed]
    omega
  rw [hw _ (BitVec.isLt _)]
  have hz : ∀ x : BitVec 64, x.toNat = 0 ↔ x = 0#64 := fun x => ⟨fun h => BitVec.eq_of_toNat_eq (by simpa using h), fun h => by rw [h]; rfl⟩
  have hi : ∀ x : Int, -9223372036854775808 ≤ x ∧ x ≤ 9223372036854775807 → (BitVec.ofInt 64 x = 0#64 ↔ x = 0) := by
    intro x hx
    constructor
    · intro h
      have := congrArg BitVec.toNat h
      simp [BitVec.toNat_ofInt] at this
      omega
    · rintro rfl; rfl
  rw [hz, BitVec.or_eq_zero_iff, hi a ha, hi b hb]

theorem xor_max (n : Int) (h0 : 0 ≤ n) (h1 : n < 18446744073709551616) : bitF .xor .u64 IntKind.u64.max n = 18446744073709551615 - n := by
  obtain ⟨k, rfl⟩ := Int.eq_ofNat_of_zero_le h0
  show IntKind.u64.wrap ((BitVec.ofInt 64 IntKind.u64.max ^^^ BitVec.ofInt 64 (k : Int)).toNat : Int) = _
  have h2 : BitVec.ofInt 64 IntKind.u64.max = BitVec.allOnes 64 := by decide
  have h3 : BitVec.ofInt 64 (k : Int) = BitVec.ofNat 64 k := by simp
  rw [h2, BitVec.allOnes_xor, BitVec.toNat_not, h3]
  simp [IntKind.wrap, IntKind.bits, IntKind.signed]
  omega

def negU (n : Int) : Int := IntKind.u64.wrap (bitF .xor .u64 IntKind.u64.max n + 1)
theorem negU_eq (n : Int) (h0 : 0 ≤ n) (h1 : n < 18446744073709551616) : wrap64 (negU n) = wrap64 (-n) := by
  unfold negU
  rw [xor_max n h0 h1]
  simp only [IntKind.wrap, IntKind.bits, IntKind.signed, wrap64, Bool.false_and, Bool.false_eq_true, if_false]
  omega

theorem wrapU (n : Int) (h0 : 0 ≤ n) (h1 : n < 18446744073709551616) : IntKind.u64.wrap n = n := by
  simp only [IntKind.wrap, IntKind.bits, IntKind.signed, Bool.false_and, Bool.false_eq_true, if_false]
  omega
theorem wrapU_any (n : Int) : IntKind.u64.wrap n = n % 18446744073709551616 := by
  simp only [IntKind.wrap, IntKind.bits, IntKind.signed, Bool.false_and, Bool.false_eq_true, if_false]
  omega
theorem wrap64_U (n : Int) : wrap64 (IntKind.u64.wrap n) = wrap64 n := by
  rw [wrapU_any]; unfold wrap64; omega

/-- how far a number is from 0 -/
def absI (a : Int) : Int := if a < 0 then -a else a
theorem size_neg (a : Int) (h : a < 0) (h0 : -9223372036854775808 ≤ a) : IntKind.u64.wrap (IntKind.u64.wrap (wrap64 (-wrap64 (a + 1))) + 1) = absI a := by
  unfold absI; rw [if_pos h, wrapU_any, wrapU_any]; unfold wrap64; omega
theorem size_pos (a : Int) (h : 0 ≤ a) (h0 : a ≤ 9223372036854775807) : IntKind.u64.wrap a = absI a := by
  unfold absI; rw [if_neg (by omega), wrapU_any]; omega
theorem absI_bd (a : Int) (ha : -9223372036854775808 ≤ a ∧ a ≤ 9223372036854775807) : 0 ≤ absI a ∧ absI a ≤ 9223372036854775808 := by unfold absI; split <;> omega
theorem absI_natAbs (a : Int) : absI a = (a.natAbs : Int) := by unfold absI; split <;> omega

theorem quo_signed (a b : Int) (_ : b ≠ 0) : (if (a < 0) ≠ (b < 0) then -(absI a / absI b) else absI a / absI b) = a.tdiv b := by
  have e : ∀ x y : Nat, (x : Int) / (y : Int) = (x : Int).tdiv (y : Int) := fun x y => by rw [Int.tdiv_eq_ediv_of_nonneg (by omega)]
  unfold absI
  by_cases h1 : a < 0 <;> by_cases h2 : b < 0 <;> simp only [h1, h2, if_true, if_false, ne_eq, not_true, not_false_iff, eq_iff_iff, iff_true, iff_false]
  · rw [← Int.tdiv_eq_ediv_of_nonneg (by omega), Int.neg_tdiv, Int.tdiv_neg, Int.neg_neg]
  · rw [← Int.tdiv_eq_ediv_of_nonneg (by omega), Int.neg_tdiv, Int.neg_neg]
  · rw [← Int.tdiv_eq_ediv_of_nonneg (by omega), Int.tdiv_neg, Int.neg_neg]
  · rw [← Int.tdiv_eq_ediv_of_nonneg (by omega)]
theorem rem_signed (a b : Int) (_ : b ≠ 0) : (if a < 0 then -(absI a % absI b) else absI a % absI b) = a.tmod b := by
  unfold absI
  by_cases h1 : a < 0 <;> by_cases h2 : b < 0 <;> simp only [h1, h2, if_true, if_false]
  · rw [← Int.tmod_eq_emod_of_nonneg (by omega), Int.tmod_neg, Int.neg_tmod, Int.neg_neg]
  · rw [← Int.tmod_eq_emod_of_nonneg (by omega), Int.neg_tmod, Int.neg_neg]
  · rw [← Int.tmod_eq_emod_of_nonneg (by omega), Int.tmod_neg]
  · rw [← Int.tmod_eq_emod_of_nonneg (by omega)]

theorem xor_top_low (n : Nat) (h : n < 9223372036854775808) : n ^^^ 9223372036854775808 = n + 9223372036854775808 := by
  apply Nat.eq_of_testBit_eq
  intro i
  have e : (9223372036854775808 : Nat) = 2 ^ 63 := by decide
  rw [Nat.testBit_xor, e, Nat.add_comm, Nat.testBit_two_pow]
  rcases Nat.lt_trichotomy i 63 with h1 | h1 | h1
  · rw [Nat.testBit_two_pow_add_gt h1, show decide (63 = i) = false from by simpa using Nat.ne_of_gt h1, Bool.xor_false]
  · subst h1; rw [Nat.testBit_two_pow_add_eq, show decide (63 = 63) = true from rfl, Bool.xor_true]
  · rw [Nat.testBit_lt_two_pow (x := n) (Nat.lt_of_lt_of_le h (by rw [e]; exact Nat.pow_le_pow_right (by omega) (by omega))),
      Nat.testBit_lt_two_pow (x := 2 ^ 63 + n) (Nat.lt_of_lt_of_le (m := 2 ^ 64) (by omega) (Nat.pow_le_pow_right (by omega) (by omega)))]
    rw [show decide (63 = i) = false from by simpa using Nat.ne_of_lt h1, Bool.xor_false]
theorem xor_top_nat (n : Nat) (h : n < 18446744073709551616) : n ^^^ 9223372036854775808 = (n + 9223372036854775808) % 18446744073709551616 := by
  by_cases h1 : n < 9223372036854775808
  · rw [xor_top_low n h1]; omega
  · obtain ⟨m, rfl⟩ : ∃ m, n = m + 9223372036854775808 := ⟨n - 9223372036854775808, by omega⟩
    rw [← xor_top_low m (by omega), Nat.xor_assoc, Nat.xor_self, Nat.xor_zero, xor_top_low m (by omega)]; omega
theorem ofInt_wrapU (a : Int) : BitVec.ofInt 64 (IntKind.u64.wrap a) = BitVec.ofInt 64 a := by
  apply BitVec.eq_of_toNat_eq
  rw [wrapU_any]; simp [BitVec.toNat_ofInt]
def topU (a : Int) : Int := bitF .xor .u64 (IntKind.u64.wrap a) 9223372036854775808
theorem topU_eq (a : Int) (ha : -9223372036854775808 ≤ a ∧ a ≤ 9223372036854775807) : topU a = a + 9223372036854775808 := by
  unfold topU
  show IntKind.u64.wrap ((BitVec.ofInt 64 (IntKind.u64.wrap a) ^^^ BitVec.ofInt 64 9223372036854775808).toNat : Int) = _
  rw [ofInt_wrapU, BitVec.toNat_xor, show (BitVec.ofInt 64 9223372036854775808).toNat = 9223372036854775808 from by decide, xor_top_nat _ (BitVec.isLt _), wrapU_any]
  simp only [BitVec.toNat_ofInt]
  omega
theorem xorU_zero (a b : Int) (ha : -9223372036854775808 ≤ a ∧ a ≤ 9223372036854775807) (hb : -9223372036854775808 ≤ b ∧ b ≤ 9223372036854775807) :
    (bitF .xor .u64 (IntKind.u64.wrap a) (IntKind.u64.wrap b) == 0) = decide (a = b) := by
  rw [Bool.eq_iff_iff]
  simp only [beq_iff_eq, decide_eq_true_eq]
  show IntKind.u64.wrap ((BitVec.ofInt 64 (IntKind.u64.wrap a) ^^^ BitVec.ofInt 64 (IntKind.u64.wrap b)).toNat : Int) = 0 ↔ _
  rw [ofInt_wrapU, ofInt_wrapU, wrapU _ (by omega) (by have := (BitVec.ofInt 64 a ^^^ BitVec.ofInt 64 b).isLt; omega)]
  constructor
  · intro h
    have h1 : BitVec.ofInt 64 a ^^^ BitVec.ofInt 64 b = 0#64 := BitVec.eq_of_toNat_eq ((Int.natCast_eq_zero.1 h).trans rfl)
    have h2 := congrArg (fun x => x ^^^ BitVec.ofInt 64 b) h1
    simp only [BitVec.xor_assoc, BitVec.xor_self, BitVec.xor_zero, BitVec.zero_xor] at h2
    have h3 := congrArg BitVec.toNat h2
    simp [BitVec.toNat_ofInt] at h3
    omega
  · rintro rfl; simp

/-- b's last k digits -/
theorem digits_succ (b k : Nat) : b % 2 ^ (k + 1) = b % 2 ^ k + 2 ^ k * (b / 2 ^ k % 2) := by
  rw [Nat.pow_succ, Nat.mod_mul]
def sgnF (n : Int) (m : Bool) : Int := wrap64 (if m then -n else n)
theorem sgn_quo (a b : Int) (hb : b ≠ 0) : sgnF (absI a / absI b) (!decide (a < 0) == decide (b < 0)) = wrap64 (a.tdiv b) := by
  rw [← quo_signed a b hb]
  unfold sgnF
  by_cases h1 : a < 0 <;> by_cases h2 : b < 0 <;> simp [h1, h2]
theorem sgn_rem (a b : Int) (hb : b ≠ 0) (ha : I64 a) : sgnF (absI a % absI b) (decide (a < 0)) = a.tmod b := by
  rw [← rem_signed a b hb]
  have hA := absI_bd a ha
  have hB : 0 ≤ absI b := by unfold absI; split <;> omega
  have h2 : 0 ≤ absI a % absI b := Int.emod_nonneg _ (by unfold absI; split <;> omega)
  have h3 : absI a % absI b ≤ absI a := by
    have e1 := Int.emod_add_mul_ediv (absI a) (absI b)
    have e2 : 0 ≤ absI b * (absI a / absI b) := Int.mul_nonneg hB (Int.ediv_nonneg hA.1 hB)
    omega
  have h4 : absI a < 9223372036854775808 ∨ absI a = 9223372036854775808 := by omega
  have h5 : ¬ a < 0 → absI a ≤ 9223372036854775807 := fun h => by unfold absI; rw [if_neg h]; exact ha.2
  unfold sgnF wrap64
  by_cases h1 : a < 0
  · simp only [h1, decide_true, if_true]; omega
  · simp only [h1, decide_false, Bool.false_eq_true, if_false]; have := h5 h1; omega
/-- the sum over b's last k digits, modulo 2^64 -/
theorem odd_cast {b k : Nat} {c : Bool} (h : (((b : Int) / 2 ^ k).tmod 2 == 1) = c) : (b / 2 ^ k % 2 == 1) = c := by
  have e : ((b : Int) / 2 ^ k) = ((b / 2 ^ k : Nat) : Int) := by simp
  rw [e, Int.tmod_eq_emod_of_nonneg (Int.natCast_nonneg _)] at h
  rw [← h, Bool.eq_iff_iff]
  simp
  omega
theorem prod_odd {a b k : Nat} (h : (((b : Int) / 2 ^ k).tmod 2 == 1) = true) :
    IntKind.u64.wrap ((a : Int) * ((b : Int) % 2 ^ k) % 18446744073709551616 + IntKind.u64.wrap ((a : Int) * 2 ^ k)) = ((a * (b % 2 ^ (k + 1)) % 18446744073709551616 : Nat) : Int) := by
  have h1 : b / 2 ^ k % 2 = 1 := by simpa using odd_cast h
  rw [digits_succ, h1, Nat.mul_one, Nat.mul_add, wrapU_any, wrapU_any]
  have e1 : ((b : Int) % 2 ^ k) = ((b % 2 ^ k : Nat) : Int) := by simp
  have e2 : (2 : Int) ^ k = ((2 ^ k : Nat) : Int) := by simp
  rw [e1, e2, ← Int.natCast_mul, ← Int.natCast_mul]
  omega
theorem prod_even {a b k : Nat} (h : (((b : Int) / 2 ^ k).tmod 2 == 1) = false) :
    ((a * (b % 2 ^ k) % 18446744073709551616 : Nat) : Int) = ((a * (b % 2 ^ (k + 1)) % 18446744073709551616 : Nat) : Int) := by
  have h1 : b / 2 ^ k % 2 = 0 := by
    have h0 := odd_cast h
    have h2 : ¬ (b / 2 ^ k % 2 = 1) := by simpa using h0
    omega
  rw [digits_succ, h1]; simp

def natU (a : Int) : Nat := (a % 18446744073709551616).toNat
theorem natU_eq (a : Int) : IntKind.u64.wrap a = (natU a : Int) := by rw [wrapU_any]; unfold natU; omega
theorem natU_lt (a : Int) : natU a < 18446744073709551616 := by unfold natU; omega
theorem mul_natU (a b : Int) : wrap64 ((natU a * natU b % 18446744073709551616 : Nat) : Int) = wrap64 (a * b) := by
  have h : ((natU a * natU b % 18446744073709551616 : Nat) : Int) = a * b % 18446744073709551616 := by
    rw [Int.natCast_emod, Int.natCast_mul, ← natU_eq, ← natU_eq, wrapU_any, wrapU_any]
    simp [Int.mul_emod]
  rw [h]; unfold wrap64; omega
theorem add_natU (a b : Int) : wrap64 (IntKind.u64.wrap (IntKind.u64.wrap a + IntKind.u64.wrap b)) = wrap64 (a + b) := by
  rw [wrap64_U, wrapU_any, wrapU_any]; unfold wrap64; omega
theorem sub_natU (a b : Int) : wrap64 (IntKind.u64.wrap (IntKind.u64.wrap a - IntKind.u64.wrap b)) = wrap64 (a - b) := by
  rw [wrap64_U, wrapU_any, wrapU_any]; unfold wrap64; omega

end Go.Proofs.Ytkhoelmbcmkhjaa
