/- Division of two words by one: plain Lean. -/
import Derived.Test.YtincnfjihffllaaPu0
namespace Go.Proofs.Ytincnfjihffllaa.Ev
open Go

/-- a digit of the quotient, told too great at first: what holds of it -/
structure Dig (y u un q r : Int) : Prop where
  lt : u * 4294967296 + un < (q + 1) * y
  rest : r = u - q * (y / 4294967296)
  pos : 0 ≤ r
  small : r < 4294967296
  top : q ≤ 4294967297
  nn : 0 ≤ q

section
variable {y u un q r : Int}

theorem dig_start (h1 : 9223372036854775808 ≤ y) (h2 : y < 18446744073709551616) (hu : 0 ≤ u) (hu' : u < y) (hn : 0 ≤ un) (hn' : un < 4294967296) :
    Dig y u un (u / (y / 4294967296)) (u - u / (y / 4294967296) * (y / 4294967296)) := by
  generalize hy : y / 4294967296 = a
  have ha : 2147483648 ≤ a ∧ a < 4294967296 := by omega
  have e1 := Int.mul_ediv_add_emod u a
  have e2 := Int.emod_nonneg u (show a ≠ 0 by omega)
  have e3 := Int.emod_lt_of_pos u (show 0 < a by omega)
  have hq0 : 0 ≤ u / a := Int.ediv_nonneg hu (by omega)
  generalize u / a = q at *
  have e4 : q * a = u - u % a := by rw [Int.mul_comm]; omega
  refine ⟨?_, by rw [hy], by omega, by omega, ?_, hq0⟩
  · have e5 : (q + 1) * (a * 4294967296) ≤ (q + 1) * y := Int.mul_le_mul_of_nonneg_left (by omega) (by omega)
    have e6 : (q + 1) * (a * 4294967296) = (q * a + a) * 4294967296 := by grind
    omega
  · rcases Int.lt_or_le 4294967297 q with h | h
    · exfalso
      have e5 : 4294967298 * a ≤ q * a := Int.mul_le_mul_of_nonneg_right (by omega) (by omega)
      omega
    · exact h

/-- it is too great: one less -/
theorem dig_less (h1 : 9223372036854775808 ≤ y) (h2 : y < 18446744073709551616) (hu : 0 ≤ u) (hu' : u < y) (hn : 0 ≤ un) (hn' : un < 4294967296) (D : Dig y u un q r)
    (hc : 4294967296 ≤ q ∨ r * 4294967296 + un < q * (y % 4294967296)) : u * 4294967296 + un < (q - 1 + 1) * y ∧ r + y / 4294967296 = u - (q - 1) * (y / 4294967296) ∧ 1 ≤ q := by
  obtain ⟨d1, d2, d3, d4, d5, d6⟩ := D
  have hy : y = (y / 4294967296) * 4294967296 + y % 4294967296 := by omega
  generalize ha : y / 4294967296 = a at *
  generalize hb : y % 4294967296 = b at *
  have e1 : (q - 1 + 1) * y = q * a * 4294967296 + q * b := by rw [hy]; grind
  have e2 : (q - 1) * a = q * a - a := by grind
  have hq1 : 1 ≤ q := by
    rcases hc with hc | hc
    · omega
    · rcases Int.lt_or_le 0 q with h | h
      · omega
      · have : q = 0 := by omega
        subst this
        omega
  refine ⟨?_, by omega, hq1⟩
  rcases hc with hc | hc
  · have e3 : 4294967296 * y ≤ q * y := Int.mul_le_mul_of_nonneg_right hc (by omega)
    have e4 : (q - 1 + 1) * y = q * y := by grind
    omega
  · omega

/-- it is right -/
theorem dig_right (h1 : 9223372036854775808 ≤ y) (h2 : y < 18446744073709551616) (hr : r = u - q * (y / 4294967296)) (hc : q * (y % 4294967296) ≤ r * 4294967296 + un) : q * y ≤ u * 4294967296 + un := by
  have hy : y = (y / 4294967296) * 4294967296 + y % 4294967296 := by omega
  generalize ha : y / 4294967296 = a at *
  generalize hb : y % 4294967296 = b at *
  have e1 : q * y = q * a * 4294967296 + q * b := by rw [hy]; grind
  omega

theorem dig_break (h2 : y < 18446744073709551616) (hn : 0 ≤ un) (hq : q ≤ 4294967296) (hq0 : 0 ≤ q) (hr : 4294967296 ≤ r) : q * (y % 4294967296) ≤ r * 4294967296 + un := by
  have : q * (y % 4294967296) ≤ 4294967296 * (y % 4294967296) := Int.mul_le_mul_of_nonneg_right hq (by omega)
  omega

theorem blen_top {y : Int} (h1 : 9223372036854775808 ≤ y) (h2 : y < 18446744073709551616) : blen y = 64 := by
  have := (blen_iff (x := y) (by omega) 63).2 ⟨by simpa using h1, by simpa using h2⟩
  omega

theorem shl0 (x : Int) (h0 : 0 ≤ x) (h1 : x < 18446744073709551616) : IntKind.u64.wrap (x * 2 ^ min (Int.toNat 0) IntKind.u64.bits) = x := by
  rw [show (2 : Int) ^ min (Int.toNat 0) IntKind.u64.bits = 1 by decide, wu64]; omega
theorem shr64 (x : Int) (h0 : 0 ≤ x) (h1 : x < 18446744073709551616) : x.fdiv (2 ^ min (Int.toNat 64) IntKind.u64.bits) = 0 := by
  rw [show (2 : Int) ^ min (Int.toNat 64) IntKind.u64.bits = 18446744073709551616 by decide, shr_lit (by omega)]; omega
theorem or_0 (x : Int) (h0 : 0 ≤ x) (h1 : x < 18446744073709551616) : IntKind.u64.wrap ((BitVec.ofInt IntKind.u64.bits x ||| BitVec.ofInt IntKind.u64.bits 0).toNat : Int) = x := by
  show IntKind.u64.wrap ((BitVec.ofInt 64 x ||| BitVec.ofInt 64 0).toNat : Int) = x
  have e : BitVec.ofInt 64 x ||| BitVec.ofInt 64 0 = BitVec.ofInt 64 x := by
    rw [show BitVec.ofInt 64 0 = 0#64 by rfl]
    exact BitVec.or_zero
  rw [e, ofInt_toNat, wu64]; omega

/-- what the round sees: its words do not wrap -/
theorem dig_words (h1 : 9223372036854775808 ≤ y) (h2 : y < 18446744073709551616) (hn : 0 ≤ un) (hn' : un < 4294967296) (D : Dig y u un q r) :
    (q < 4294967296 → IntKind.u64.wrap (q * (y % 4294967296)) = q * (y % 4294967296)) ∧ IntKind.u64.wrap (IntKind.u64.wrap (4294967296 * r) + un) = r * 4294967296 + un ∧ IntKind.u64.wrap (r + y / 4294967296) = r + y / 4294967296 := by
  obtain ⟨d1, d2, d3, d4, d5, d6⟩ := D
  refine ⟨fun hq => ?_, ?_, ?_⟩
  · have e1 := Int.mul_nonneg d6 (show (0 : Int) ≤ y % 4294967296 by omega)
    have e2 : q * (y % 4294967296) ≤ 4294967295 * (y % 4294967296) := Int.mul_le_mul_of_nonneg_right (by omega) (by omega)
    rw [wu64]
    generalize q * (y % 4294967296) = p at *
    omega
  · rw [wu64, wu64]; omega
  · rw [wu64]; omega

/-- the digit, and what is left -/
structure Right (y u un q : Int) : Prop where
  le : q * y ≤ u * 4294967296 + un
  lt : u * 4294967296 + un < (q + 1) * y
  nn : 0 ≤ q
  small : q < 4294967296

theorem right_of (h1 : 9223372036854775808 ≤ y) (hu' : u < y) (hn' : un < 4294967296) (h3 : q * y ≤ u * 4294967296 + un) (h4 : u * 4294967296 + un < (q + 1) * y) (h5 : 0 ≤ q) : Right y u un q := by
  refine ⟨h3, h4, h5, ?_⟩
  rcases Int.lt_or_le q 4294967296 with h | h
  · exact h
  · exfalso
    have : 4294967296 * y ≤ q * y := Int.mul_le_mul_of_nonneg_right h (by omega)
    omega

theorem right_left (R : Right y u un q) : 0 ≤ u * 4294967296 + un - q * y ∧ u * 4294967296 + un - q * y < y := by
  have := R.lt
  have := R.le
  have e : (q + 1) * y = q * y + y := by grind
  omega

theorem right_wrap (h2 : y < 18446744073709551616) (R : Right y u un q) : IntKind.u64.wrap (IntKind.u64.wrap (IntKind.u64.wrap (u * 4294967296) + un) - IntKind.u64.wrap (q * y)) = u * 4294967296 + un - q * y := by
  have := right_left R
  rw [wu64, wu64, wu64, wu64]
  generalize q * y = p at *
  omega

theorem two_digits {u' un' q' : Int} (h0 : 0 < y) (hu : u' = u * 4294967296 + un - q * y) (R : Right y u un q) (R' : Right y u' un' q') :
    (u * 18446744073709551616 + (un * 4294967296 + un')) / y = q * 4294967296 + q' ∧ (u * 18446744073709551616 + (un * 4294967296 + un')) % y = u' * 4294967296 + un' - q' * y := by
  have l := right_left R'
  have e : u * 18446744073709551616 + (un * 4294967296 + un') = (u' * 4294967296 + un' - q' * y) + (q * 4294967296 + q') * y := by
    rw [hu]; grind
  rw [e]
  constructor
  · rw [Int.add_mul_ediv_right _ _ (by omega), Int.ediv_eq_zero_of_lt l.1 l.2]; omega
  · rw [Int.add_mul_emod_self_right, Int.emod_eq_of_lt l.1 l.2]
end
end Go.Proofs.Ytincnfjihffllaa.Ev
