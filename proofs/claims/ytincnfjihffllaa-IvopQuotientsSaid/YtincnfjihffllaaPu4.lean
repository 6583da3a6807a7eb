/- The product of two numbers: plain Lean. -/
import Derived.Test.YtincnfjihffllaaPu0
import Derived.Test.YtincnfjihffllaaPu2
namespace Go.Proofs.Ytincnfjihffllaa.Ev
open Go

theorem or_bit {h c : Int} (h0 : 0 ≤ h) (h1 : h < 9223372036854775808) (c0 : 0 ≤ c) (c1 : c < 2) :
    IntKind.u64.wrap ((BitVec.ofInt IntKind.u64.bits (IntKind.u64.wrap (h * 2)) ||| BitVec.ofInt IntKind.u64.bits c).toNat : Int) = h * 2 + c := by
  have e1 : IntKind.u64.wrap (h * 2) = h * 2 := by rw [wu64]; omega
  rw [e1]
  show IntKind.u64.wrap ((BitVec.ofInt 64 (h * 2) ||| BitVec.ofInt 64 c).toNat : Int) = _
  rw [BitVec.toNat_or]
  have a1 : (BitVec.ofInt 64 (h * 2)).toNat = h.toNat <<< 1 := by
    have := ofInt_toNat (h * 2)
    rw [Nat.shiftLeft_eq]
    omega
  have a2 : (BitVec.ofInt 64 c).toNat = c.toNat := by
    have := ofInt_toNat c
    omega
  rw [a1, a2, ← Nat.shiftLeft_add_eq_or_of_lt (by omega), Nat.shiftLeft_eq, wu64]
  omega

/-- of a word -/
def Num.ok (n : Num) : Prop := 0 ≤ n.m ∧ n.m < 18446744073709551616

theorem Num.zero_ok : Num.zero.ok := by unfold Num.ok Num.zero; decide
theorem Num.inf_ok (b : Bool) : (Num.inf b).ok := ⟨by simp [Num.inf], by simp [Num.inf]⟩
theorem Num.fair_ok {n : Num} (h : n.ok) : n.fair.ok := by
  unfold Num.fair; split
  · exact h
  · exact Num.zero_ok

/-- what may be: nought, finite, infinite -/
theorem Num.may_cases {n : Num} (h : n.may = true) : n = Num.zero ∨ (n.kind = 1 ∧ 9223372036854775808 ≤ n.m ∧ -1048576 ≤ n.e ∧ n.e ≤ 1048576) ∨ (n = Num.inf n.neg) := by
  unfold Num.may at h
  split at h
  · exact .inl (by simpa using h)
  · split at h
    · rename_i h1
      simp only [Bool.and_eq_true, decide_eq_true_eq] at h
      exact .inr (.inl ⟨h1, h.1.1, h.1.2, h.2⟩)
    · split at h
      · rename_i h1
        simp only [Bool.and_eq_true, decide_eq_true_eq] at h
        exact .inr (.inr (by rw [Num.eq_iff]; simp [Num.inf, h1, h.1, h.2]))
      · cases h

theorem Num.fair_may (n : Num) : n.fair.may = true := by
  unfold Num.fair; split
  · assumption
  · decide
theorem Num.fair_of_may {n : Num} (h : n.may = true) : n.fair = n := by unfold Num.fair; rw [if_pos h]
theorem Num.fair_fair (n : Num) : n.fair.fair = n.fair := Num.fair_of_may n.fair_may

/-- the product, of finite ones -/
def Num.mulF (a b : Num) (up : Bool) : Num :=
  if a.m * b.m < 170141183460469231731687303715884105728 then Num.grow (a.neg != b.neg) (a.m * b.m / 9223372036854775808) (a.e + b.e + 63) (decide (a.m * b.m % 9223372036854775808 ≠ 0)) (up != (a.neg != b.neg))
  else Num.grow (a.neg != b.neg) (a.m * b.m / 18446744073709551616) (a.e + b.e + 64) (decide (a.m * b.m % 18446744073709551616 ≠ 0)) (up != (a.neg != b.neg))

def Num.mul (a b : Num) (up : Bool) : Num :=
  if a.fair.kind = 0 ∨ b.fair.kind = 0 then Num.zero else if a.fair.kind = 2 ∨ b.fair.kind = 2 then Num.inf (a.fair.neg != b.fair.neg) else Num.mulF a.fair b.fair up

theorem Num.fin_of {n : Num} (h0 : n.fair.kind ≠ 0) (h2 : n.fair.kind ≠ 2) : n.fair.kind = 1 ∧ 9223372036854775808 ≤ n.fair.m ∧ -1048576 ≤ n.fair.e ∧ n.fair.e ≤ 1048576 := by
  rcases Num.may_cases n.fair_may with h | h | h
  · rw [h] at h0; exact absurd rfl h0
  · exact h
  · rw [h] at h2; exact absurd rfl h2

theorem Num.fin {t r : Num} (h : t = r) : t.kind = r.kind ∧ t.neg = r.neg ∧ t.m = r.m ∧ t.e = r.e ∧ True := by
  subst h; exact ⟨rfl, rfl, rfl, rfl, trivial⟩

theorem Num.mul_lo {A B : Num} {up : Bool} (hA : A.ok) (hB : B.ok) (fA : -1048576 ≤ A.e ∧ A.e ≤ 1048576) (fB : -1048576 ≤ B.e ∧ B.e ≤ 1048576) (h : A.m * B.m / 18446744073709551616 < 9223372036854775808) :
    Num.grow (A.neg != B.neg) (IntKind.u64.wrap ((BitVec.ofInt IntKind.u64.bits (IntKind.u64.wrap (A.m * B.m / 18446744073709551616 * 2 ^ min (Int.toNat 1) IntKind.u64.bits)) |||
      BitVec.ofInt IntKind.u64.bits ((A.m * B.m % 18446744073709551616).fdiv (2 ^ min (Int.toNat 63) IntKind.u64.bits))).toNat : Int))
      (IntKind.i64.wrap (IntKind.i64.wrap (IntKind.i64.wrap (A.e + B.e) + 64) - 1)) (decide (IntKind.u64.wrap (A.m * B.m % 18446744073709551616 * 2 ^ min (Int.toNat 1) IntKind.u64.bits) ≠ 0)) (up != (A.neg != B.neg)) = Num.mulF A B up := by
  have hp : 0 ≤ A.m * B.m := Int.mul_nonneg hA.1 hB.1
  unfold Num.mulF
  generalize A.m * B.m = p at *
  rw [if_pos (by omega), shl1, shr63, or_bit (by omega) h (by omega) (by omega)]
  have e1 : p / 18446744073709551616 * 2 + p % 18446744073709551616 / 9223372036854775808 = p / 9223372036854775808 := by omega
  have e2 : IntKind.i64.wrap (IntKind.i64.wrap (IntKind.i64.wrap (A.e + B.e) + 64) - 1) = A.e + B.e + 63 := by
    simp only [wi64]; omega
  have e3 : decide (IntKind.u64.wrap (p % 18446744073709551616 * 2) ≠ 0) = decide (p % 9223372036854775808 ≠ 0) := by
    rw [wu64]
    apply decide_eq_decide.2
    omega
  rw [e1, e2, e3]

theorem Num.mul_hi {A B : Num} {up : Bool} (hA : A.ok) (hB : B.ok) (fA : -1048576 ≤ A.e ∧ A.e ≤ 1048576) (fB : -1048576 ≤ B.e ∧ B.e ≤ 1048576) (h : ¬ A.m * B.m / 18446744073709551616 < 9223372036854775808) :
    Num.grow (A.neg != B.neg) (A.m * B.m / 18446744073709551616) (IntKind.i64.wrap (IntKind.i64.wrap (A.e + B.e) + 64)) (decide (A.m * B.m % 18446744073709551616 ≠ 0)) (up != (A.neg != B.neg)) = Num.mulF A B up := by
  have hp : 0 ≤ A.m * B.m := Int.mul_nonneg hA.1 hB.1
  unfold Num.mulF
  generalize A.m * B.m = p at *
  rw [if_neg (by omega)]
  have e2 : IntKind.i64.wrap (IntKind.i64.wrap (A.e + B.e) + 64) = A.e + B.e + 64 := by
    simp only [wi64]; omega
  rw [e2]
end Go.Proofs.Ytincnfjihffllaa.Ev
