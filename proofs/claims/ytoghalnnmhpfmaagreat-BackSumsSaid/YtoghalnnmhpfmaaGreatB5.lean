/- Texts of the proof, joined: Pu11 Pu7 Pu12 Pu13 Pu14 Pu15 Pu16 Pu17 Br5 Br6 R18 Pu20 Pu18 Pu21 Pu22 Pu23 C5 C6 C7 C8 C9 C9h C10 C11 C12a C13 C14 C15 C16 C17 C18 C19 C20 Ok1 C22 N1 N2 N4 N5 N6 Bn10 Ev28 -/
import Derived.Test.YtoghalnnmhpfmaaGreatB4
import Derived.Laws.Externs
set_option linter.unusedVariables false
set_option linter.unusedSimpArgs false

/- Sums and differences of two numbers, the parts: plain Lean. -/
namespace Go.Proofs.YtoghalnnmhpfmaaGreat.Ev
open Go

structure Dbl where
  hi : Int
  lo : Int
  cut : Bool
def Dbl.av (d : Dbl) : AV := .agg [.int .u64 (.s d.hi), .int .u64 (.s d.lo), .bool (.s d.cut)]
theorem Dbl.fin {t r : Dbl} (h : t = r) : t.hi = r.hi ∧ t.lo = r.lo ∧ t.cut = r.cut ∧ True := by subst h; exact ⟨rfl, rfl, rfl, trivial⟩

/-- 64 bits moved down by some: 128 bits, and was something cut off? -/
def lowerP (m k : Int) : Dbl := ⟨m * 18446744073709551616 / 2 ^ k.toNat / 18446744073709551616, m * 18446744073709551616 / 2 ^ k.toNat % 18446744073709551616, decide (m * 18446744073709551616 % 2 ^ k.toNat ≠ 0)⟩

theorem two_pos (n : Nat) : (0 : Int) < 2 ^ n := Int.pow_pos (by decide)
theorem two_64 {k : Int} (h : 0 ≤ k) (h' : k ≤ 64) : (18446744073709551616 : Int) = 2 ^ (64 - k).toNat * 2 ^ k.toNat := by
  rw [← Int.pow_add, show (64 - k).toNat + k.toNat = 64 by omega]; rfl
theorem lower_small {m k : Int} (hk : 0 ≤ k) (hk' : k < 64) : lowerP m k = ⟨m / 2 ^ k.toNat, m * 2 ^ (64 - k).toNat % 18446744073709551616, false⟩ := by
  have e := two_64 hk (by omega)
  have p := two_pos k.toNat
  have q := two_pos (64 - k).toNat
  have e1 : m * 18446744073709551616 / 2 ^ k.toNat = m * 2 ^ (64 - k).toNat := by
    rw [e, ← Int.mul_assoc]; exact Int.mul_ediv_cancel _ (by omega)
  have e2 : m * 18446744073709551616 % 2 ^ k.toNat = 0 := by
    rw [e, ← Int.mul_assoc]; exact Int.mul_emod_left _ _
  have e3 : m * 2 ^ (64 - k).toNat / 18446744073709551616 = m / 2 ^ k.toNat := by
    rw [e, Int.mul_comm m, Int.mul_ediv_mul_of_pos _ _ q]
  unfold lowerP
  rw [e1, e2, e3]; rfl
theorem lower_mid {m k : Int} (h0 : 0 ≤ m) (h1 : m < 18446744073709551616) (hk : 64 ≤ k) (hk' : k < 128) :
    lowerP m k = ⟨0, m / 2 ^ (k - 64).toNat, decide (m * 2 ^ (128 - k).toNat % 18446744073709551616 ≠ 0)⟩ := by
  have e : (2 : Int) ^ k.toNat = 18446744073709551616 * 2 ^ (k - 64).toNat := by
    rw [show k.toNat = 64 + (k - 64).toNat by omega, Int.pow_add]; rfl
  have p := two_pos (k - 64).toNat
  have q := two_pos (128 - k).toNat
  have e1 : m * 18446744073709551616 / 2 ^ k.toNat = m / 2 ^ (k - 64).toNat := by
    rw [e, Int.mul_comm m, Int.mul_ediv_mul_of_pos _ _ (by decide)]
  have e2 : m * 18446744073709551616 % 2 ^ k.toNat = 18446744073709551616 * (m % 2 ^ (k - 64).toNat) := by
    rw [e, Int.mul_comm m, Int.mul_emod_mul_of_pos _ _ (by decide)]
  have e3 : m * 2 ^ (128 - k).toNat % 18446744073709551616 = 2 ^ (128 - k).toNat * (m % 2 ^ (k - 64).toNat) := by
    have f : (18446744073709551616 : Int) = 2 ^ (128 - k).toNat * 2 ^ (k - 64).toNat := by
      rw [← Int.pow_add, show (128 - k).toNat + (k - 64).toNat = 64 by omega]; rfl
    rw [f, Int.mul_comm m, Int.mul_emod_mul_of_pos _ _ q]
  have l := Int.emod_nonneg m (show (2 : Int) ^ (k - 64).toNat ≠ 0 by omega)
  have e4 : m / 2 ^ (k - 64).toNat / 18446744073709551616 = 0 := Int.ediv_eq_zero_of_lt (Int.ediv_nonneg h0 (by omega)) (by have := Int.ediv_le_self (2 ^ (k - 64).toNat) h0; omega)
  have e5 : m / 2 ^ (k - 64).toNat % 18446744073709551616 = m / 2 ^ (k - 64).toNat := Int.emod_eq_of_lt (Int.ediv_nonneg h0 (by omega)) (by have := Int.ediv_le_self (2 ^ (k - 64).toNat) h0; omega)
  unfold lowerP
  rw [e1, e2, e3, e4, e5]
  congr 1
  apply decide_eq_decide.2
  constructor
  · intro g g'
    apply g
    rcases Int.mul_eq_zero.1 g' with g' | g'
    · omega
    · rw [g']; simp
  · intro g g'
    apply g
    have : m % 2 ^ (k - 64).toNat = 0 := by omega
    rw [this]; simp
theorem lower_far {m k : Int} (h0 : 0 < m) (h1 : m < 18446744073709551616) (hk : 128 ≤ k) : lowerP m k = ⟨0, 0, true⟩ := by
  have e : (340282366920938463463374607431768211456 : Int) ≤ 2 ^ k.toNat := by
    have : (2 : Int) ^ 128 ≤ 2 ^ k.toNat := by
      have := Nat.pow_le_pow_right (n := 2) (by omega) (show 128 ≤ k.toNat by omega)
      exact_mod_cast this
    exact this
  have e1 : m * 18446744073709551616 / 2 ^ k.toNat = 0 := Int.ediv_eq_zero_of_lt (by omega) (by omega)
  have e2 : m * 18446744073709551616 % 2 ^ k.toNat = m * 18446744073709551616 := Int.emod_eq_of_lt (by omega) (by omega)
  unfold lowerP
  rw [e1, e2]
  congr 1
  exact decide_eq_true (by omega)

theorem lowerP_nn (m k : Int) (h : 0 ≤ m) : 0 ≤ (lowerP m k).hi := by
  have p := two_pos k.toNat
  exact Int.ediv_nonneg (Int.ediv_nonneg (by omega) (by omega)) (by decide)

/-- the sum of two of one sign: 128 bits, or one more -/
def plusX (a b : Num) : Int := a.m * 18446744073709551616 + b.m * 18446744073709551616 / 2 ^ (a.e - b.e).toNat
def plusC (a b : Num) : Bool := decide (b.m * 18446744073709551616 % 2 ^ (a.e - b.e).toNat ≠ 0)
def plusP (a b : Num) (up : Bool) : Num :=
  if plusX a b < 340282366920938463463374607431768211456 then Num.grow a.neg (plusX a b / 18446744073709551616) a.e (plusC a b || decide (plusX a b % 18446744073709551616 ≠ 0)) (up != a.neg)
  else Num.grow a.neg (plusX a b / 36893488147419103232) (a.e + 1) (plusC a b || decide (plusX a b % 36893488147419103232 ≠ 0)) (up != a.neg)

theorem or_top {x : Int} (h0 : 0 ≤ x) (h1 : x < 9223372036854775808) : IntKind.u64.wrap ((BitVec.ofInt IntKind.u64.bits x ||| BitVec.ofInt IntKind.u64.bits 9223372036854775808).toNat : Int) = x + 9223372036854775808 := by
  show IntKind.u64.wrap ((BitVec.ofInt 64 x ||| BitVec.ofInt 64 9223372036854775808).toNat : Int) = _
  rw [BitVec.toNat_or]
  have a1 : (BitVec.ofInt 64 x).toNat = x.toNat := by
    have := ofInt_toNat x
    omega
  have a2 : (BitVec.ofInt 64 9223372036854775808).toNat = 1 <<< 63 := by decide
  rw [a1, a2, Nat.or_comm, ← Nat.shiftLeft_add_eq_or_of_lt (by omega), Nat.shiftLeft_eq, wu64]
  omega
theorem and_1 (x : Int) : IntKind.u64.wrap ((BitVec.ofInt IntKind.u64.bits x &&& BitVec.ofInt IntKind.u64.bits 1).toNat : Int) = x % 2 := by
  have := and_low x 1 (by omega)
  rw [show (2 ^ 1 - 1 : Int) = 1 by decide, show (2 ^ 1 : Int) = 2 by decide] at this
  show IntKind.u64.wrap ((BitVec.ofInt 64 x &&& BitVec.ofInt 64 1).toNat : Int) = _
  rw [this, wu64]; omega

section
variable {a b : Num} {up : Bool} {D : Dbl}
theorem plus_parts (ha : a.Fin) (hb : b.Fin) (hD : D = lowerP b.m (a.e - b.e)) :
    0 ≤ plusX a b ∧ a.m + D.hi = plusX a b / 18446744073709551616 ∧ D.lo = plusX a b % 18446744073709551616 ∧ D.cut = plusC a b ∧ plusX a b < 680564733841876926926749214863536422912 := by
  have := ha.lo; have := ha.hi; have := hb.lo; have := hb.hi
  have p := two_pos (a.e - b.e).toNat
  have n := Int.ediv_nonneg (show 0 ≤ b.m * 18446744073709551616 by omega) (Int.le_of_lt p)
  have l := Int.ediv_le_self (2 ^ (a.e - b.e).toNat) (show 0 ≤ b.m * 18446744073709551616 by omega)
  subst hD
  unfold lowerP plusX plusC
  dsimp only
  generalize b.m * 18446744073709551616 / 2 ^ (a.e - b.e).toNat = L at *
  refine ⟨by omega, by omega, by omega, rfl, by omega⟩
theorem plus_carry (ha : a.Fin) (hb : b.Fin) (hD : D = lowerP b.m (a.e - b.e)) (h : (a.m + D.hi + 0) / 18446744073709551616 ≠ 0) :
    plusP a b up = Num.grow a.neg (IntKind.u64.wrap ((BitVec.ofInt IntKind.u64.bits (((a.m + D.hi + 0) % 18446744073709551616).fdiv (2 ^ min (Int.toNat 1) IntKind.u64.bits)) ||| BitVec.ofInt IntKind.u64.bits 9223372036854775808).toNat : Int)) (IntKind.i64.wrap (a.e + 1))
      (D.cut || (decide (D.lo ≠ 0) || decide (IntKind.u64.wrap ((BitVec.ofInt IntKind.u64.bits ((a.m + D.hi + 0) % 18446744073709551616) &&& BitVec.ofInt IntKind.u64.bits 1).toNat : Int) ≠ 0))) (up != a.neg) := by
  obtain ⟨n, e1, e2, e3, l⟩ := plus_parts ha hb hD
  have := ha.elo; have := ha.ehi
  rw [e1] at h
  unfold plusP
  rw [e1, e2, e3, shr1, and_1]
  generalize plusX a b = X at *
  rw [if_neg (by omega), or_top (by omega) (by omega), show IntKind.i64.wrap (a.e + 1) = a.e + 1 by (rw [wi64]; omega),
    show (X / 18446744073709551616 + 0) % 18446744073709551616 / 2 + 9223372036854775808 = X / 36893488147419103232 by omega]
  congr 1
  cases plusC a b
  · simp only [Bool.false_or]
    rw [← Bool.decide_or]
    apply decide_eq_decide.2
    omega
  · rfl
theorem plus_flat (ha : a.Fin) (hb : b.Fin) (hD : D = lowerP b.m (a.e - b.e)) (h : ¬ (a.m + D.hi + 0) / 18446744073709551616 ≠ 0) :
    plusP a b up = Num.grow a.neg ((a.m + D.hi + 0) % 18446744073709551616) a.e (D.cut || decide (D.lo ≠ 0)) (up != a.neg) := by
  obtain ⟨n, e1, e2, e3, l⟩ := plus_parts ha hb hD
  rw [e1] at h
  unfold plusP
  rw [e1, e2, e3]
  generalize plusX a b = X at *
  rw [if_pos (by omega), show (X / 18446744073709551616 + 0) % 18446744073709551616 = X / 18446744073709551616 by omega]
end
end Go.Proofs.YtoghalnnmhpfmaaGreat.Ev

/- Division of two words by one: plain Lean. -/
namespace Go.Proofs.YtoghalnnmhpfmaaGreat.Ev
open Go

section
variable {y u un q r : Int}

theorem or_0 (x : Int) (h0 : 0 ≤ x) (h1 : x < 18446744073709551616) : IntKind.u64.wrap ((BitVec.ofInt IntKind.u64.bits x ||| BitVec.ofInt IntKind.u64.bits 0).toNat : Int) = x := by
  show IntKind.u64.wrap ((BitVec.ofInt 64 x ||| BitVec.ofInt 64 0).toNat : Int) = x
  have e : BitVec.ofInt 64 x ||| BitVec.ofInt 64 0 = BitVec.ofInt 64 x := by
    rw [show BitVec.ofInt 64 0 = 0#64 by rfl]
    exact BitVec.or_zero
  rw [e, ofInt_toNat, wu64]; omega

end
end Go.Proofs.YtoghalnnmhpfmaaGreat.Ev

/- The difference of two numbers: plain Lean. -/
namespace Go.Proofs.YtoghalnnmhpfmaaGreat.Ev
open Go

def minusZ (a b : Num) : Int := a.m * 18446744073709551616 - b.m * 18446744073709551616 / 2 ^ (a.e - b.e).toNat - (if plusC a b then 1 else 0)
def minusP (a b : Num) (up : Bool) : Num :=
  Num.grow a.neg (minusZ a b * 2 ^ (128 - blen (minusZ a b)).toNat / 18446744073709551616) (a.e - (128 - blen (minusZ a b))) (plusC a b || decide (minusZ a b * 2 ^ (128 - blen (minusZ a b)).toNat % 18446744073709551616 ≠ 0)) (up != a.neg)

theorem lowerP_lo (m k : Int) : 0 ≤ (lowerP m k).lo := Int.emod_nonneg _ (by decide)
theorem lowerP_lo2 (m k : Int) : (lowerP m k).lo < 18446744073709551616 := Int.emod_lt_of_pos _ (by decide)
theorem lowerP_hi2 (m k : Int) (h : 0 ≤ m) (h1 : m < 18446744073709551616) : (lowerP m k).hi < 18446744073709551616 := by
  have l := Int.ediv_le_self (2 ^ k.toNat) (show 0 ≤ m * 18446744073709551616 by omega)
  show m * 18446744073709551616 / 2 ^ k.toNat / 18446744073709551616 < _
  omega
theorem borrow_nn (p : Prop) [Decidable p] : (0 : Int) ≤ if p then 1 else 0 := by split <;> decide
theorem borrow_le (p : Prop) [Decidable p] : (if p then 1 else 0 : Int) ≤ 1 := by split <;> decide

theorem or_shift {h l s : Int} (h0 : 0 ≤ h) (h1 : h < 2 ^ (64 - s).toNat) (l0 : 0 ≤ l) (l1 : l < 18446744073709551616) (s0 : 0 < s) (s1 : s < 64) :
    IntKind.u64.wrap ((BitVec.ofInt IntKind.u64.bits (IntKind.u64.wrap (h * 2 ^ s.toNat)) ||| BitVec.ofInt IntKind.u64.bits (l / 2 ^ (64 - s).toNat)).toNat : Int) = h * 2 ^ s.toNat + l / 2 ^ (64 - s).toNat := by
  have p := two_pos s.toNat
  have q := two_pos (64 - s).toNat
  have e := two_64 (k := s) (by omega) (by omega)
  have m1 : h * 2 ^ s.toNat ≤ (2 ^ (64 - s).toNat - 1) * 2 ^ s.toNat := Int.mul_le_mul_of_nonneg_right (by omega) (by omega)
  have m2 : (2 ^ (64 - s).toNat - 1) * (2 : Int) ^ s.toNat = 18446744073709551616 - 2 ^ s.toNat := by rw [e]; grind
  have m3 : 0 ≤ h * 2 ^ s.toNat := Int.mul_nonneg h0 (by omega)
  have d0 : 0 ≤ l / 2 ^ (64 - s).toNat := Int.ediv_nonneg l0 (by omega)
  have d1 : l / 2 ^ (64 - s).toNat < 2 ^ s.toNat := by
    rw [Int.ediv_lt_iff_lt_mul q, Int.mul_comm, ← e]; exact l1
  have e1 : IntKind.u64.wrap (h * 2 ^ s.toNat) = h * 2 ^ s.toNat := by rw [wu64]; omega
  rw [e1]
  show IntKind.u64.wrap ((BitVec.ofInt 64 (h * 2 ^ s.toNat) ||| BitVec.ofInt 64 (l / 2 ^ (64 - s).toNat)).toNat : Int) = _
  rw [BitVec.toNat_or]
  generalize hx : h * 2 ^ s.toNat = x at *
  generalize l / 2 ^ (64 - s).toNat = y at *
  have a1 : (BitVec.ofInt 64 x).toNat = h.toNat <<< s.toNat := by
    have := ofInt_toNat x
    rw [Nat.shiftLeft_eq]
    have c : ((h.toNat * 2 ^ s.toNat : Nat) : Int) = x := by push_cast; rw [Int.toNat_of_nonneg h0]; exact hx
    omega
  have a2 : (BitVec.ofInt 64 y).toNat = y.toNat := by
    have := ofInt_toNat y
    omega
  have a3 : y.toNat < 2 ^ s.toNat := by
    have c : ((2 ^ s.toNat : Nat) : Int) = 2 ^ s.toNat := by push_cast; rfl
    omega
  rw [a1, a2, ← Nat.shiftLeft_add_eq_or_of_lt a3, Nat.shiftLeft_eq, wu64]
  have c : ((h.toNat * 2 ^ s.toNat + y.toNat : Nat) : Int) = x + y := by push_cast; rw [Int.toNat_of_nonneg h0, Int.toNat_of_nonneg d0, hx]
  rw [c]; omega

section
variable {a b : Num} {up : Bool} {D : Dbl}
theorem minus_parts (ha : a.Fin) (hb : b.Fin) (hk : b.e ≤ a.e) (hgt : b.e < a.e ∨ b.m < a.m) (hD : D = lowerP b.m (a.e - b.e)) {c lo br hi : Int} (hc : c = if D.cut then 1 else 0)
    (hlo : lo = (0 - D.lo - c) % 18446744073709551616) (hbr : br = if 0 < D.lo + c then 1 else 0) (hhi : hi = (a.m - D.hi - br) % 18446744073709551616) :
    0 < minusZ a b ∧ minusZ a b < 340282366920938463463374607431768211456 ∧ hi = minusZ a b / 18446744073709551616 ∧ lo = minusZ a b % 18446744073709551616 ∧ D.cut = plusC a b := by
  have := ha.lo; have := ha.hi; have := hb.lo; have := hb.hi
  have p := two_pos (a.e - b.e).toNat
  have n := Int.ediv_nonneg (show 0 ≤ b.m * 18446744073709551616 by omega) (Int.le_of_lt p)
  have l := Int.ediv_mul_le (b.m * 18446744073709551616) (show (2 : Int) ^ (a.e - b.e).toNat ≠ 0 by omega)
  have hcut : D.cut = plusC a b := by rw [hD]; rfl
  have hcc : c = if plusC a b then 1 else 0 := by rw [hc, hcut]
  have key : b.m * 18446744073709551616 / 2 ^ (a.e - b.e).toNat + c < a.m * 18446744073709551616 := by
    by_cases he : a.e = b.e
    · have e0 : (2 : Int) ^ (a.e - b.e).toNat = 1 := by rw [show (a.e - b.e).toNat = 0 by omega]; rfl
      have : plusC a b = false := by unfold plusC; rw [e0]; simp
      rw [this] at hcc
      rw [e0]
      simp at hcc ⊢
      omega
    · have two : (2 : Int) ≤ 2 ^ (a.e - b.e).toNat := by
        have := Nat.pow_le_pow_right (n := 2) (by omega) (show 1 ≤ (a.e - b.e).toNat by omega)
        exact_mod_cast this
      have := Int.mul_le_mul_of_nonneg_left two n
      have c1 : c ≤ 1 := by rw [hc]; split <;> decide
      omega
  have z : minusZ a b = a.m * 18446744073709551616 - b.m * 18446744073709551616 / 2 ^ (a.e - b.e).toNat - c := by unfold minusZ; rw [hcc]
  have h1 : D.hi = b.m * 18446744073709551616 / 2 ^ (a.e - b.e).toNat / 18446744073709551616 := by rw [hD]; rfl
  have h2 : D.lo = b.m * 18446744073709551616 / 2 ^ (a.e - b.e).toNat % 18446744073709551616 := by rw [hD]; rfl
  rw [z]
  have c0 : c = 0 ∨ c = 1 := by rw [hc]; split <;> simp
  generalize b.m * 18446744073709551616 / 2 ^ (a.e - b.e).toNat = L at *
  refine ⟨by omega, by omega, ?_, ?_, hcut⟩
  · rw [hhi, hbr, h1, h2]; split <;> omega
  · rw [hlo, h2]; omega

/-- the two words, moved up as far as may be -/
theorem minus_low {Z : Int} (h0 : 0 < Z) (hh : Z / 18446744073709551616 = 0) :
    128 - blen Z = 64 + (64 - blen (Z % 18446744073709551616)) ∧ Z * 2 ^ (128 - blen Z).toNat / 18446744073709551616 = Z % 18446744073709551616 * 2 ^ (64 - blen (Z % 18446744073709551616)).toNat ∧
      Z * 2 ^ (128 - blen Z).toNat % 18446744073709551616 = 0 ∧ 0 ≤ 64 - blen (Z % 18446744073709551616) ∧ Z % 18446744073709551616 * 2 ^ (64 - blen (Z % 18446744073709551616)).toNat < 18446744073709551616 := by
  have e : Z % 18446744073709551616 = Z := by omega
  rw [e]
  have bl := blen_le 64 (x := Z) (by omega)
  have bn := blen_nonneg Z
  have f : (2 : Int) ^ (128 - blen Z).toNat = 2 ^ (64 - blen Z).toNat * 18446744073709551616 := by
    rw [show (128 - blen Z).toNat = (64 - blen Z).toNat + 64 by omega, Int.pow_add]; rfl
  refine ⟨by omega, ?_, ?_, by omega, ?_⟩
  · rw [f, ← Int.mul_assoc, Int.mul_ediv_cancel _ (by decide)]
  · rw [f, ← Int.mul_assoc, Int.mul_emod_left]
  · obtain ⟨n, n1, n2, n3⟩ := blen_pos h0
    have g : (18446744073709551616 : Int) = 2 ^ (n + 1) * 2 ^ (64 - blen Z).toNat := by
      rw [← Int.pow_add, show n + 1 + (64 - blen Z).toNat = 64 by omega]; rfl
    rw [g]
    exact Int.mul_lt_mul_of_pos_right n3 (two_pos _)
theorem minus_high {Z : Int} (h0 : 0 < Z) (h1 : Z < 340282366920938463463374607431768211456) (hh : Z / 18446744073709551616 ≠ 0) :
    128 - blen Z = 64 - blen (Z / 18446744073709551616) ∧ 0 ≤ 64 - blen (Z / 18446744073709551616) ∧ 64 - blen (Z / 18446744073709551616) < 64 ∧ Z / 18446744073709551616 < 2 ^ (64 - (64 - blen (Z / 18446744073709551616))).toNat := by
  have d := blen_div (x := Z) 64 (by show (18446744073709551616 : Int) ≤ Z; omega)
  rw [show (2 : Int) ^ 64 = 18446744073709551616 by decide] at d
  have q0 : 0 < Z / 18446744073709551616 := by omega
  have bl := blen_le 64 (x := Z / 18446744073709551616) (by omega)
  obtain ⟨n, n1, n2, n3⟩ := blen_pos q0
  refine ⟨by omega, by omega, by omega, ?_⟩
  rw [show (64 - (64 - blen (Z / 18446744073709551616))).toNat = n + 1 by omega]
  exact n3
theorem shift_two {Z s : Int} (s0 : 0 ≤ s) (s1 : s < 64) : Z * 2 ^ s.toNat / 18446744073709551616 = Z / 18446744073709551616 * 2 ^ s.toNat + Z % 18446744073709551616 / 2 ^ (64 - s).toNat ∧
    Z * 2 ^ s.toNat % 18446744073709551616 = Z % 18446744073709551616 * 2 ^ s.toNat % 18446744073709551616 := by
  have p := two_pos s.toNat
  have q := two_pos (64 - s).toNat
  have e := two_64 (k := s) (by omega) (by omega)
  have z : Z = Z / 18446744073709551616 * 18446744073709551616 + Z % 18446744073709551616 := by omega
  generalize hZ : Z % 18446744073709551616 = l at *
  generalize hQ : Z / 18446744073709551616 = h at *
  have e1 : Z * 2 ^ s.toNat = l * 2 ^ s.toNat + (h * 2 ^ s.toNat) * 18446744073709551616 := by rw [z]; grind
  have e2 : l * 2 ^ s.toNat / 18446744073709551616 = l / 2 ^ (64 - s).toNat := by
    rw [e, Int.mul_ediv_mul_of_pos_left _ _ p]
  rw [e1]
  constructor
  · rw [Int.add_mul_ediv_right _ _ (by decide), e2]; omega
  · rw [Int.add_mul_emod_self_right]

theorem min_64 {s : Int} (h : s ≤ 64) : min s.toNat IntKind.u64.bits = s.toNat := by show min s.toNat 64 = _; omega
theorem minus_A_pos (ha : a.Fin) (z0 : 0 < minusZ a b) (hA : minusZ a b / 18446744073709551616 = 0) :
    minusP a b up = Num.grow a.neg (IntKind.u64.wrap ((BitVec.ofInt IntKind.u64.bits (IntKind.u64.wrap (minusZ a b % 18446744073709551616 * 2 ^ min (64 - blen (minusZ a b % 18446744073709551616)).toNat IntKind.u64.bits)) |||
      BitVec.ofInt IntKind.u64.bits (Int.fdiv 0 (2 ^ min (IntKind.i64.wrap (64 - (64 - blen (minusZ a b % 18446744073709551616)))).toNat IntKind.u64.bits))).toNat : Int))
      (IntKind.i64.wrap (IntKind.i64.wrap (a.e - 64) - (64 - blen (minusZ a b % 18446744073709551616)))) (plusC a b || decide (IntKind.u64.wrap (0 * 2 ^ min (64 - blen (minusZ a b % 18446744073709551616)).toNat IntKind.u64.bits) ≠ 0)) (up != a.neg) := by
  obtain ⟨e1, e2, e3, e4, e5⟩ := minus_low z0 hA
  have := ha.elo; have := ha.ehi
  have bn := blen_nonneg (minusZ a b % 18446744073709551616)
  unfold minusP
  rw [e2, e3, min_64 (by omega)]
  have q := two_pos (64 - blen (minusZ a b % 18446744073709551616)).toNat
  have nn := Int.mul_nonneg (Int.emod_nonneg (minusZ a b) (show (18446744073709551616 : Int) ≠ 0 by decide)) (Int.le_of_lt q)
  rw [show (Int.fdiv 0 (2 ^ min (IntKind.i64.wrap (64 - (64 - blen (minusZ a b % 18446744073709551616)))).toNat IntKind.u64.bits)) = 0 by rw [shr_lit (Int.le_of_lt (two_pos _)), Int.zero_ediv]]
  generalize hx : minusZ a b % 18446744073709551616 * 2 ^ (64 - blen (minusZ a b % 18446744073709551616)).toNat = x at *
  rw [show IntKind.u64.wrap x = x by (rw [wu64]; omega), show IntKind.u64.wrap ((BitVec.ofInt IntKind.u64.bits x ||| BitVec.ofInt IntKind.u64.bits 0).toNat : Int) = x from or_0 x nn e5]
  rw [show IntKind.i64.wrap (IntKind.i64.wrap (a.e - 64) - (64 - blen (minusZ a b % 18446744073709551616))) = a.e - (128 - blen (minusZ a b)) by (simp only [wi64]; omega), Int.zero_mul, show IntKind.u64.wrap 0 = 0 by decide]
theorem minus_A_zero (ha : a.Fin) (z0 : 0 < minusZ a b) (hA : minusZ a b / 18446744073709551616 = 0) (hp : ¬ 0 < 64 - blen (minusZ a b % 18446744073709551616)) :
    minusP a b up = Num.grow a.neg (minusZ a b % 18446744073709551616) (IntKind.i64.wrap (a.e - 64)) (plusC a b || decide ((0 : Int) ≠ 0)) (up != a.neg) := by
  obtain ⟨e1, e2, e3, e4, e5⟩ := minus_low z0 hA
  have := ha.elo; have := ha.ehi
  unfold minusP
  rw [e2, e3, show 64 - blen (minusZ a b % 18446744073709551616) = 0 by omega, show IntKind.i64.wrap (a.e - 64) = a.e - (128 - blen (minusZ a b)) by (simp only [wi64]; omega)]
  simp
theorem minus_B_pos (ha : a.Fin) (z0 : 0 < minusZ a b) (z1 : minusZ a b < 340282366920938463463374607431768211456) (hB : minusZ a b / 18446744073709551616 ≠ 0) (hp : 0 < 64 - blen (minusZ a b / 18446744073709551616)) :
    minusP a b up = Num.grow a.neg (IntKind.u64.wrap ((BitVec.ofInt IntKind.u64.bits (IntKind.u64.wrap (minusZ a b / 18446744073709551616 * 2 ^ min (64 - blen (minusZ a b / 18446744073709551616)).toNat IntKind.u64.bits)) |||
      BitVec.ofInt IntKind.u64.bits ((minusZ a b % 18446744073709551616).fdiv (2 ^ min (IntKind.i64.wrap (64 - (64 - blen (minusZ a b / 18446744073709551616)))).toNat IntKind.u64.bits))).toNat : Int))
      (IntKind.i64.wrap (a.e - (64 - blen (minusZ a b / 18446744073709551616)))) (plusC a b || decide (IntKind.u64.wrap (minusZ a b % 18446744073709551616 * 2 ^ min (64 - blen (minusZ a b / 18446744073709551616)).toNat IntKind.u64.bits) ≠ 0)) (up != a.neg) := by
  obtain ⟨e1, e2, e3, e4⟩ := minus_high z0 z1 hB
  have := ha.elo; have := ha.ehi
  unfold minusP
  rw [e1]
  generalize hs : 64 - blen (minusZ a b / 18446744073709551616) = s at *
  obtain ⟨f1, f2⟩ := shift_two (Z := minusZ a b) e2 e3
  rw [f1, f2, min_64 (by omega), show IntKind.i64.wrap (64 - s) = 64 - s by (simp only [wi64]; omega), min_64 (by omega), shr_lit (Int.le_of_lt (two_pos _)), or_shift (by omega) e4 (by omega) (by omega) hp e3, wu64,
    show IntKind.i64.wrap (a.e - s) = a.e - s by (simp only [wi64]; omega)]
theorem minus_B_zero (ha : a.Fin) (z0 : 0 < minusZ a b) (z1 : minusZ a b < 340282366920938463463374607431768211456) (hB : minusZ a b / 18446744073709551616 ≠ 0) (hp : ¬ 0 < 64 - blen (minusZ a b / 18446744073709551616)) :
    minusP a b up = Num.grow a.neg (minusZ a b / 18446744073709551616) a.e (plusC a b || decide (minusZ a b % 18446744073709551616 ≠ 0)) (up != a.neg) := by
  obtain ⟨e1, e2, e3, e4⟩ := minus_high z0 z1 hB
  have e0 : 128 - blen (minusZ a b) = 0 := by omega
  unfold minusP
  rw [e0]
  simp
end
end Go.Proofs.YtoghalnnmhpfmaaGreat.Ev

/- The sum of two numbers: plain Lean. -/
namespace Go.Proofs.YtoghalnnmhpfmaaGreat.Ev
open Go

def Num.addS (a b : Num) (up : Bool) : Num := if a.neg = b.neg then plusP a b up else if a.e = b.e ∧ a.m = b.m then Num.zero else minusP a b up
def Num.addF (a b : Num) (up : Bool) : Num := if a.e < b.e ∨ (a.e = b.e ∧ a.m < b.m) then Num.addS b a up else Num.addS a b up
def Num.add (a b : Num) (up : Bool) : Num :=
  if a.fair.kind = 2 ∧ b.fair.kind = 2 ∧ a.fair.neg ≠ b.fair.neg then Num.inf (!up)
  else if a.fair.kind = 2 ∨ b.fair.kind = 0 then a.fair else if b.fair.kind = 2 ∨ a.fair.kind = 0 then b.fair else Num.addF a.fair b.fair up
end Go.Proofs.YtoghalnnmhpfmaaGreat.Ev

/- The sum of intervals: plain Lean. -/
namespace Go.Proofs.YtoghalnnmhpfmaaGreat.Ev
open Go

theorem plusP_ok {a b : Num} (ha : a.Fin) (hb : b.Fin) (up : Bool) : (plusP a b up).ok := by
  obtain ⟨n, _, _, _, l⟩ := plus_parts ha hb rfl
  unfold plusP
  split <;> exact Num.grow_ok (by omega) (by omega)
theorem minusP_ok {a b : Num} (ha : a.Fin) (hb : b.Fin) (hk : b.e ≤ a.e) (hgt : b.e < a.e ∨ b.m < a.m) (up : Bool) : (minusP a b up).ok := by
  obtain ⟨z0, z1, _, _, _⟩ := minus_parts ha hb hk hgt rfl rfl rfl rfl rfl
  unfold minusP
  by_cases h : minusZ a b / 18446744073709551616 = 0
  · obtain ⟨_, e2, _, _, e5⟩ := minus_low z0 h
    rw [e2]
    exact Num.grow_ok (Int.mul_nonneg (by omega) (Int.le_of_lt (two_pos _))) e5
  · obtain ⟨e1, e2, e3, e4⟩ := minus_high z0 z1 h
    rw [e1]
    have q := two_pos (64 - blen (minusZ a b / 18446744073709551616)).toNat
    refine Num.grow_ok (Int.ediv_nonneg (Int.mul_nonneg (by omega) (by omega)) (by decide)) ?_
    generalize hs : 64 - blen (minusZ a b / 18446744073709551616) = s at *
    have e := two_64 (k := s) e2 (by omega)
    obtain ⟨f1, _⟩ := shift_two (Z := minusZ a b) e2 e3
    have q' := two_pos (64 - s).toNat
    have m1 : minusZ a b / 18446744073709551616 * 2 ^ s.toNat ≤ (2 ^ (64 - s).toNat - 1) * 2 ^ s.toNat := Int.mul_le_mul_of_nonneg_right (by omega) (by omega)
    have m2 : (2 ^ (64 - s).toNat - 1) * (2 : Int) ^ s.toNat = 18446744073709551616 - 2 ^ s.toNat := by rw [e]; grind
    have d1 : minusZ a b % 18446744073709551616 / 2 ^ (64 - s).toNat < 2 ^ s.toNat := by
      rw [Int.ediv_lt_iff_lt_mul q', Int.mul_comm, ← e]; omega
    rw [f1]; omega
theorem Num.addS_ok {a b : Num} (ha : a.Fin) (hb : b.Fin) (hk : b.e < a.e ∨ (b.e = a.e ∧ b.m ≤ a.m)) (up : Bool) : (Num.addS a b up).ok := by
  unfold Num.addS
  split
  · exact plusP_ok ha hb up
  · split
    · exact Num.zero_ok
    · exact minusP_ok ha hb (by omega) (by omega) up
theorem Num.add_ok {a b : Num} (ha : a.ok) (hb : b.ok) (up : Bool) : (Num.add a b up).ok := by
  unfold Num.add
  split
  · exact Num.inf_ok _
  · split
    · exact Num.fair_ok ha
    · split
      · exact Num.fair_ok hb
      · have fa := Num.fin_of (n := a) (by omega) (by omega)
        have fb := Num.fin_of (n := b) (by omega) (by omega)
        have FA : a.fair.Fin := ⟨fa.1, fa.2.1, (Num.fair_ok ha).2, fa.2.2.1, fa.2.2.2⟩
        have FB : b.fair.Fin := ⟨fb.1, fb.2.1, (Num.fair_ok hb).2, fb.2.2.1, fb.2.2.2⟩
        unfold Num.addF
        split
        · exact Num.addS_ok FB FA (by omega) up
        · exact Num.addS_ok FA FB (by omega) up

def Iv.addStep (p : Num × Num) (x : Iv) : Num × Num := (Num.add p.1 x.lo false, Num.add p.2 x.hi true)
def Iv.addEnds : List Iv → Num × Num
  | [] => (Num.zero, Num.zero)
  | x :: r => r.foldl Iv.addStep (x.lo, x.hi)
def Iv.addTo (l : List Iv) (i : Int) : Num × Num := Iv.addEnds (l.take i.toNat)
def Iv.add (l : List Iv) : Iv := if Iv.anyBad l then Iv.none else Iv.make (Iv.addEnds l).1 (Iv.addEnds l).2
theorem Iv.addTo_all (l : List Iv) : Iv.addTo l l.length = Iv.addEnds l := by simp [Iv.addTo]
theorem Iv.addTo_succ (l : List Iv) {i : Int} (h0 : 0 ≤ i) (h1 : i < l.length) :
    Iv.addTo l (i + 1) = if i = 0 then ((l.getD i.toNat Iv.none).lo, (l.getD i.toNat Iv.none).hi) else Iv.addStep (Iv.addTo l i) (l.getD i.toNat Iv.none) := by
  cases l with
  | nil => simp at h1; omega
  | cons x r =>
    by_cases hi : i = 0
    · subst hi; rfl
    · rw [if_neg hi]
      unfold Iv.addTo
      obtain ⟨k, hk⟩ : ∃ k : Nat, i.toNat = k + 1 := ⟨i.toNat - 1, by omega⟩
      have hl : k < r.length := by simp at h1; omega
      rw [show (i + 1).toNat = k + 1 + 1 by omega, hk, List.take_succ_cons, List.take_succ_cons]
      show (r.take (k + 1)).foldl _ _ = Iv.addStep ((r.take k).foldl _ _) _
      rw [List.take_add_one, List.getElem?_eq_getElem hl, Option.toList_some, List.foldl_append]
      simp [List.getD, hl]
theorem Iv.addEnds_ok {l : List Iv} (h : ∀ x ∈ l, x.lo.ok ∧ x.hi.ok) : (Iv.addEnds l).1.ok ∧ (Iv.addEnds l).2.ok := by
  have go : ∀ (r : List Iv) (p : Num × Num), (∀ x ∈ r, x.lo.ok ∧ x.hi.ok) → p.1.ok ∧ p.2.ok → (r.foldl Iv.addStep p).1.ok ∧ (r.foldl Iv.addStep p).2.ok := by
    intro r
    induction r with
    | nil => intro p _ hp; exact hp
    | cons x r ih =>
      intro p hr hp
      have hx := hr x (List.mem_cons_self ..)
      exact ih _ (fun y hy => hr y (List.mem_cons_of_mem _ hy)) ⟨Num.add_ok hp.1 hx.1 false, Num.add_ok hp.2 hx.2 true⟩
  cases l with
  | nil => exact ⟨Num.zero_ok, Num.zero_ok⟩
  | cons x r => exact go r _ (fun y hy => h y (List.mem_cons_of_mem _ hy)) (h x (List.mem_cons_self ..))
end Go.Proofs.YtoghalnnmhpfmaaGreat.Ev

/- Whole numbers as numbers are exact: plain Lean. -/
namespace Go.Proofs.YtoghalnnmhpfmaaGreat.Ev
open Go

end Go.Proofs.YtoghalnnmhpfmaaGreat.Ev

/- What a rounded number is: of all numbers on its side of the exact one the nearest. Plain Lean. -/
namespace Go.Proofs.YtoghalnnmhpfmaaGreat.Ev
open Go

/-- the nearest one on a side of t / c -/
structure Best (r : Num) (up : Bool) (t c : Int) : Prop where
  may : r.may = true
  ok : r.ok
  down : up = false → r ≠ Num.inf false ∧ (r = Num.inf true ∨ r.val * c ≤ t)
  dopt : up = false → ∀ s : Num, s.may = true → s.ok → s ≠ Num.inf false → s.val * c ≤ t → s.val ≤ r.val
  uopt : up = true → ∀ s : Num, s.may = true → s.ok → s ≠ Num.inf true → t ≤ s.val * c → r.val ≤ s.val
  hi : up = true → r ≠ Num.inf true ∧ (r = Num.inf false ∨ t ≤ r.val * c)

theorem Best.side {r : Num} {up : Bool} {t c : Int} (h : Best r up t c) : Side r up t c := ⟨h.may, h.ok, h.down, h.hi⟩

theorem Best.mono {r r' : Num} {up : Bool} {t c t' c' : Int} (h : Best r up t c) (h' : Best r' up t' c') (hc : 0 < c) (hc' : 0 < c') (ht : t * c' ≤ t' * c) : r.val ≤ r'.val := by
  have key : ∀ v : Int, v * c ≤ t → v * c' ≤ t' := by
    intro v hv
    have h1 : v * c * c' ≤ t * c' := Int.mul_le_mul_of_nonneg_right hv (Int.le_of_lt hc')
    refine Int.le_of_mul_le_mul_right (a := c) ?_ hc
    have : v * c' * c = v * c * c' := by grind
    omega
  have key2 : ∀ v : Int, t' ≤ v * c' → t ≤ v * c := by
    intro v hv
    have h1 : t' * c ≤ v * c' * c := Int.mul_le_mul_of_nonneg_right hv (Int.le_of_lt hc)
    refine Int.le_of_mul_le_mul_right (a := c') ?_ hc'
    have : v * c' * c = v * c * c' := by grind
    omega
  cases up with
  | false =>
    obtain ⟨d1, d2⟩ := h.down rfl
    rcases d2 with d2 | d2
    · have := (Num.val_le h'.may h'.ok).1
      rw [d2, Num.val_inf]
      simpa using this
    · exact h'.dopt rfl r h.may h.ok d1 (key _ d2)
  | true =>
    obtain ⟨d1, d2⟩ := h'.hi rfl
    rcases d2 with d2 | d2
    · have := (Num.val_le h.may h.ok).2
      rw [d2, Num.val_inf]
      simpa using this
    · exact h.uopt rfl r' h'.may h'.ok d1 (key2 _ d2)

theorem Best.uniq {r r' : Num} {up : Bool} {t c t' c' : Int} (h : Best r up t c) (h' : Best r' up t' c') (hc : 0 < c) (hc' : 0 < c') (ht : t * c' = t' * c) : r = r' :=
  Num.val_inj h.may h'.may h.ok h'.ok (Int.le_antisymm (h.mono h' hc hc' (by omega)) (h'.mono h hc' hc (by omega)))

/-- what is a number is not rounded -/
theorem Best.exact {r s : Num} {up : Bool} {t c : Int} (h : Best r up t c) (hc : 0 < c) (ms : s.may = true) (os : s.ok) (ks : s.kind ≠ 2) (ht : s.val * c = t) : r = s := by
  have n : ∀ b, s ≠ Num.inf b := fun b g => ks (by rw [g]; rfl)
  refine h.uniq (t' := s.val) (c' := 1) ⟨ms, os, fun _ => ⟨n _, .inr (by omega)⟩, fun _ x _ _ _ hx => by omega, fun _ x _ _ _ hx => by omega, fun _ => ⟨n _, .inr (by omega)⟩⟩ hc (by decide) (by omega)

/-- down is not above up -/
theorem Best.le {r r' : Num} {t c : Int} (h : Best r false t c) (h' : Best r' true t c) (hc : 0 < c) : r.val ≤ r'.val := by
  obtain ⟨d1, d2⟩ := h.down rfl
  obtain ⟨e1, e2⟩ := h'.hi rfl
  rcases d2 with d2 | d2
  · have := (Num.val_le h'.may h'.ok).1
    rw [d2, Num.val_inf]
    simpa using this
  · rcases e2 with e2 | e2
    · have := (Num.val_le h.may h.ok).2
      rw [e2, Num.val_inf]
      simpa using this
    · exact Int.le_of_mul_le_mul_right (a := c) (by omega) hc

/-! ### the grid of numbers of 64 bits -/
theorem pw_split {e f : Int} (h : -8388608 ≤ e) (h2 : e ≤ f) : pw f = 2 ^ (f - e).toNat * pw e := by
  have := pw_add (e := e) (f := f - e) h (by omega)
  rw [show e + (f - e) = f by omega] at this
  rw [this, Int.mul_comm]

theorem grid_dn {s : Num} (ms : s.may = true) (os : s.ok) (ks : s.kind ≠ 2) {m e : Int} (hm : 9223372036854775808 ≤ m) (he : -4194303 ≤ e) (h : s.W < (m + 1) * pw e) : s.W ≤ m * pw e := by
  have p := pw_pos e
  rcases Num.may3 ms os with k | k | k
  · rw [k, Num.zero_W]; exact Int.mul_nonneg (by omega) (Int.le_of_lt p)
  · rw [k.W] at h ⊢
    have := k.hi; have := k.elo
    rcases Int.lt_or_le s.e e with g | g
    · exact Int.le_of_lt (lex_lt hm k.hi (by omega) g)
    · rw [pw_split (by omega) g, ← Int.mul_assoc] at h ⊢
      have := Int.lt_of_mul_lt_mul_right h (Int.le_of_lt p)
      exact Int.mul_le_mul_of_nonneg_right (by omega) (Int.le_of_lt p)
  · rw [k] at ks; simp [Num.inf] at ks

theorem grid_up {s : Num} (ms : s.may = true) (os : s.ok) {m e : Int} (hm : 9223372036854775808 ≤ m) (he : -4194303 ≤ e) (h : m * pw e < s.W) : (m + 1) * pw e ≤ s.W := by
  have p := pw_pos e
  have up : ∀ (N f : Int), e ≤ f → m * pw e < N * pw f → (m + 1) * pw e ≤ N * pw f := by
    intro N f hf hN
    rw [pw_split (by omega) hf, ← Int.mul_assoc] at hN ⊢
    have := Int.lt_of_mul_lt_mul_right hN (Int.le_of_lt p)
    exact Int.mul_le_mul_of_nonneg_right (by omega) (Int.le_of_lt p)
  rcases Num.may3 ms os with k | k | k
  · rw [k, Num.zero_W] at h
    have := Int.mul_nonneg (show 0 ≤ m by omega) (Int.le_of_lt p)
    omega
  · rw [k.W] at h ⊢
    have := k.hi; have := k.elo
    rcases Int.lt_or_le s.e e with g | g
    · have := lex_lt hm k.hi (by omega) g
      omega
    · exact up _ _ g h
  · rw [k, Num.inf_W] at h ⊢
    rcases Int.lt_or_le 1048640 e with g | g
    · have h1 := pw_lt (e := 1048640) (by decide) g
      have h2 : 1 * pw e ≤ m * pw e := Int.mul_le_mul_of_nonneg_right (by omega) (Int.le_of_lt p)
      have := pw_pos 1048640
      omega
    · have := up 1 1048640 g (by omega)
      omega

theorem W_nn (s : Num) (ms : s.may = true) (os : s.ok) : 0 ≤ s.W := by
  rcases Num.may3 ms os with k | k | k
  · rw [k, Num.zero_W]; exact Int.le_refl _
  · exact Int.le_of_lt k.lt.1
  · rw [k, Num.inf_W]; exact Int.le_of_lt (pw_pos _)

theorem W_huge {s : Num} (ms : s.may = true) (os : s.ok) (ks : s.kind ≠ 2) : s.W ≤ 18446744073709551615 * pw 1048576 := by
  rcases Num.may3 ms os with k | k | k
  · rw [k, Num.zero_W]; exact Int.mul_nonneg (by decide) (Int.le_of_lt (pw_pos _))
  · rw [k.W]
    have h1 := k.hi; have h2 := k.lo; have h3 := k.elo; have h4 := k.ehi
    have h5 : s.m * pw s.e ≤ 18446744073709551615 * pw s.e := Int.mul_le_mul_of_nonneg_right (by omega) (Int.le_of_lt (pw_pos _))
    have h6 : 18446744073709551615 * pw s.e ≤ 18446744073709551615 * pw 1048576 := Int.mul_le_mul_of_nonneg_left (pw_mono (by omega) h4) (by decide)
    omega
  · rw [k] at ks; simp [Num.inf] at ks

theorem W_tiny {s : Num} (ms : s.may = true) (os : s.ok) (h : 0 < s.W) : 9223372036854775808 * pw (-1048576) ≤ s.W := by
  rcases Num.may3 ms os with k | k | k
  · rw [k, Num.zero_W] at h; omega
  · rw [k.W]
    have h1 := k.hi; have h2 := k.lo; have h3 := k.elo; have h4 := k.ehi
    have h5 : 9223372036854775808 * pw s.e ≤ s.m * pw s.e := Int.mul_le_mul_of_nonneg_right h2 (Int.le_of_lt (pw_pos _))
    have h6 : 9223372036854775808 * pw (-1048576) ≤ 9223372036854775808 * pw s.e := Int.mul_le_mul_of_nonneg_left (pw_mono (by decide) h3) (by decide)
    omega
  · rw [k, Num.inf_W]
    have h6 : pw (-1048576 + 63) ≤ pw 1048640 := pw_mono (by decide) (by decide)
    rw [pw_63 (by decide)] at h6
    omega

theorem mag_dn {neg cut : Bool} {m e : Int} (hm : 9223372036854775808 ≤ m) (hm' : m < 18446744073709551616) (he : -4194303 ≤ e) {s : Num} (ms : s.may = true) (os : s.ok) (ks : s.kind ≠ 2)
    (h : s.W < (m + 1) * pw e) : s.W ≤ (Num.grow neg m e cut false).W := by
  unfold Num.grow
  rw [if_neg (by simp)]
  unfold Num.bound
  by_cases h1 : 1048576 < e
  · rw [if_pos h1, if_neg (by decide)]
    exact W_huge ms os ks
  · rw [if_neg h1]
    by_cases h2 : e < -1048576
    · rw [if_pos h2, if_neg (by decide), Num.zero_W]
      rcases Int.lt_or_le 0 s.W with h3 | h3
      · have h4 := W_tiny ms os h3
        have h5 : (m + 1) * pw e ≤ 18446744073709551616 * pw e := Int.mul_le_mul_of_nonneg_right (by omega) (Int.le_of_lt (pw_pos _))
        have h6 := pw_lt (e := e) (f := -1048576) (by omega) h2
        omega
      · exact h3
    · rw [if_neg h2]
      have f : (Num.mk 1 neg m e).Fin := ⟨rfl, hm, hm', by show -1048576 ≤ e; omega, by show e ≤ 1048576; omega⟩
      rw [f.W]
      exact grid_dn ms os ks hm he h

theorem bound_up {neg : Bool} {m e : Int} (hm : 9223372036854775808 ≤ m) (hm' : m < 18446744073709551616) (he : -4194303 ≤ e) {s : Num} (ms : s.may = true) (os : s.ok)
    (h : m * pw e ≤ s.W) : (Num.bound neg m e true).W ≤ s.W := by
  unfold Num.bound
  by_cases h1 : 1048576 < e
  · rw [if_pos h1, if_pos rfl, Num.inf_W]
    have h2 : pw (1048577 + 63) ≤ pw (e + 63) := pw_mono (by decide) (by omega)
    rw [pw_63 (e := e) (by omega), show (1048577 + 63 : Int) = 1048640 by decide] at h2
    have h3 : 9223372036854775808 * pw e ≤ m * pw e := Int.mul_le_mul_of_nonneg_right hm (Int.le_of_lt (pw_pos _))
    omega
  · rw [if_neg h1]
    by_cases h2 : e < -1048576
    · rw [if_pos h2, if_pos rfl]
      have h3 : 0 < m * pw e := Int.mul_pos (by omega) (pw_pos _)
      exact W_tiny ms os (by omega)
    · rw [if_neg h2]
      have f : (Num.mk 1 neg m e).Fin := ⟨rfl, hm, hm', by show -1048576 ≤ e; omega, by show e ≤ 1048576; omega⟩
      rw [f.W]
      exact h

theorem mag_up {neg cut : Bool} {m e : Int} (hm : 9223372036854775808 ≤ m) (hm' : m < 18446744073709551616) (he : -4194303 ≤ e) (he' : e ≤ 4194303) {s : Num} (ms : s.may = true) (os : s.ok)
    (h : if cut then m * pw e < s.W else m * pw e ≤ s.W) : (Num.grow neg m e cut true).W ≤ s.W := by
  unfold Num.grow
  cases cut with
  | false =>
    rw [if_neg (by decide)] at h
    rw [if_neg (by decide)]
    exact bound_up hm hm' he ms os h
  | true =>
    rw [if_pos rfl] at h
    rw [if_pos (by decide)]
    have h' := grid_up ms os hm he h
    by_cases h0 : IntKind.u64.wrap (m + 1) = 0
    · rw [if_pos h0]
      have em : m + 1 = 18446744073709551616 := by rw [wu64] at h0; omega
      have ee : IntKind.i64.wrap (e + 1) = e + 1 := by rw [wi64]; omega
      rw [ee]
      have et : Num.top = 9223372036854775808 := rfl
      rw [et]
      refine bound_up (by omega) (by omega) (by omega) ms os ?_
      rw [pw_succ (by omega)]
      rw [em] at h'
      omega
    · rw [if_neg h0]
      have em : IntKind.u64.wrap (m + 1) = m + 1 := by rw [wu64] at h0 ⊢; omega
      have hlt : m + 1 < 18446744073709551616 := by rw [wu64] at h0; omega
      rw [em]
      exact bound_up (by omega) hlt (by omega) ms os h'

theorem Num.val_of {s : Num} (ms : s.may = true) (os : s.ok) : (0 ≤ s.val ∧ s.val = s.W) ∨ (s.val < 0 ∧ s.val = -s.W) := by
  have := W_nn s ms os
  unfold Num.val
  by_cases h : s.neg = true
  · rw [if_pos h]
    rcases Int.lt_or_le 0 s.W with g | g
    · right; omega
    · left; omega
  · rw [if_neg h]; left; omega

/-- THE RULE OF ROUNDING. -/
theorem grow_best {neg cut up : Bool} {m e T c : Int} (hm : 9223372036854775808 ≤ m) (hm' : m < 18446744073709551616) (he : -4194303 ≤ e) (he' : e ≤ 4194303) (hc : 0 < c)
    (h : if cut then m * pw e * c < T ∧ T < (m + 1) * pw e * c else T = m * pw e * c) : Best (Num.grow neg m e cut (up != neg)) up (if neg then -T else T) c := by
  have p := pw_pos e
  have p1 : 0 < m * pw e := Int.mul_pos (by omega) p
  have p2 : 0 < m * pw e * c := Int.mul_pos p1 hc
  have p3 : m * pw e * c ≤ T ∧ T < (m + 1) * pw e * c := by
    cases cut with
    | true => exact ⟨Int.le_of_lt h.1, h.2⟩
    | false =>
      have h : T = m * pw e * c := h
      have : (m + 1) * pw e * c = m * pw e * c + pw e * c := by grind
      have : 0 < pw e * c := Int.mul_pos p hc
      omega
  have S : Side (Num.grow neg m e cut (up != neg)) up (if neg then -T else T) c := by
    refine (grow_rnd (neg := neg) (cut := cut) (away := up != neg) hm hm' (e := e) he he').side p3.1 ?_ (by omega) (Int.le_of_lt hc)
    cases cut with
    | true => rw [if_pos rfl]; exact Int.le_of_lt p3.2
    | false => rw [if_neg (by decide)]; exact Int.le_of_eq h
  have dn : ∀ s : Num, s.may = true → s.ok → s.kind ≠ 2 → s.W * c ≤ T → s.W ≤ (Num.grow neg m e cut false).W := by
    intro s ms os ks hs
    refine mag_dn hm hm' he ms os ks ?_
    exact Int.lt_of_mul_lt_mul_right (a := c) (by omega) (Int.le_of_lt hc)
  have upw : ∀ s : Num, s.may = true → s.ok → T ≤ s.W * c → (Num.grow neg m e cut true).W ≤ s.W := by
    intro s ms os hs
    refine mag_up hm hm' he he' ms os ?_
    cases cut with
    | true => exact Int.lt_of_mul_lt_mul_right (a := c) (by have := h.1; omega) (Int.le_of_lt hc)
    | false =>
      have h : T = m * pw e * c := h
      exact Int.le_of_mul_le_mul_right (a := c) (by omega) hc
  have neg_mul : ∀ s : Num, -s.W * c = -(s.W * c) := fun s => Int.neg_mul _ _
  refine ⟨S.may, S.ok, S.down, ?_, ?_, S.up⟩
  · intro hu s ms os hs hv
    subst hu
    have R := grow_rnd (neg := neg) (cut := cut) (away := false != neg) hm hm' (e := e) he he'
    cases neg with
    | false =>
      have hr : (Num.grow false m e cut (false != false)).val = (Num.grow false m e cut false).W := by
        rcases R.neg with k | k
        · have : (Num.grow false m e cut (false != false)).W = 0 := by unfold Num.W; rw [if_pos k]
          rcases Num.val_of R.may R.ok with q | q
          · exact q.2
          · show _ = (Num.grow false m e cut (false != false)).W
            omega
        · unfold Num.val; rw [if_neg (by rw [k]; decide)]; rfl
      rw [hr]
      have r0 := W_nn _ R.may R.ok
      rcases Num.val_of ms os with q | q
      · rw [q.2]
        refine dn s ms os ?_ (by rw [← q.2]; exact hv)
        intro k
        have e1 := Num.inf_of ms os k
        cases hn : s.neg with
        | false => exact hs (by rw [e1, hn])
        | true =>
          rw [e1, hn, Num.val_inf] at q
          have := pw_pos 1048640
          simp at q
          omega
      · have : 0 ≤ s.W := W_nn s ms os
        show s.val ≤ (Num.grow false m e cut (false != false)).W
        omega
    | true =>
      have hr : (Num.grow true m e cut (false != true)).val = -(Num.grow true m e cut true).W := by
        rcases R.neg with k | k
        · exact absurd k (R.up rfl).1
        · unfold Num.val; rw [if_pos k]; rfl
      rw [hr]
      simp only [if_true] at hv
      rcases Num.val_of ms os with q | q
      · exfalso
        have := Int.mul_nonneg q.1 (Int.le_of_lt hc)
        omega
      · rw [q.2] at hv ⊢
        rw [neg_mul] at hv
        have := upw s ms os (by omega)
        omega
  · intro hu s ms os hs hv
    subst hu
    have R := grow_rnd (neg := neg) (cut := cut) (away := true != neg) hm hm' (e := e) he he'
    cases neg with
    | false =>
      have hr : (Num.grow false m e cut (true != false)).val = (Num.grow false m e cut true).W := by
        rcases R.neg with k | k
        · exact absurd k (R.up rfl).1
        · unfold Num.val; rw [if_neg (by rw [k]; decide)]; rfl
      rw [hr]
      simp only [Bool.false_eq_true, if_false] at hv
      rcases Num.val_of ms os with q | q
      · rw [q.2] at hv ⊢
        exact upw s ms os hv
      · exfalso
        have := Int.mul_nonneg (W_nn s ms os) (Int.le_of_lt hc)
        rw [q.2, neg_mul] at hv
        omega
    | true =>
      have hr : (Num.grow true m e cut (true != true)).val = -(Num.grow true m e cut false).W := by
        rcases R.neg with k | k
        · have : (Num.grow true m e cut (true != true)).W = 0 := by unfold Num.W; rw [if_pos k]
          rcases Num.val_of R.may R.ok with q | q
          · show _ = -(Num.grow true m e cut (true != true)).W
            omega
          · exact q.2
        · unfold Num.val; rw [if_pos k]; rfl
      rw [hr]
      have r0 := W_nn _ R.may R.ok
      simp only [if_true] at hv
      rcases Num.val_of ms os with q | q
      · have : 0 ≤ s.W := W_nn s ms os
        show -(Num.grow true m e cut (true != true)).W ≤ s.val
        omega
      · rw [q.2] at hv ⊢
        rw [neg_mul] at hv
        have := dn s ms os (by
          intro k
          have e1 := Num.inf_of ms os k
          cases hn : s.neg with
          | true => exact hs (by rw [e1, hn])
          | false =>
            rw [e1, hn, Num.val_inf] at q
            have := pw_pos 1048640
            simp at q
            omega) (by omega)
        omega
end Go.Proofs.YtoghalnnmhpfmaaGreat.Ev

/- Products, quotients and sums are rounded as they ought to be: plain Lean. -/
namespace Go.Proofs.YtoghalnnmhpfmaaGreat.Ev
open Go

theorem cut_div {N d P e c : Int} (hd : 0 < d) (hP : 0 < P) (hs : pw e * c = d * P) :
    if decide (N % d ≠ 0) = true then N / d * pw e * c < N * P ∧ N * P < (N / d + 1) * pw e * c else N * P = N / d * pw e * c := by
  have e1 := Int.mul_ediv_add_emod N d
  have e2 := Int.emod_nonneg N (show d ≠ 0 by omega)
  have e3 := Int.emod_lt_of_pos N hd
  have a1 : ∀ q : Int, q * pw e * c = d * q * P := fun q => by rw [Int.mul_assoc, hs]; grind
  rw [a1, a1]
  split
  · rename_i h
    simp only [decide_eq_true_eq] at h
    constructor
    · exact Int.mul_lt_mul_of_pos_right (by omega) hP
    · refine Int.mul_lt_mul_of_pos_right ?_ hP
      have : d * (N / d + 1) = d * (N / d) + d := by grind
      omega
  · rename_i h
    simp only [decide_eq_true_eq, Classical.not_not] at h
    congr 1
    omega

/-- rounded to 64 bits: N / d, of a scale -/
theorem grow_div {neg up : Bool} {N d P e c : Int} (hd : 0 < d) (hP : 0 < P) (hs : pw e * c = d * P) (hc : 0 < c) (h1 : 9223372036854775808 ≤ N / d) (h2 : N / d < 18446744073709551616) (he : -4194303 ≤ e) (he' : e ≤ 4194303) :
    Best (Num.grow neg (N / d) e (decide (N % d ≠ 0)) (up != neg)) up (if neg then -(N * P) else N * P) c :=
  grow_best h1 h2 he he' hc (cut_div hd hP hs)

theorem mulF_best {a b : Num} (ha : a.Fin) (hb : b.Fin) (up : Bool) : Best (Num.mulF a b up) up (a.val * b.val) (pw 0) := by
  rw [Num.Fin.val_mul]
  have := ha.lo; have := ha.hi; have := ha.elo; have := ha.ehi
  have := hb.lo; have := hb.hi; have := hb.elo; have := hb.ehi
  have m1 : 9223372036854775808 * 9223372036854775808 ≤ a.m * b.m := Int.mul_le_mul ha.lo hb.lo (by decide) (by omega)
  have m2 : a.m * b.m ≤ 18446744073709551615 * 18446744073709551615 := Int.mul_le_mul (by omega) (by omega) (by omega) (by decide)
  have eW : a.W * b.W = a.m * b.m * (pw (a.e + b.e) * pw 0) := by
    rw [ha.W, hb.W]
    have e := pw_mul (e := a.e) (f := b.e) (by omega) (by omega) (by omega)
    have e1 : a.m * pw a.e * (b.m * pw b.e) = a.m * b.m * (pw a.e * pw b.e) := by grind
    rw [e1, e]; grind
  have p := pw_pos (a.e + b.e)
  have p0 := pw_pos 0
  have pp := Int.mul_pos p p0
  unfold Num.mulF
  rw [eW]
  generalize a.m * b.m = p' at *
  split
  · exact grow_div (by decide) pp (by rw [pw_63 (by omega)]; grind) p0 (by omega) (by omega) (by omega) (by omega)
  · exact grow_div (by decide) pp (by rw [pw_64 (by omega)]; grind) p0 (by omega) (by omega) (by omega) (by omega)

theorem div_bounds {N d : Int} (hd : 0 < d) {l u : Int} (h1 : d * l ≤ N) (h2 : N < d * u) : l ≤ N / d ∧ N / d < u :=
  ⟨(Int.le_ediv_iff_mul_le hd).2 (by rw [Int.mul_comm]; exact h1), Int.ediv_lt_of_lt_mul hd (by rw [Int.mul_comm]; exact h2)⟩

theorem divF_best {a b : Num} (ha : a.Fin) (hb : b.Fin) (up : Bool) : Best (Num.divF a b up) up (if (a.neg != b.neg) then -(a.W * pw 0) else a.W * pw 0) b.W := by
  have := ha.lo; have := ha.hi; have := ha.elo; have := ha.ehi
  have := hb.lo; have := hb.hi; have := hb.elo; have := hb.ehi
  have p0 := pw_pos 0
  have hb0 : 0 < b.m := by omega
  unfold Num.divF
  split
  · rename_i h
    have ET : a.W * pw 0 = (a.m * 9223372036854775808) * (pw (a.e - 63) * pw 0) := by
      rw [ha.W]
      have e := pw_63 (e := a.e - 63) (by omega)
      rw [show a.e - 63 + 63 = a.e by omega] at e
      rw [e]; grind
    have pp : 0 < pw (a.e - 63) * pw 0 := Int.mul_pos (pw_pos _) p0
    obtain ⟨q1, q2⟩ := div_bounds (N := a.m * 9223372036854775808) hb0 (l := 9223372036854775808) (u := 18446744073709551616) (by omega) (by omega)
    rw [ET]
    refine grow_div hb0 pp ?_ hb.lt.1 q1 q2 (by omega) (by omega)
    rw [hb.W]
    have e := pw_mul (e := b.e) (f := a.e - b.e - 63) (by omega) (by omega) (by omega)
    rw [show b.e + (a.e - b.e - 63) = a.e - 63 by omega] at e
    have e' : pw (a.e - b.e - 63) * (b.m * pw b.e) = b.m * (pw b.e * pw (a.e - b.e - 63)) := by grind
    rw [e', e]; grind
  · rename_i h
    have ET : a.W * pw 0 = (a.m * 18446744073709551616) * (pw (a.e - 64) * pw 0) := by
      rw [ha.W]
      have e := pw_64 (e := a.e - 64) (by omega)
      rw [show a.e - 64 + 64 = a.e by omega] at e
      rw [e]; grind
    have pp : 0 < pw (a.e - 64) * pw 0 := Int.mul_pos (pw_pos _) p0
    obtain ⟨q1, q2⟩ := div_bounds (N := a.m * 18446744073709551616) hb0 (l := 9223372036854775808) (u := 18446744073709551616) (by omega) (by omega)
    rw [ET]
    refine grow_div hb0 pp ?_ hb.lt.1 q1 q2 (by omega) (by omega)
    rw [hb.W]
    have e := pw_mul (e := b.e) (f := a.e - b.e - 64) (by omega) (by omega) (by omega)
    rw [show b.e + (a.e - b.e - 64) = a.e - 64 by omega] at e
    have e' : pw (a.e - b.e - 64) * (b.m * pw b.e) = b.m * (pw b.e * pw (a.e - b.e - 64)) := by grind
    rw [e', e]; grind

/-! ### sums -/
/-- what is cut off in two steps is what is cut off in one -/
theorem cut_two {N K D : Int} (hK : 0 < K) (hD : 0 < D) : N / K / D = N / (K * D) ∧ (decide (N % K ≠ 0) || decide (N / K % D ≠ 0)) = decide (N % (K * D) ≠ 0) := by
  have h0 : N / K / D = N / (K * D) := Int.ediv_ediv_of_nonneg (Int.le_of_lt hK)
  refine ⟨h0, ?_⟩
  have h : N % (K * D) = N % K + K * (N / K % D) := by
    have e1 := Int.mul_ediv_add_emod N K
    have e2 := Int.mul_ediv_add_emod (N / K) D
    have e3 := Int.mul_ediv_add_emod N (K * D)
    rw [h0] at e2
    have e4 : K * (D * (N / (K * D)) + N / K % D) = K * D * (N / (K * D)) + K * (N / K % D) := by rw [Int.mul_add, Int.mul_assoc]
    rw [e2] at e4
    omega
  have h1 := Int.emod_nonneg N (show K ≠ 0 by omega)
  have h2 := Int.emod_nonneg (N / K) (show D ≠ 0 by omega)
  have h3 : 0 ≤ K * (N / K % D) := Int.mul_nonneg (Int.le_of_lt hK) h2
  have h4 : N / K % D ≠ 0 → 0 < K * (N / K % D) := fun g => Int.mul_pos hK (by omega)
  rw [← Bool.decide_or, decide_eq_decide, h]
  generalize N / K % D = y at *
  by_cases g : y = 0
  · subst g; simp
  · have := h4 g
    constructor
    · intro _; omega
    · intro _; exact .inr g

theorem plus_eq {a b : Num} : plusX a b = (a.m * 2 ^ (a.e - b.e).toNat + b.m) * 18446744073709551616 / 2 ^ (a.e - b.e).toNat ∧ plusC a b = decide ((a.m * 2 ^ (a.e - b.e).toNat + b.m) * 18446744073709551616 % 2 ^ (a.e - b.e).toNat ≠ 0) := by
  have p := two_pos (a.e - b.e).toNat
  have e : (a.m * 2 ^ (a.e - b.e).toNat + b.m) * 18446744073709551616 = b.m * 18446744073709551616 + a.m * 18446744073709551616 * 2 ^ (a.e - b.e).toNat := by grind
  unfold plusX plusC
  rw [e]
  constructor
  · rw [Int.add_mul_ediv_right _ _ (by omega), Int.add_comm]
  · rw [Int.add_mul_emod_self_right]

theorem same_div {N M K D : Int} (hM : 0 < M) : N * M / (K * (M * D)) = N / (K * D) ∧ decide (N * M % (K * (M * D)) ≠ 0) = decide (N % (K * D) ≠ 0) := by
  have e : K * (M * D) = M * (K * D) := Int.mul_left_comm ..
  rw [e, Int.mul_comm N M]
  constructor
  · exact Int.mul_ediv_mul_of_pos _ _ hM
  · rw [Int.mul_emod_mul_of_pos _ _ hM, decide_eq_decide]
    constructor
    · intro h g; exact h (by rw [g]; simp)
    · intro h g
      rcases Int.mul_eq_zero.1 g with q | q
      · omega
      · exact h q

theorem plusP_best {a b : Num} (ha : a.Fin) (hb : b.Fin) (hk : b.e ≤ a.e) (hs : a.neg = b.neg) (up : Bool) : Best (plusP a b up) up (a.val + b.val) 1 := by
  have := ha.lo; have := ha.hi; have := ha.elo; have := ha.ehi
  have := hb.lo; have := hb.hi; have := hb.elo; have := hb.ehi
  have p := two_pos (a.e - b.e).toNat
  have pb := pw_pos b.e
  have ea := pw_split (e := b.e) (f := a.e) (by omega) hk
  have hv : a.val + b.val = if a.neg then -((a.m * 2 ^ (a.e - b.e).toNat + b.m) * pw b.e) else (a.m * 2 ^ (a.e - b.e).toNat + b.m) * pw b.e := by
    unfold Num.val
    rw [← hs, ha.W, hb.W, ea]
    cases a.neg <;> simp <;> grind
  rw [hv]
  unfold plusP
  rw [plus_eq.1, plus_eq.2]
  generalize hN : a.m * 2 ^ (a.e - b.e).toNat + b.m = N at *
  have b1 : 2 ^ (a.e - b.e).toNat * 9223372036854775808 ≤ N := by
    have : 9223372036854775808 * 2 ^ (a.e - b.e).toNat ≤ a.m * 2 ^ (a.e - b.e).toNat := Int.mul_le_mul_of_nonneg_right (by omega) (Int.le_of_lt p)
    omega
  have b2 : N < 2 ^ (a.e - b.e).toNat * 36893488147419103232 := by
    have h1 : a.m * 2 ^ (a.e - b.e).toNat ≤ 18446744073709551615 * 2 ^ (a.e - b.e).toNat := Int.mul_le_mul_of_nonneg_right (by omega) (Int.le_of_lt p)
    omega
  generalize (2 : Int) ^ (a.e - b.e).toNat = K at *
  obtain ⟨q1, q2⟩ := cut_two (N := N * 18446744073709551616) (K := K) (D := 18446744073709551616) p (by decide)
  obtain ⟨q3, q4⟩ := cut_two (N := N * 18446744073709551616) (K := K) (D := 36893488147419103232) p (by decide)
  obtain ⟨r1, r2⟩ := same_div (N := N) (M := 18446744073709551616) (K := K) (D := 1) (by decide)
  obtain ⟨r3, r4⟩ := same_div (N := N) (M := 18446744073709551616) (K := K) (D := 2) (by decide)
  rw [show (18446744073709551616 : Int) * 1 = 18446744073709551616 by decide] at r1 r2
  rw [show (18446744073709551616 : Int) * 2 = 36893488147419103232 by decide] at r3 r4
  rw [q2, q4, q1, q3, r1, r2, r3, r4, Int.mul_one]
  split
  · rename_i h
    have h3 : N / K < 18446744073709551616 := by
      rw [← Int.mul_one K, ← r1, ← q1]
      exact Int.ediv_lt_of_lt_mul (by decide) (by omega)
    exact grow_div p pb (by rw [ea]; grind) (by decide) (div_bounds p b1 b2).1 h3 (by omega) (by omega)
  · rename_i h
    have h3 : 9223372036854775808 ≤ N / (K * 2) := by
      rw [← r3, ← q3]
      exact (Int.le_ediv_iff_mul_le (by decide)).2 (by omega)
    exact grow_div (by omega) pb (by rw [pw_succ (by omega), ea]; grind) (by decide) h3 (Int.ediv_lt_of_lt_mul (by omega) (by omega)) (by omega) (by omega)

theorem neg_div {x K : Int} (hK : 0 < K) : (-x) / K = -(x / K) - (if decide (x % K ≠ 0) = true then 1 else 0) ∧ decide ((-x) % K ≠ 0) = decide (x % K ≠ 0) := by
  have e1 := Int.mul_ediv_add_emod x K
  have e2 := Int.emod_nonneg x (show K ≠ 0 by omega)
  have e3 := Int.emod_lt_of_pos x hK
  have f1 := Int.mul_ediv_add_emod (-x) K
  have f2 := Int.emod_nonneg (-x) (show K ≠ 0 by omega)
  have f3 := Int.emod_lt_of_pos (-x) hK
  have g : K * (x / K + (-x) / K) = -(x % K + (-x) % K) := by rw [Int.mul_add]; omega
  generalize x / K = p at *
  generalize (-x) / K = q at *
  generalize x % K = r at *
  generalize (-x) % K = s at *
  have h1 : p + q ≤ 0 := by
    rcases Int.lt_or_le 0 (p + q) with h | h
    · have := Int.mul_le_mul_of_nonneg_left (c := K) (show 1 ≤ p + q by omega) (by omega)
      omega
    · exact h
  have h2 : -1 ≤ p + q := by
    rcases Int.lt_or_le (p + q) (-1) with h | h
    · have := Int.mul_le_mul_of_nonneg_left (c := K) (show p + q ≤ -2 by omega) (by omega)
      omega
    · exact h
  rcases (show p + q = 0 ∨ p + q = -1 by omega) with h | h
  · rw [h] at g
    simp only [Int.mul_zero] at g
    have hr : r = 0 := by omega
    have hs : s = 0 := by omega
    subst hr; subst hs
    exact ⟨by simp; omega, rfl⟩
  · rw [h] at g
    have hr : r ≠ 0 := by intro hr; omega
    have hs : s ≠ 0 := by intro hs; omega
    exact ⟨by simp [hr]; omega, by simp [hr, hs]⟩

theorem minus_eq {a b : Num} : minusZ a b = (a.m * 2 ^ (a.e - b.e).toNat - b.m) * 18446744073709551616 / 2 ^ (a.e - b.e).toNat ∧
    plusC a b = decide ((a.m * 2 ^ (a.e - b.e).toNat - b.m) * 18446744073709551616 % 2 ^ (a.e - b.e).toNat ≠ 0) := by
  have p := two_pos (a.e - b.e).toNat
  have e : (a.m * 2 ^ (a.e - b.e).toNat - b.m) * 18446744073709551616 = -(b.m * 18446744073709551616) + a.m * 18446744073709551616 * 2 ^ (a.e - b.e).toNat := by grind
  obtain ⟨n1, n2⟩ := neg_div (x := b.m * 18446744073709551616) p
  unfold minusZ plusC
  rw [e]
  constructor
  · rw [Int.add_mul_ediv_right _ _ (by omega), n1]
    omega
  · rw [Int.add_mul_emod_self_right, n2]

theorem minusP_best {a b : Num} (ha : a.Fin) (hb : b.Fin) (hk : b.e ≤ a.e) (hgt : b.e < a.e ∨ b.m < a.m) (hs : a.neg ≠ b.neg) (up : Bool) : Best (minusP a b up) up (a.val + b.val) 1 := by
  have := ha.lo; have := ha.hi; have := ha.elo; have := ha.ehi
  have := hb.lo; have := hb.hi; have := hb.elo; have := hb.ehi
  have p := two_pos (a.e - b.e).toNat
  have ea := pw_split (e := b.e) (f := a.e) (by omega) hk
  have hv : a.val + b.val = if a.neg then -((a.m * 2 ^ (a.e - b.e).toNat - b.m) * 18446744073709551616 * pw (b.e - 64)) else (a.m * 2 ^ (a.e - b.e).toNat - b.m) * 18446744073709551616 * pw (b.e - 64) := by
    have e64 := pw_64 (e := b.e - 64) (by omega)
    rw [show b.e - 64 + 64 = b.e by omega] at e64
    have : (a.m * 2 ^ (a.e - b.e).toNat - b.m) * 18446744073709551616 * pw (b.e - 64) = a.m * pw a.e - b.m * pw b.e := by rw [ea, e64]; grind
    rw [this]
    unfold Num.val
    rw [ha.W, hb.W]
    have hbn : b.neg = !a.neg := by cases h : a.neg <;> cases h2 : b.neg <;> simp_all
    rw [hbn]
    cases a.neg <;> simp <;> omega
  obtain ⟨z0, z1, _, _, _⟩ := minus_parts ha hb hk hgt rfl rfl rfl rfl rfl
  obtain ⟨n, k1, k2, k3⟩ := blen_pos z0
  have bl := blen_le 128 (x := minusZ a b) (by exact z1)
  have pb := pw_pos (b.e - 64)
  rw [hv]
  unfold minusP
  obtain ⟨hZ, hC⟩ := minus_eq (a := a) (b := b)
  have hKN : a.m * 2 ^ (a.e - b.e).toNat - b.m ≥ 9223372036854775808 * 2 ^ (a.e - b.e).toNat - 18446744073709551616 := by
    have : 9223372036854775808 * 2 ^ (a.e - b.e).toNat ≤ a.m * 2 ^ (a.e - b.e).toNat := Int.mul_le_mul_of_nonneg_right (by omega) (Int.le_of_lt p)
    omega
  rw [hC]
  generalize hN : (a.m * 2 ^ (a.e - b.e).toNat - b.m) * 18446744073709551616 = N at *
  generalize minusZ a b = Z at *
  have big1 : 170141183460469231731687303715884105728 ≤ Z * 2 ^ (128 - blen Z).toNat := by
    have g : (170141183460469231731687303715884105728 : Int) = 2 ^ n * 2 ^ (128 - blen Z).toNat := by
      rw [← Int.pow_add, show n + (128 - blen Z).toNat = 127 by omega]; rfl
    rw [g]
    exact Int.mul_le_mul_of_nonneg_right k2 (Int.le_of_lt (two_pos _))
  have big2 : Z * 2 ^ (128 - blen Z).toNat < 340282366920938463463374607431768211456 := by
    have g : (340282366920938463463374607431768211456 : Int) = 2 ^ (n + 1) * 2 ^ (128 - blen Z).toNat := by
      rw [← Int.pow_add, show n + 1 + (128 - blen Z).toNat = 128 by omega]; rfl
    rw [g]
    exact Int.mul_lt_mul_of_pos_right k3 (two_pos _)
  have m1 : 9223372036854775808 ≤ Z * 2 ^ (128 - blen Z).toNat / 18446744073709551616 := by omega
  have m2 : Z * 2 ^ (128 - blen Z).toNat / 18446744073709551616 < 18446744073709551616 := by omega
  generalize hS : 128 - blen Z = s at *
  have s0 : 0 ≤ s := by omega
  by_cases h64 : s ≤ 64
  · have e64 := two_64 (k := s) s0 h64
    have q := two_pos s.toNat
    have q' := two_pos (64 - s).toNat
    obtain ⟨r1, r2⟩ := same_div (N := Z) (M := 2 ^ s.toNat) (K := 1) (D := 2 ^ (64 - s).toNat) q
    rw [Int.one_mul, Int.one_mul, Int.mul_comm (2 ^ s.toNat) (2 ^ (64 - s).toNat), ← e64] at r1 r2
    rw [r1] at m1 m2 ⊢
    rw [r2]
    obtain ⟨c1, c2⟩ := cut_two (N := N) (K := 2 ^ (a.e - b.e).toNat) (D := 2 ^ (64 - s).toNat) p q'
    rw [hZ] at m1 m2 ⊢
    rw [c1] at m1 m2
    rw [c1, c2]
    refine grow_div (Int.mul_pos p q') pb ?_ (by decide) m1 m2 (by omega) (by omega)
    rw [Int.mul_one, pw_split (e := b.e - 64) (f := a.e - s) (by omega) (by omega)]
    congr 1
    rw [← Int.pow_add]
    congr 1
    omega
  · have hz64 : Z < 18446744073709551616 := by
      have : (2 : Int) ^ (n + 1) ≤ 2 ^ 64 := by
        have := Nat.pow_le_pow_right (n := 2) (by omega) (show n + 1 ≤ 64 by omega)
        have e1 : ((2 ^ (n + 1) : Nat) : Int) = (2 : Int) ^ (n + 1) := by push_cast; rfl
        rw [← e1]; exact Int.ofNat_le.2 this
      have e2 : (2 : Int) ^ 64 = 18446744073709551616 := by decide
      omega
    have hcf : N % 2 ^ (a.e - b.e).toNat = 0 := by
      by_cases hk64 : a.e - b.e ≤ 64
      · have e64 := two_64 (k := a.e - b.e) (by omega) hk64
        rw [← hN, e64, ← Int.mul_assoc, Int.mul_emod_left]
      · exfalso
        have hK : 36893488147419103232 ≤ (2 : Int) ^ (a.e - b.e).toNat := by
          have := Nat.pow_le_pow_right (n := 2) (by omega) (show 65 ≤ (a.e - b.e).toNat by omega)
          have e1 : ((2 ^ (a.e - b.e).toNat : Nat) : Int) = (2 : Int) ^ (a.e - b.e).toNat := by push_cast; rfl
          rw [← e1]; exact Int.ofNat_le.2 this
        have : 18446744073709551616 ≤ N / 2 ^ (a.e - b.e).toNat := by
          refine (Int.le_ediv_iff_mul_le p).2 ?_
          rw [← hN]
          generalize (2 : Int) ^ (a.e - b.e).toNat = K at *
          generalize a.m * K - b.m = M at *
          omega
        omega
    have e1 : Z * 2 ^ s.toNat = Z * 2 ^ (s - 64).toNat * 18446744073709551616 := by
      rw [Int.mul_assoc]
      congr 1
      rw [show (18446744073709551616 : Int) = 2 ^ 64 by decide, ← Int.pow_add]
      congr 1
      omega
    have e2 : Z * 2 ^ s.toNat % 18446744073709551616 = 0 := by rw [e1]; exact Int.mul_emod_left _ _
    have e3 : Z * 2 ^ s.toNat / 18446744073709551616 = Z * 2 ^ (s - 64).toNat := by rw [e1]; exact Int.mul_ediv_cancel _ (by decide)
    rw [hcf, e2]
    refine grow_best (cut := _) m1 m2 (by omega) (by omega) (by decide) ?_
    simp only [ne_eq, not_true_eq_false, decide_false, Bool.or_self, Bool.false_eq_true, if_false]
    rw [e3, Int.mul_one]
    have e4 : N = Z * 2 ^ (a.e - b.e).toNat := by
      have := Int.mul_ediv_add_emod N (2 ^ (a.e - b.e).toNat)
      rw [← hZ, hcf] at this
      rw [Int.mul_comm Z]
      omega
    have e5 := pw_split (e := b.e - 64) (f := a.e - 64) (by omega) (by omega)
    rw [show a.e - 64 - (b.e - 64) = a.e - b.e by omega] at e5
    have e6 := pw_split (e := a.e - s) (f := a.e - 64) (by omega) (by omega)
    rw [show a.e - 64 - (a.e - s) = s - 64 by omega] at e6
    rw [e4, Int.mul_assoc, ← e5, e6, Int.mul_assoc]

/-! ### the operations on any numbers -/
theorem Best.self {r : Num} {up : Bool} (m : r.may = true) (o : r.ok) (k : r.kind ≠ 2) {t c : Int} (hc : 0 < c) (ht : r.val * c = t) : Best r up t c := by
  have n : ∀ b, r ≠ Num.inf b := fun b g => k (by rw [g]; rfl)
  refine ⟨m, o, fun _ => ⟨n _, .inr (by omega)⟩, fun _ x _ _ _ hx => ?_, fun _ x _ _ _ hx => ?_, fun _ => ⟨n _, .inr (by omega)⟩⟩
  · exact Int.le_of_mul_le_mul_right (a := c) (by omega) hc
  · exact Int.le_of_mul_le_mul_right (a := c) (by omega) hc

theorem Num.fair_fin {a : Num} (oa : a.ok) (k0 : a.fair.kind ≠ 0) (k2 : a.fair.kind ≠ 2) : a.fair.Fin := by
  rcases Num.may3 a.fair_may (Num.fair_ok oa) with h | h | h
  · rw [h] at k0; simp [Num.zero] at k0
  · exact h
  · rw [h] at k2; simp [Num.inf] at k2
theorem Num.fair_zero {a : Num} (oa : a.ok) (k0 : a.fair.kind = 0) : a.fair = Num.zero := by
  rcases Num.may3 a.fair_may (Num.fair_ok oa) with h | h | h
  · exact h
  · have := h.kind; omega
  · rw [h] at k0; simp [Num.inf] at k0

theorem mul_best {a b : Num} (oa : a.ok) (ob : b.ok) (ka : a.fair.kind ≠ 2) (kb : b.fair.kind ≠ 2) (up : Bool) : Best (Num.mul a b up) up (a.fair.val * b.fair.val) (pw 0) := by
  unfold Num.mul
  by_cases h : a.fair.kind = 0 ∨ b.fair.kind = 0
  · rw [if_pos h]
    refine Best.self Num.zero_may Num.zero_ok (by decide) (pw_pos 0) ?_
    rw [Num.val_zero]
    rcases h with h | h
    · rw [Num.fair_zero oa h, Num.val_zero]; simp
    · rw [Num.fair_zero ob h, Num.val_zero]; simp
  · rw [if_neg h, if_neg (by omega)]
    exact mulF_best (Num.fair_fin oa (by omega) ka) (Num.fair_fin ob (by omega) kb) up

theorem addS_best {a b : Num} (ha : a.Fin) (hb : b.Fin) (hk : b.e < a.e ∨ (b.e = a.e ∧ b.m ≤ a.m)) (up : Bool) : Best (Num.addS a b up) up (a.val + b.val) 1 := by
  unfold Num.addS
  split
  · exact plusP_best ha hb (by omega) ‹_› up
  · rename_i hn
    split
    · rename_i h
      refine Best.self Num.zero_may Num.zero_ok (by decide) (by decide) ?_
      rw [Num.val_zero]
      unfold Num.val
      rw [ha.W, hb.W, h.1, h.2]
      have hbn : b.neg = !a.neg := by cases h : a.neg <;> cases h2 : b.neg <;> simp_all
      rw [hbn]
      cases a.neg <;> simp <;> omega
    · exact minusP_best ha hb (by omega) (by omega) hn up

theorem add_best {a b : Num} (oa : a.ok) (ob : b.ok) (ka : a.fair.kind ≠ 2) (kb : b.fair.kind ≠ 2) (up : Bool) : Best (Num.add a b up) up (a.fair.val + b.fair.val) 1 := by
  unfold Num.add
  rw [if_neg (by omega)]
  split
  · rename_i h
    have h : b.fair.kind = 0 := by omega
    exact Best.self a.fair_may (Num.fair_ok oa) ka (by decide) (by rw [Num.fair_zero ob h, Num.val_zero]; omega)
  · split
    · rename_i h
      have h : a.fair.kind = 0 := by omega
      exact Best.self b.fair_may (Num.fair_ok ob) kb (by decide) (by rw [Num.fair_zero oa h, Num.val_zero]; omega)
    · have FA := Num.fair_fin oa (by omega) ka
      have FB := Num.fair_fin ob (by omega) kb
      unfold Num.addF
      split
      · rw [Int.add_comm]; exact addS_best FB FA (by omega) up
      · exact addS_best FA FB (by omega) up

theorem div_best {a b : Num} (oa : a.ok) (ob : b.ok) (ka : a.fair.kind ≠ 2) (kb : b.fair.kind = 1) (up : Bool) : Best (Num.div a b up) up (if b.fair.neg then -(a.fair.val * pw 0) else a.fair.val * pw 0) b.fair.W := by
  have FB := Num.fair_fin ob (by omega) (by omega)
  unfold Num.div
  rw [if_neg (by omega)]
  split
  · rename_i h
    have h : a.fair.kind = 0 := by omega
    refine Best.self Num.zero_may Num.zero_ok (by decide) FB.lt.1 ?_
    rw [Num.fair_zero oa h, Num.val_zero]
    split <;> simp
  · have FA := Num.fair_fin oa (by omega) ka
    have := divF_best FA FB up
    have e : (if b.fair.neg then -(a.fair.val * pw 0) else a.fair.val * pw 0) = (if (a.fair.neg != b.fair.neg) then -(a.fair.W * pw 0) else a.fair.W * pw 0) := by
      unfold Num.val
      cases a.fair.neg <;> cases b.fair.neg <;> simp [Int.neg_mul]
    rw [e]
    exact this
end Go.Proofs.YtoghalnnmhpfmaaGreat.Ev

/- The reference's rounding is the best; its products and quotients are the program's: plain Lean. -/
namespace Go.Proofs.YtoghalnnmhpfmaaGreat.Ev
open Go

/-- an odd number times a power of two, as a value -/
def dyv (p : Bool × Nat × Int) : Int := if p.1 then -((p.2.1 : Int) * pw p.2.2) else (p.2.1 : Int) * pw p.2.2
theorem bound_grow {neg away : Bool} {m e : Int} : Num.bound neg m e away = Num.grow neg m e false away := by
  unfold Num.grow; rw [if_neg (by simp)]

theorem Best.scale {r : Num} {up : Bool} {t c : Int} (h : Best r up t 1) (hc : 0 < c) : Best r up (t * c) c := by
  refine ⟨h.may, h.ok, fun u => ⟨(h.down u).1, ?_⟩, fun u s ms os ks hs => ?_, fun u s ms os ks hs => ?_, fun u => ⟨(h.hi u).1, ?_⟩⟩
  · rcases (h.down u).2 with k | k
    · exact .inl k
    · exact .inr (Int.mul_le_mul_of_nonneg_right (by omega) (Int.le_of_lt hc))
  · exact h.dopt u s ms os ks (by have := Int.le_of_mul_le_mul_right hs hc; omega)
  · exact h.uopt u s ms os ks (by have := Int.le_of_mul_le_mul_right hs hc; omega)
  · rcases (h.hi u).2 with k | k
    · exact .inl k
    · exact .inr (Int.mul_le_mul_of_nonneg_right (by omega) (Int.le_of_lt hc))

/-- rounded: odd numbers -/
theorem rnd_best {ng : Bool} {k : Nat} {e : Int} (up : Bool) (hk : k % 2 = 1) (he : -4190000 ≤ e) (he' : e + blen (k : Int) ≤ 4194000) :
    Best (rnd ng k e up) up (dyv (ng, k, e)) 1 := by
  have k0 : 0 < k := by omega
  obtain ⟨n, h1, h2, h3⟩ := blen_rng k0
  unfold rnd
  rw [if_neg (by omega)]
  show Best _ up (if ng = true then -((k : Int) * pw e) else (k : Int) * pw e) 1
  split
  · rename_i b
    have f := rnd_few k0 b
    rw [bound_grow]
    obtain ⟨s, hs⟩ : ∃ s : Nat, (64 - blen (k : Int)).toNat = s := ⟨_, rfl⟩
    have es : blen (k : Int) = 64 - (s : Int) := by omega
    have hsn : s + n = 63 := by omega
    rw [hs] at f ⊢
    rw [es]
    have lo : 9223372036854775808 ≤ k * 2 ^ s := by
      have : 2 ^ n * 2 ^ s ≤ k * 2 ^ s := Nat.mul_le_mul_right _ h2
      rw [← Nat.pow_add, show n + s = 63 by omega] at this
      have : (2 : Nat) ^ 63 = 9223372036854775808 := by decide
      omega
    refine grow_best (by omega) (by omega) (by omega) (by omega) (by decide) ?_
    rw [if_neg (by decide)]
    have e1 := pw_add (e := e + (64 - (s : Int)) - 64) (f := s) (by omega) (by omega)
    rw [show e + (64 - (s : Int)) - 64 + s = e by omega, Int.toNat_natCast] at e1
    rw [e1]
    push_cast
    grind
  · rename_i b
    have f := rnd_many k0 (by omega)
    obtain ⟨s, hs⟩ : ∃ s : Nat, (blen (k : Int) - 64).toNat = s := ⟨_, rfl⟩
    have es : blen (k : Int) = 64 + (s : Int) := by omega
    rw [hs] at f ⊢
    rw [es]
    refine grow_best (by omega) (by omega) (by omega) (by omega) (by decide) ?_
    rw [if_pos rfl]
    have e1 := pw_add (e := e) (f := s) (by omega) (by omega)
    rw [Int.toNat_natCast] at e1
    rw [show e + (64 + (s : Int)) - 64 = e + s by omega, e1]
    have p := pw_pos e
    have p2 : 0 < 2 ^ s := Nat.pow_pos (by decide)
    have ev : 2 ^ s % 2 = 0 := by
      have : s = (s - 1) + 1 := by omega
      rw [this, Nat.pow_succ]; omega
    have dm := Nat.div_add_mod k (2 ^ s)
    have dl := Nat.mod_lt k p2
    have nz : k % 2 ^ s ≠ 0 := by
      intro z
      rw [z] at dm
      have : k % 2 = 0 := by rw [← dm, Nat.add_zero, Nat.mul_mod, ev]; simp
      omega
    have c2 : ((2 ^ s : Nat) : Int) = (2 : Int) ^ s := by push_cast; rfl
    have a1 : (((k / 2 ^ s : Nat)) : Int) * (pw e * 2 ^ s) * 1 = ((2 ^ s * (k / 2 ^ s) : Nat) : Int) * pw e := by push_cast; grind
    have a2 : (((k / 2 ^ s : Nat) : Int) + 1) * (pw e * 2 ^ s) * 1 = ((2 ^ s * (k / 2 ^ s) + 2 ^ s : Nat) : Int) * pw e := by push_cast; grind
    rw [a1, a2]
    constructor
    · exact Int.mul_lt_mul_of_pos_right (by omega) p
    · exact Int.mul_lt_mul_of_pos_right (by omega) p

theorem dyMake_odd {ng : Bool} {k : Nat} {e : Int} (hk : k % 2 = 1) (he : -4194304 ≤ e) (he' : e ≤ 4194304) : dyMake ng k e = (ng, k, e) := by
  unfold dyMake
  have v : v2 k = 0 := v2_odd (by omega)
  rw [if_neg (by omega), if_neg (by omega), v]
  simp
theorem dyMake_zero (ng : Bool) (e : Int) : dyMake ng 0 e = (false, 0, 0) := by unfold dyMake; rw [if_pos (.inl rfl)]
theorem v2_blen {k : Nat} (h : 0 < k) : (v2 k : Int) < blen (k : Int) := by
  obtain ⟨n, h1, h2, h3⟩ := blen_rng h
  have := v2_lt h h3
  omega
/-- made: the same value, odd -/
theorem dyMake_val {ng : Bool} {k : Nat} {e : Int} (h : 0 < k) (he : -4194304 ≤ e) (he' : e + v2 k ≤ 4194304) :
    (dyMake ng k e).2.1 % 2 = 1 ∧ (dyMake ng k e).1 = ng ∧ (dyMake ng k e).2.2 = e + v2 k ∧ (dyMake ng k e).2.1 * 2 ^ v2 k = k ∧ ((dyMake ng k e).2.1 : Int) * pw (dyMake ng k e).2.2 = k * pw e ∧
      blen ((dyMake ng k e).2.1 : Int) + v2 k = blen (k : Int) := by
  have s := v2_spec k h
  have E : dyMake ng k e = (ng, k / 2 ^ v2 k, e + v2 k) := by
    unfold dyMake
    rw [if_neg (by omega), if_neg (by omega)]
  rw [E]
  refine ⟨s.2.1, rfl, rfl, s.1, ?_, ?_⟩
  · show ((k / 2 ^ v2 k : Nat) : Int) * pw (e + v2 k) = k * pw e
    have e1 := pw_add (e := e) (f := v2 k) (by omega) (by omega)
    rw [Int.toNat_natCast] at e1
    rw [e1]
    have c := congrArg (fun n : Nat => (n : Int)) s.1
    push_cast at c ⊢
    have : (k : Int) / 2 ^ v2 k * (pw e * 2 ^ v2 k) = (k : Int) / 2 ^ v2 k * 2 ^ v2 k * pw e := by grind
    rw [this, c]
  · show blen ((k / 2 ^ v2 k : Nat) : Int) + v2 k = blen (k : Int)
    have c : (2 : Int) ^ v2 k ≤ (k : Int) := by have := s.2.2; exact_mod_cast this
    have := blen_div (x := (k : Int)) (v2 k) c
    have e2 : ((k / 2 ^ v2 k : Nat) : Int) = (k : Int) / 2 ^ v2 k := by push_cast; rfl
    rw [e2]
    omega

/-- an exact finite number -/
theorem exact_fin {n : Num} (h : n.Fin) : n.exact.2 = true ∧ n.exact.1.1 = n.neg ∧ n.exact.1.2.1 % 2 = 1 ∧ -1048576 ≤ n.exact.1.2.2 ∧ n.exact.1.2.2 ≤ 1048640 ∧ (n.exact.1.2.1 : Int) * pw n.exact.1.2.2 = n.W ∧
    n.exact.1.2.1 < 18446744073709551616 ∧ n.e ≤ n.exact.1.2.2 := by
  have lo := h.lo
  have hi := h.hi
  have elo := h.elo
  have ehi := h.ehi
  have hk := h.kind
  have v := v2_lt (n := n.m.toNat) (k := 64) (by omega) (by show n.m.toNat < 18446744073709551616; omega)
  have d := dyMake_val (ng := n.neg) (k := n.m.toNat) (e := n.e) (by omega) (by omega) (by omega)
  have r := dyMake_rng n.neg n.m.toNat n.e
  unfold Num.exact
  rw [if_neg (by rw [h.may, hk]; decide), if_neg (by rw [hk]; decide)]
  refine ⟨rfl, d.2.1, d.1, ?_, ?_, ?_, ?_, ?_⟩
  · show -1048576 ≤ (dyMake n.neg n.m.toNat n.e).2.2; omega
  · show (dyMake n.neg n.m.toNat n.e).2.2 ≤ 1048640; omega
  · show ((dyMake n.neg n.m.toNat n.e).2.1 : Int) * pw (dyMake n.neg n.m.toNat n.e).2.2 = _
    rw [d.2.2.2.2.1, h.W, show ((n.m.toNat : Nat) : Int) = n.m by omega]
  · show (dyMake n.neg n.m.toNat n.e).2.1 < _; omega
  · show n.e ≤ (dyMake n.neg n.m.toNat n.e).2.2; omega
theorem dyNorm_odd {p : Bool × Nat × Int} (hk : p.2.1 % 2 = 1) (he : -4194304 ≤ p.2.2) (he' : p.2.2 ≤ 4194304) : dyNorm p = p := dyMake_odd hk he he'
end Go.Proofs.YtoghalnnmhpfmaaGreat.Ev

/- The reference's quotients are the program's: plain Lean. -/
namespace Go.Proofs.YtoghalnnmhpfmaaGreat.Ev
open Go

/-- rounded with a bit that is there alone to be cut off -/
theorem rnd_cut {ng : Bool} {k : Nat} {e : Int} (up : Bool) (hk : k % 2 = 1) (hb : 64 < blen (k : Int)) :
    ∃ s : Nat, 1 ≤ s ∧ blen (k : Int) = 64 + s ∧ rnd ng k e up = Num.grow ng ((k / 2 ^ s : Nat) : Int) (e + s) true (up != ng) ∧ 9223372036854775808 ≤ k / 2 ^ s ∧ k / 2 ^ s < 18446744073709551616 ∧
      2 ^ s * (k / 2 ^ s) + 1 ≤ k ∧ k + 1 ≤ 2 ^ s * (k / 2 ^ s) + 2 ^ s := by
  have k0 : 0 < k := by omega
  have f := rnd_many k0 hb
  obtain ⟨s, hs⟩ : ∃ s : Nat, (blen (k : Int) - 64).toNat = s := ⟨_, rfl⟩
  have es : blen (k : Int) = 64 + (s : Int) := by omega
  rw [hs] at f
  have p2 : 0 < 2 ^ s := Nat.pow_pos (by decide)
  have ev : 2 ^ s % 2 = 0 := by
    have : s = (s - 1) + 1 := by omega
    rw [this, Nat.pow_succ]; omega
  have dm := Nat.div_add_mod k (2 ^ s)
  have dl := Nat.mod_lt k p2
  have nz : k % 2 ^ s ≠ 0 := by
    intro z
    rw [z] at dm
    have : k % 2 = 0 := by rw [← dm, Nat.add_zero, Nat.mul_mod, ev]; simp
    omega
  refine ⟨s, by omega, es, ?_, f.1, f.2, by omega, by omega⟩
  unfold rnd
  rw [if_neg (by omega), if_neg (by omega), hs, show e + blen (k : Int) - 64 = e + s by omega]

/-- rounded, as a number grown -/
theorem rnd_form {ng : Bool} {k : Nat} {e : Int} (up : Bool) (hk : k % 2 = 1) (he : -4190000 ≤ e) :
    ∃ (m e' : Int) (cut : Bool), rnd ng k e up = Num.grow ng m e' cut (up != ng) ∧ 9223372036854775808 ≤ m ∧ m < 18446744073709551616 ∧ e' = e + blen (k : Int) - 64 ∧
      (if cut then m * pw e' < k * pw e else m * pw e' = k * pw e) ∧ k * pw e < (m + 1) * pw e' := by
  have k0 : 0 < k := by omega
  have p := pw_pos e
  rcases Int.lt_or_le 64 (blen (k : Int)) with b | b
  · obtain ⟨s, h1, h2, h3, h4, h5, h6, h7⟩ := rnd_cut (ng := ng) (e := e) up hk b
    refine ⟨_, _, _, h3, by omega, by omega, by omega, ?_, ?_⟩
    all_goals
      have e1 := pw_add (e := e) (f := s) (by omega) (by omega)
      rw [Int.toNat_natCast] at e1
      rw [e1]
    · rw [if_pos rfl]
      have a1 : (((k / 2 ^ s : Nat)) : Int) * (pw e * 2 ^ s) = ((2 ^ s * (k / 2 ^ s) : Nat) : Int) * pw e := by push_cast; grind
      rw [a1]
      exact Int.mul_lt_mul_of_pos_right (by omega) p
    · have a2 : (((k / 2 ^ s : Nat) : Int) + 1) * (pw e * 2 ^ s) = ((2 ^ s * (k / 2 ^ s) + 2 ^ s : Nat) : Int) * pw e := by push_cast; grind
      rw [a2]
      exact Int.mul_lt_mul_of_pos_right (by omega) p
  · obtain ⟨n, h1, h2, h3⟩ := blen_rng k0
    have f := rnd_few k0 b
    obtain ⟨s, hs⟩ : ∃ s : Nat, (64 - blen (k : Int)).toNat = s := ⟨_, rfl⟩
    have es : blen (k : Int) = 64 - (s : Int) := by omega
    have hsn : s + n = 63 := by omega
    rw [hs] at f
    have lo : 9223372036854775808 ≤ k * 2 ^ s := by
      have : 2 ^ n * 2 ^ s ≤ k * 2 ^ s := Nat.mul_le_mul_right _ h2
      rw [← Nat.pow_add, show n + s = 63 by omega] at this
      have : (2 : Nat) ^ 63 = 9223372036854775808 := by decide
      omega
    have e1 := pw_add (e := e - (s : Int)) (f := s) (by omega) (by omega)
    rw [show e - (s : Int) + s = e by omega, Int.toNat_natCast] at e1
    have a1 : (((k * 2 ^ s : Nat)) : Int) * pw (e - s) = k * pw e := by rw [e1]; push_cast; grind
    refine ⟨((k * 2 ^ s : Nat) : Int), e - s, false, ?_, by omega, by omega, by omega, ?_, ?_⟩
    · unfold rnd
      rw [if_neg (by omega), if_pos b, bound_grow, hs, show e + blen (k : Int) - 64 = e - s by omega]
    · rw [if_neg (by decide)]; exact a1
    · have q := pw_pos (e - (s : Int))
      have a2 : ((((k * 2 ^ s : Nat)) : Int) + 1) * pw (e - s) = (((k * 2 ^ s : Nat)) : Int) * pw (e - s) + pw (e - s) := by grind
      omega

end Go.Proofs.YtoghalnnmhpfmaaGreat.Ev

/- Contracts of the reference: the ratio of two whole numbers. Printed by gen.py. -/
namespace Go.Proofs.YtoghalnnmhpfmaaGreat.Ev
open Go Go.Proofs
set_option linter.unusedVariables false
set_option linter.unusedSimpArgs false

attribute [local irreducible] Lb
end Go.Proofs.YtoghalnnmhpfmaaGreat.Ev

/- Sums and products of numbers: their order, and their opposites. Plain Lean. -/
namespace Go.Proofs.YtoghalnnmhpfmaaGreat.Ev
open Go

theorem Num.may_fair {n : Num} (h : n.may = true) : n.fair = n := by unfold Num.fair; rw [if_pos h]
theorem Num.opp_inf (b : Bool) : (Num.inf b).opp = Num.inf (!b) := by cases b <;> decide
theorem Num.fair_inf {a : Num} (oa : a.ok) (k : a.fair.kind = 2) : a.fair = Num.inf a.fair.neg := Num.inf_of a.fair_may (Num.fair_ok oa) k

theorem Num.add_inf {a b : Num} (up : Bool) (ka : a.fair.kind = 2) : Num.add a b up = if b.fair.kind = 2 ∧ a.fair.neg ≠ b.fair.neg then Num.inf (!up) else a.fair := by
  unfold Num.add
  by_cases h : b.fair.kind = 2 ∧ a.fair.neg ≠ b.fair.neg
  · rw [if_pos ⟨ka, h⟩, if_pos h]
  · rw [if_neg (fun k => h k.2), if_neg h, if_pos (.inl ka)]
theorem Num.add_inf2 {a b : Num} (oa : a.ok) (ob : b.ok) (up : Bool) (kb : b.fair.kind = 2) : Num.add a b up = if a.fair.kind = 2 ∧ b.fair.neg ≠ a.fair.neg then Num.inf (!up) else b.fair := by
  unfold Num.add
  by_cases h : a.fair.kind = 2 ∧ b.fair.neg ≠ a.fair.neg
  · rw [if_pos ⟨h.1, kb, fun e => h.2 e.symm⟩, if_pos h]
  · rw [if_neg (fun k => h ⟨k.1, fun e => k.2.2 e.symm⟩), if_neg h]
    by_cases ka : a.fair.kind = 2
    · rw [if_pos (.inl ka), Num.fair_inf oa ka, Num.fair_inf ob kb]
      congr 1
      exact (Classical.not_not.1 (fun e => h ⟨ka, e⟩)).symm
    · rw [if_neg (by rw [kb]; simp [ka]), if_pos (.inl kb)]
theorem Num.add_comm {a b : Num} (oa : a.ok) (ob : b.ok) (up : Bool) : Num.add a b up = Num.add b a up := by
  by_cases ka : a.fair.kind = 2
  · rw [Num.add_inf up ka, Num.add_inf2 ob oa up ka]
  · by_cases kb : b.fair.kind = 2
    · rw [Num.add_inf2 oa ob up kb, Num.add_inf up kb]
    · exact (add_best oa ob ka kb up).uniq (add_best ob oa kb ka up) (by decide) (by decide) (by rw [Int.add_comm])

theorem Num.mul_comm {a b : Num} (oa : a.ok) (ob : b.ok) (up : Bool) : Num.mul a b up = Num.mul b a up := by
  have key : a.fair.kind = 2 ∨ b.fair.kind = 2 → Num.mul a b up = Num.mul b a up := by
    intro h
    unfold Num.mul
    by_cases h0 : a.fair.kind = 0 ∨ b.fair.kind = 0
    · have h0' : b.fair.kind = 0 ∨ a.fair.kind = 0 := h0.symm
      rw [if_pos h0]
      exact (if_pos h0').symm
    · have h0' : ¬ (b.fair.kind = 0 ∨ a.fair.kind = 0) := fun k => h0 k.symm
      rw [if_neg h0, if_pos h]
      refine Eq.trans ?_ (Eq.trans (if_pos h.symm).symm (if_neg h0').symm)
      congr 1
      cases a.fair.neg <;> cases b.fair.neg <;> rfl
  by_cases ka : a.fair.kind = 2
  · exact key (.inl ka)
  · by_cases kb : b.fair.kind = 2
    · exact key (.inr kb)
    · exact (mul_best oa ob ka kb up).uniq (mul_best ob oa kb ka up) (pw_pos 0) (pw_pos 0) (by rw [Int.mul_comm a.fair.val])

theorem Best.opp {r : Num} {up : Bool} {t c : Int} (h : Best r up t c) : Best r.opp (!up) (-t) c := by
  have fr := Num.may_fair h.may
  have vr : r.opp.val = -r.val := by rw [Num.opp_val, fr]
  have inj : ∀ b, r.opp = Num.inf b → r = Num.inf (!b) := by
    intro b e
    have := congrArg Num.opp e
    rw [Num.opp_opp, fr, Num.opp_inf] at this
    exact this
  have back : ∀ s : Num, s.may = true → s.ok → ∀ b, s ≠ Num.inf b → s.opp ≠ Num.inf (!b) := by
    intro s ms os b hs e
    have := congrArg Num.opp e
    rw [Num.opp_opp, Num.may_fair ms, Num.opp_inf, Bool.not_not] at this
    exact hs this
  have vs : ∀ s : Num, s.may = true → s.opp.val = -s.val := fun s ms => by rw [Num.opp_val, Num.may_fair ms]
  refine ⟨Num.opp_may r, Num.opp_ok h.ok, fun hu => ?_, fun hu s ms os hs hle => ?_, fun hu s ms os hs hle => ?_, fun hu => ?_⟩
  · have hu' : up = true := by simpa using hu
    obtain ⟨h1, h2⟩ := h.hi hu'
    refine ⟨fun e => h1 (inj _ e), ?_⟩
    rcases h2 with h2 | h2
    · left; rw [h2, Num.opp_inf]; rfl
    · right; rw [vr, Int.neg_mul]; omega
  · have hu' : up = true := by simpa using hu
    have := h.uopt hu' s.opp (Num.opp_may s) (Num.opp_ok os) (back s ms os false hs) (by rw [vs s ms, Int.neg_mul]; omega)
    rw [vs s ms] at this
    rw [vr]; omega
  · have hu' : up = false := by simpa using hu
    have := h.dopt hu' s.opp (Num.opp_may s) (Num.opp_ok os) (back s ms os true hs) (by rw [vs s ms, Int.neg_mul]; omega)
    rw [vs s ms] at this
    rw [vr]; omega
  · have hu' : up = false := by simpa using hu
    obtain ⟨h1, h2⟩ := h.down hu'
    refine ⟨fun e => h1 (inj _ e), ?_⟩
    rcases h2 with h2 | h2
    · left; rw [h2, Num.opp_inf]; rfl
    · right; rw [vr, Int.neg_mul]; omega

theorem Num.opp_fair (n : Num) : n.opp.fair = n.opp := Num.may_fair (Num.opp_may n)
theorem Num.opp_kind (n : Num) : n.opp.kind = n.fair.kind := rfl
theorem Num.opp_of_fair (a : Num) : a.opp = a.fair.opp := by unfold Num.opp; rw [Num.may_fair a.fair_may]
theorem Num.opp_of_inf {a : Num} (oa : a.ok) (k : a.fair.kind = 2) : a.opp = Num.inf (!a.fair.neg) := by
  rw [Num.opp_of_fair, Num.fair_inf oa k, Num.opp_inf]; rfl
theorem Num.add_opp {a b : Num} (oa : a.ok) (ob : b.ok) (up : Bool) : Num.add a.opp b.opp (!up) = (Num.add a b up).opp := by
  have half : ∀ {a b : Num}, a.ok → b.ok → a.fair.kind = 2 → Num.add a.opp b.opp (!up) = (Num.add a b up).opp := by
    intro a b oa ob ka
    rw [Num.add_inf (!up) (by rw [Num.opp_fair, Num.opp_kind]; exact ka), Num.add_inf up ka, Num.opp_fair, Num.opp_fair, Num.opp_kind, Num.opp_of_inf oa ka]
    by_cases kb : b.fair.kind = 2
    · rw [Num.opp_of_inf ob kb]
      by_cases hn : a.fair.neg = b.fair.neg
      · rw [if_neg (by rintro ⟨-, h⟩; exact h (by show (!_) = (!_); rw [hn])), if_neg (fun h => h.2 hn), ← Num.opp_of_fair, Num.opp_of_inf oa ka]
      · rw [if_pos ⟨kb, fun h => hn (by have h' : (!a.fair.neg) = (!b.fair.neg) := h; revert h'; cases a.fair.neg <;> cases b.fair.neg <;> simp)⟩, if_pos ⟨kb, hn⟩, Num.opp_inf]
    · rw [if_neg (fun h => kb h.1), if_neg (fun h => kb h.1), ← Num.opp_of_fair, Num.opp_of_inf oa ka]
  by_cases ka : a.fair.kind = 2
  · exact half oa ob ka
  · by_cases kb : b.fair.kind = 2
    · rw [Num.add_comm (Num.opp_ok oa) (Num.opp_ok ob), Num.add_comm oa ob]
      exact half ob oa kb
    · have h1 := (add_best oa ob ka kb up).opp
      have h2 := add_best (Num.opp_ok oa) (Num.opp_ok ob) (by rw [Num.opp_fair, Num.opp_kind]; exact ka) (by rw [Num.opp_fair, Num.opp_kind]; exact kb) (!up)
      refine h2.uniq h1 (by decide) (by decide) ?_
      rw [Num.opp_fair, Num.opp_fair, Num.opp_val, Num.opp_val]; omega
end Go.Proofs.YtoghalnnmhpfmaaGreat.Ev

/- What intervals have together, and the least one that has all of some: plain Lean. -/
namespace Go.Proofs.YtoghalnnmhpfmaaGreat.Ev
open Go

/-- those that are not empty, and may be -/
def Iv.goods : List Iv → List Iv
  | [] => []
  | x :: r => if x.fair.empty then goods r else x.fair :: goods r
def Iv.los (l : List Iv) : List Num := (Iv.goods l).map Iv.lo
def Iv.his (l : List Iv) : List Num := (Iv.goods l).map Iv.hi
def Iv.allGood (l : List Iv) : Bool := l.all (fun x => !x.fair.empty)
theorem Iv.goods_append : ∀ (l m : List Iv), Iv.goods (l ++ m) = Iv.goods l ++ Iv.goods m
  | [], m => rfl
  | x :: r, m => by
    simp only [List.cons_append, Iv.goods, Iv.goods_append r m]
    split <;> rfl
theorem Iv.goods_len : ∀ (l : List Iv), (Iv.goods l).length ≤ l.length
  | [] => Nat.le_refl _
  | x :: r => by
    have := Iv.goods_len r
    simp only [Iv.goods]
    split <;> simp <;> omega
theorem Iv.los_len (l : List Iv) : (Iv.los l).length ≤ l.length := by simp [Iv.los, Iv.goods_len]
theorem Iv.his_len (l : List Iv) : (Iv.his l).length ≤ l.length := by simp [Iv.his, Iv.goods_len]
theorem take_next {l : List Iv} {i : Int} (h0 : 0 ≤ i) (h1 : i < l.length) : l.take (i + 1).toNat = l.take i.toNat ++ [l.getD i.toNat Iv.none] := by
  have : i.toNat < l.length := by omega
  rw [show (i + 1).toNat = i.toNat + 1 by omega, List.take_add_one, List.getElem?_eq_getElem this]
  simp [List.getD, List.getElem?_eq_getElem this]
theorem Iv.goods_next {l : List Iv} {i : Int} (h0 : 0 ≤ i) (h1 : i < l.length) : Iv.goods (l.take (i + 1).toNat) =
    if (l.getD i.toNat Iv.none).fair.empty then Iv.goods (l.take i.toNat) else Iv.goods (l.take i.toNat) ++ [(l.getD i.toNat Iv.none).fair] := by
  rw [take_next h0 h1, Iv.goods_append]
  simp only [Iv.goods]
  split <;> simp
theorem Iv.allGood_next {l : List Iv} {i : Int} (h0 : 0 ≤ i) (h1 : i < l.length) : Iv.allGood (l.take (i + 1).toNat) = (Iv.allGood (l.take i.toNat) && !(l.getD i.toNat Iv.none).fair.empty) := by
  rw [take_next h0 h1]
  simp [Iv.allGood]
def Iv.meet (l : List Iv) : Iv := if Iv.allGood l then Iv.make (Num.most (Iv.los l)) (Num.least (Iv.his l)) else Iv.none
def Iv.hull (l : List Iv) : Iv := if (Iv.los l).length = 0 then Iv.none else Iv.make (Num.least (Iv.los l)) (Num.most (Iv.his l))

theorem rows_rn (ρ : List Nat) (L : List Num) : mapB (mapB (rn1 ρ)) (L.map Num.cells) = L.map Num.cells := by
  rw [mapB_eq, List.map_map]
  refine List.map_congr_left (fun x _ => ?_)
  rfl
theorem rows_in (k : Nat) (L : List Num) : allB (allB (in1 k)) (L.map Num.cells) = true := by
  rw [allB_eq, List.all_eq_true]
  intro r hr
  obtain ⟨x, _, rfl⟩ := List.mem_map.1 hr
  rfl
theorem Iv.los_next {l : List Iv} {i : Int} (h0 : 0 ≤ i) (h1 : i < l.length) (h : (l.getD i.toNat Iv.none).fair.empty = false) : Iv.los (l.take (i + 1).toNat) = Iv.los (l.take i.toNat) ++ [(l.getD i.toNat Iv.none).fair.lo] := by
  unfold Iv.los
  rw [Iv.goods_next h0 h1, if_neg (by rw [h]; decide)]
  simp
theorem Iv.his_next {l : List Iv} {i : Int} (h0 : 0 ≤ i) (h1 : i < l.length) (h : (l.getD i.toNat Iv.none).fair.empty = false) : Iv.his (l.take (i + 1).toNat) = Iv.his (l.take i.toNat) ++ [(l.getD i.toNat Iv.none).fair.hi] := by
  unfold Iv.his
  rw [Iv.goods_next h0 h1, if_neg (by rw [h]; decide)]
  simp
theorem app_rows (M : List Num) (x : Num) : ((M.map Num.cells).drop (0 : Int).toNat).take ((M.length : Int)).toNat ++ [x.cells] = (M ++ [x]).map Num.cells := by
  simp
  rw [List.take_of_length_le (by simp)]
theorem rows_mf (L : List Num) : allB (allB AV.mf1) (L.map Num.cells) = true := by
  rw [allB_eq, List.all_eq_true]
  intro r hr
  obtain ⟨x, _, rfl⟩ := List.mem_map.1 hr
  rfl
theorem rows_getD (M : List Num) (d : List AV) {i : Nat} (h : i < M.length) : (M.map Num.cells).getD ((0 : Int).toNat + i) d = (M.getD i Num.zero).cells := by
  rw [show (0 : Int).toNat + i = i by simp]
  simp [List.getD, List.getElem?_eq_getElem h]
theorem num_cells_self {x : Num} : sleL sle0 x.cells x.cells := ⟨⟨rfl, rfl⟩, rfl, ⟨rfl, rfl⟩, ⟨rfl, rfl⟩, trivial⟩
end Go.Proofs.YtoghalnnmhpfmaaGreat.Ev

/- The law of rules, all but roots: plain Lean. -/
namespace Go.Proofs.YtoghalnnmhpfmaaGreat.Ev
open Go

theorem Iv.bad_two (a b : Iv) : Iv.anyBad [a, b] = (a.bad || b.bad) := by simp [Iv.anyBad]
theorem Iv.bad_one (a : Iv) : Iv.anyBad [a] = a.bad := by simp [Iv.anyBad]

theorem Iv.add2_eq {a b : Iv} : Iv.add [a, b] = if (a.bad || b.bad) = true then Iv.none else Iv.make (Num.add a.lo b.lo false) (Num.add a.hi b.hi true) := by
  unfold Iv.add
  rw [Iv.bad_two]
  rfl
theorem Iv.add2_comm {a b : Iv} (ha : a.lo.ok ∧ a.hi.ok) (hb : b.lo.ok ∧ b.hi.ok) : Iv.add [a, b] = Iv.add [b, a] := by
  rw [Iv.add2_eq, Iv.add2_eq, Bool.or_comm, Num.add_comm ha.1 hb.1, Num.add_comm ha.2 hb.2]

theorem Num.least_perm {w x y z : Num} (hw : w.ok) (hx : x.ok) (hy : y.ok) (hz : z.ok) : Num.least [w, x, y, z] = Num.least [w, y, x, z] := by
  have s1 := Num.least_spec [w, x, y, z] (by simp; exact ⟨hw, hx, hy, hz⟩)
  have s2 := Num.least_spec [w, y, x, z] (by simp; exact ⟨hw, hy, hx, hz⟩)
  refine Num.val_inj s1.1 s2.1 s1.2.1 s2.2.1 ?_
  have l1 := s1.2.2.1
  have l2 := s2.2.2.1
  have top1 := (Num.val_le s1.1 s1.2.1).2
  have top2 := (Num.val_le s2.1 s2.2.1).2
  apply Int.le_antisymm
  · rcases s2.2.2.2 with e | ⟨v, hv, e⟩
    · rw [e, Num.val_inf]; simpa using top1
    · have := l1 v (by simp at hv ⊢; rcases hv with h | h | h | h <;> simp [h])
      rw [e]; exact this
  · rcases s1.2.2.2 with e | ⟨v, hv, e⟩
    · rw [e, Num.val_inf]; simpa using top2
    · have := l2 v (by simp at hv ⊢; rcases hv with h | h | h | h <;> simp [h])
      rw [e]; exact this
theorem Num.most_perm {w x y z : Num} (hw : w.ok) (hx : x.ok) (hy : y.ok) (hz : z.ok) : Num.most [w, x, y, z] = Num.most [w, y, x, z] := by
  have s1 := Num.most_spec [w, x, y, z] (by simp; exact ⟨hw, hx, hy, hz⟩)
  have s2 := Num.most_spec [w, y, x, z] (by simp; exact ⟨hw, hy, hx, hz⟩)
  refine Num.val_inj s1.1 s2.1 s1.2.1 s2.2.1 ?_
  have l1 := s1.2.2.1
  have l2 := s2.2.2.1
  have top1 := (Num.val_le s1.1 s1.2.1).1
  have top2 := (Num.val_le s2.1 s2.2.1).1
  apply Int.le_antisymm
  · rcases s1.2.2.2 with e | ⟨v, hv, e⟩
    · rw [e, Num.val_inf]; simpa using top2
    · have := l2 v (by simp at hv ⊢; rcases hv with h | h | h | h <;> simp [h])
      rw [e]; exact this
  · rcases s2.2.2.2 with e | ⟨v, hv, e⟩
    · rw [e, Num.val_inf]; simpa using top1
    · have := l1 v (by simp at hv ⊢; rcases hv with h | h | h | h <;> simp [h])
      rw [e]; exact this

theorem Iv.mul_comm {a b : Iv} (ha : a.lo.ok ∧ a.hi.ok) (hb : b.lo.ok ∧ b.hi.ok) : Iv.mul a b = Iv.mul b a := by
  unfold Iv.mul
  rw [Iv.bad_two, Iv.bad_two, Bool.or_comm]
  unfold Iv.corners
  rw [Num.least_perm (Num.mul_ok ha.1 hb.1 _) (Num.mul_ok ha.1 hb.2 _) (Num.mul_ok ha.2 hb.1 _) (Num.mul_ok ha.2 hb.2 _),
    Num.most_perm (Num.mul_ok ha.1 hb.1 _) (Num.mul_ok ha.1 hb.2 _) (Num.mul_ok ha.2 hb.1 _) (Num.mul_ok ha.2 hb.2 _)]
  rw [Num.mul_comm ha.1 hb.1 false, Num.mul_comm ha.2 hb.1 false, Num.mul_comm ha.1 hb.2 false, Num.mul_comm ha.2 hb.2 false,
    Num.mul_comm ha.1 hb.1 true, Num.mul_comm ha.2 hb.1 true, Num.mul_comm ha.1 hb.2 true, Num.mul_comm ha.2 hb.2 true]

theorem Iv.none_bad : Iv.none.bad = true := by decide
theorem Iv.neg_eq (a : Iv) : Iv.neg a = if a.bad = true then Iv.none else Iv.make a.hi.opp a.lo.opp := by
  unfold Iv.neg; rw [Iv.bad_one]

theorem Iv.Real.neg {x : Iv} (h : x.Real) : (Iv.mk false x.hi.opp x.lo.opp).Real := by
  have vl : x.lo.opp.val = -x.lo.val := by rw [Num.opp_val, Num.may_fair h.lom]
  have vh : x.hi.opp.val = -x.hi.val := by rw [Num.opp_val, Num.may_fair h.him]
  have l := h.lt
  have g := h.gt
  have le := h.le
  exact ⟨rfl, Num.opp_may _, Num.opp_may _, Num.opp_ok h.hio, Num.opp_ok h.loo, by show x.hi.opp.val ≤ x.lo.opp.val; omega, by show x.hi.opp.val < _; omega, by show _ < x.lo.opp.val; omega⟩
theorem Iv.neg_real {x : Iv} (h : x.Real) : Iv.neg x = ⟨false, x.hi.opp, x.lo.opp⟩ := by
  rw [Iv.neg_eq, if_neg (by rw [h.good]; decide)]
  have := Iv.make_real (lo := x.hi.opp) (hi := x.lo.opp) (by rw [Num.opp_fair, Num.opp_fair]; exact h.neg)
  rw [this, Num.opp_fair, Num.opp_fair]
end Go.Proofs.YtoghalnnmhpfmaaGreat.Ev

/- Squares are within products: plain Lean. -/
namespace Go.Proofs.YtoghalnnmhpfmaaGreat.Ev
open Go

theorem Iv.real_within {a b : Iv} (ha : a.Real) (hb : b.Real) (h1 : b.lo.val ≤ a.lo.val) (h2 : a.hi.val ≤ b.hi.val) : a.within b = true := by
  unfold Iv.within
  rw [ha.fair, hb.fair, ha.some, hb.some]
  have e1 : b.lo.cmp a.lo ≤ 0 := (Num.cmp_le hb.loo ha.loo).2 (by rw [Num.may_fair hb.lom, Num.may_fair ha.lom]; exact h1)
  have e2 : a.hi.cmp b.hi ≤ 0 := (Num.cmp_le ha.hio hb.hio).2 (by rw [Num.may_fair ha.him, Num.may_fair hb.him]; exact h2)
  simp [e1, e2]
end Go.Proofs.YtoghalnnmhpfmaaGreat.Ev

/- A square is within the product with itself: plain Lean. -/
namespace Go.Proofs.YtoghalnnmhpfmaaGreat.Ev
open Go

end Go.Proofs.YtoghalnnmhpfmaaGreat.Ev

namespace Go.Proofs.YtoghalnnmhpfmaaGreat.Ev
open Go Go.Proofs
set_option linter.unusedVariables false

theorem c_Least (l : List Num) (n : Int) (hn : n = l.length) (hb : n < 9223372036854775808) : ∃ t, t = Num.least l ∧ CallsA Tryz.prog 73 [.slc 4 (.s n) (fun i => Num.cells (l.getD i Num.zero))] (Num.av t) := by
  refine ⟨_, rfl, ?_⟩
  generalize hr : Num.least l = r
  obtain ⟨z, hz⟩ : ∃ z, z = Num.zero := ⟨_, rfl⟩
  rw [← hz]
  refine callsA_of hG hm Tryz.func73 (by kernel_rfl) ?_
  intro E hE lp hl
  cbv
  (apply E_callX hE (c_Inf _); (case hf => rfl); (case hc => (cbv <;> trivial)); (case hle => exact u_up); intro t ht; cbv)
  refine E_loopW hE hG hm hl (ι := Int × Num) (fun p => ⟨[(9, .int .i64 (.s p.1)), (8, .int .i64 (.s n)), (7, .slc 4 (.s n) (fun i => Num.cells (l.getD i z))), (3, .ptr 1 4 (.l 0) 0), (2, .ptr 0 4 (.l 0) 0)],
      [.rows true 4 [.int .i64 (.l 0), .bool (.l false), .int .u64 (.l 0), .int .i64 (.l 0)] [[.int .i64 (.l 0), .bool (.l false), .int .u64 (.l 0), .int .i64 (.l 0)]],
       .rows true 4 [.int .i64 (.l 0), .bool (.l false), .int .u64 (.l 0), .int .i64 (.l 0)] [Num.cells p.2]]⟩)
    (fun p => (n - p.1).toNat) (fun p => 0 ≤ p.1 ∧ p.1 ≤ n ∧ p.2 = Num.leastTo l p.1) (fun p => rfl) ⟨(0, t), ⟨Int.le_refl 0, (by show (0 : Int) ≤ n; rw [hn]; exact Int.natCast_nonneg _), ht⟩, stLe rfl ?_⟩ ?_
  · repeat' (first | exact t_nil | apply t_cons | exact u2_int | exact u2_ptr | exact u2_slc')
  rintro ⟨i, o⟩ ⟨h1, h2, h3⟩
  dsimp only at h1 h2 h3
  cbv
  repeat' (first
    | (refine E_br hE (fun h => ?_) (fun h => ?_) <;> cbv)
    | (refine E_nm hE (fun v hv => ?_); cbv)
    | (refine E_row hE (cell := Num.cells) (fun t ht => ?_); cbv)
    | (apply E_callX hE (c_Cmp ⟨_, _, _, _⟩ ⟨_, _, _, _⟩); (case hf => rfl); (case hc => (cbv <;> trivial)); (case hle => exact u_up); intro t ht; cbv)
    | (apply E_callX hE (c_fair ⟨_, _, _, _⟩); (case hf => rfl); (case hc => (cbv <;> trivial)); (case hle => exact u_up); intro t ht; cbv)
    | fail)
  all_goals (try (first
    | refine ⟨(E.bin .add .i64 i 1, t), ?_, ⟨?_, ?_, ?_⟩, stLeW rfl ⟨rfl, rfl, trivial⟩ ?_⟩
    | refine ⟨(E.bin .add .i64 i 1, o), ?_, ⟨?_, ?_, ?_⟩, stLeW rfl ⟨rfl, rfl, trivial⟩ ?_⟩))
  all_goals (try (refine w_cons ?_ rfl ?_; (repeat' (first | exact w_nil | refine w_cons ?_ rfl ?_ | exact u2_int | exact u2_ptr | exact u2_slc')); done))
  all_goals (subst hE; simp only [realE, cmp_lss, cmp_leq, intBinR, decide_eq_true_eq, decide_eq_false_iff_not, SI.val, SB.val, Num.eta] at *)
  all_goals (try rw [wi64_succ h1 ‹i < n› hb])
  all_goals (try omega)
  all_goals (replace hn : n = (l.length : Int) := hn)
  case hK.refine_2.refine_2 =>
    refine Num.fin (t := o) ?_
    have hi : i = n := by omega
    rw [← hr, h3, hi, hn, Num.leastTo_all]
  all_goals rw [Num.leastTo_succ l h1 (by omega), ← h3, ← hz, ← ‹_ = l.getD i.toNat z›]
  all_goals unfold Num.lesser
  all_goals (first | (rw [if_pos (by omega)]; assumption) | (rw [if_neg (by omega)]))

theorem c_Most (l : List Num) (n : Int) (hn : n = l.length) (hb : n < 9223372036854775808) : ∃ t, t = Num.most l ∧ CallsA Tryz.prog 58 [.slc 4 (.s n) (fun i => Num.cells (l.getD i Num.zero))] (Num.av t) := by
  refine ⟨_, rfl, ?_⟩
  generalize hr : Num.most l = r
  obtain ⟨z, hz⟩ : ∃ z, z = Num.zero := ⟨_, rfl⟩
  rw [← hz]
  refine callsA_of hG hm Tryz.func58 (by kernel_rfl) ?_
  intro E hE lp hl
  cbv
  (apply E_callX hE (c_Inf _); (case hf => rfl); (case hc => (cbv <;> trivial)); (case hle => exact u_up); intro t ht; cbv)
  refine E_loopW hE hG hm hl (ι := Int × Num) (fun p => ⟨[(9, .int .i64 (.s p.1)), (8, .int .i64 (.s n)), (7, .slc 4 (.s n) (fun i => Num.cells (l.getD i z))), (3, .ptr 1 4 (.l 0) 0), (2, .ptr 0 4 (.l 0) 0)],
      [.rows true 4 [.int .i64 (.l 0), .bool (.l false), .int .u64 (.l 0), .int .i64 (.l 0)] [[.int .i64 (.l 0), .bool (.l false), .int .u64 (.l 0), .int .i64 (.l 0)]],
       .rows true 4 [.int .i64 (.l 0), .bool (.l false), .int .u64 (.l 0), .int .i64 (.l 0)] [Num.cells p.2]]⟩)
    (fun p => (n - p.1).toNat) (fun p => 0 ≤ p.1 ∧ p.1 ≤ n ∧ p.2 = Num.mostTo l p.1) (fun p => rfl) ⟨(0, t), ⟨Int.le_refl 0, (by show (0 : Int) ≤ n; rw [hn]; exact Int.natCast_nonneg _), ht⟩, stLe rfl ?_⟩ ?_
  · repeat' (first | exact t_nil | apply t_cons | exact u2_int | exact u2_ptr | exact u2_slc')
  rintro ⟨i, o⟩ ⟨h1, h2, h3⟩
  dsimp only at h1 h2 h3
  cbv
  repeat' (first
    | (refine E_br hE (fun h => ?_) (fun h => ?_) <;> cbv)
    | (refine E_nm hE (fun v hv => ?_); cbv)
    | (refine E_row hE (cell := Num.cells) (fun t ht => ?_); cbv)
    | (apply E_callX hE (c_Cmp ⟨_, _, _, _⟩ ⟨_, _, _, _⟩); (case hf => rfl); (case hc => (cbv <;> trivial)); (case hle => exact u_up); intro t ht; cbv)
    | (apply E_callX hE (c_fair ⟨_, _, _, _⟩); (case hf => rfl); (case hc => (cbv <;> trivial)); (case hle => exact u_up); intro t ht; cbv)
    | fail)
  all_goals (try (first
    | refine ⟨(E.bin .add .i64 i 1, t), ?_, ⟨?_, ?_, ?_⟩, stLeW rfl ⟨rfl, rfl, trivial⟩ ?_⟩
    | refine ⟨(E.bin .add .i64 i 1, o), ?_, ⟨?_, ?_, ?_⟩, stLeW rfl ⟨rfl, rfl, trivial⟩ ?_⟩))
  all_goals (try (refine w_cons ?_ rfl ?_; (repeat' (first | exact w_nil | refine w_cons ?_ rfl ?_ | exact u2_int | exact u2_ptr | exact u2_slc')); done))
  all_goals (subst hE; simp only [realE, cmp_lss, cmp_leq, cmp_gtr, intBinR, decide_eq_true_eq, decide_eq_false_iff_not, SI.val, SB.val, Num.eta] at *)
  all_goals (try rw [wi64_succ h1 ‹i < n› hb])
  all_goals (try omega)
  all_goals (replace hn : n = (l.length : Int) := hn)
  case hK.refine_2.refine_2 =>
    refine Num.fin (t := o) ?_
    have hi : i = n := by omega
    rw [← hr, h3, hi, hn, Num.mostTo_all]
  all_goals rw [Num.mostTo_succ l h1 (by omega), ← h3, ← hz, ← ‹_ = l.getD i.toNat z›]
  all_goals unfold Num.greater
  all_goals (first | (rw [if_pos (by omega)]; assumption) | (rw [if_neg (by omega)]))

end Go.Proofs.YtoghalnnmhpfmaaGreat.Ev

/- Contracts: the operations on intervals. -/
namespace Go.Proofs.YtoghalnnmhpfmaaGreat.Ev
open Go Go.Proofs
set_option linter.unusedVariables false
theorem c_none (l : List Iv) (n : Int) (hn : n = l.length) (hb : n < 9223372036854775808) : ∃ t, t = Iv.anyBad l ∧ CallsA Tryz.prog 55 [.slc 9 (.s n) (fun i => Iv.cells (l.getD i Iv.none))] (.bool (.s t)) := by
  refine ⟨_, rfl, ?_⟩
  generalize hr : Iv.anyBad l = r
  obtain ⟨z, hz⟩ : ∃ z, z = Iv.none := ⟨_, rfl⟩
  rw [← hz]
  refine callsA_of hG hm Tryz.func55 (by kernel_rfl) ?_
  intro E hE lp hl
  cbv
  refine E_loopW hE hG hm hl (ι := Int) (fun i => ⟨[(7, .int .i64 (.s i)), (6, .int .i64 (.s n)), (5, .slc 9 (.s n) (fun i => Iv.cells (l.getD i z))), (2, .bool (.l false))], []⟩)
    (fun i => (n - i).toNat) (fun i => 0 ≤ i ∧ i ≤ n ∧ Iv.badTo l i = false) (fun p => rfl) ⟨0, ⟨Int.le_refl 0, (by show (0 : Int) ≤ n; rw [hn]; exact Int.natCast_nonneg _), rfl⟩, stLe rfl ?_⟩ ?_
  · repeat' (first | exact t_nil | apply t_cons | exact u2_int | exact u2_ptr | exact u2_slc' | exact (rfl : sle2 (.bool (.l false)) (.bool (.l false))))
  rintro i ⟨h1, h2, h3⟩
  cbv
  repeat' (first
    | (refine E_br hE (fun h => ?_) (fun h => ?_) <;> cbv)
    | (refine E_nm hE (fun v hv => ?_); cbv)
    | (refine E_row hE (cell := Iv.cells) (fun t ht => ?_); cbv)
    | (apply E_callX hE (c_ivMay ⟨_, ⟨_, _, _, _⟩, ⟨_, _, _, _⟩⟩); (case hf => rfl); (case hc => (cbv <;> trivial)); (case hle => exact u_up); intro t ht; cbv)
    | fail)
  all_goals (try refine ⟨E.bin .add .i64 i 1, ?_, ⟨?_, ?_, ?_⟩, stLeW rfl trivial ?_⟩)
  all_goals (try (refine w_cons ?_ rfl ?_; (repeat' (first | exact w_nil | refine w_cons ?_ rfl ?_ | exact u2_int | exact u2_ptr | exact u2_slc' | exact (rfl : sle2 (.bool (.l false)) (.bool (.l false))))); done))
  all_goals (subst hE; simp only [realE, cmp_lss, cmp_leq, intBinR, decide_eq_true_eq, decide_eq_false_iff_not, SI.val, SB.val, Num.eta, Iv.eta] at *)
  all_goals (try rw [wi64_succ h1 ‹i < n› hb])
  all_goals (try omega)
  all_goals (replace hn : n = (l.length : Int) := hn)
  all_goals subst hz
  case refine_2.refine_2 =>
    have hi : i = (l.length : Int) := by omega
    rw [← hr, ← Iv.badTo_all, ← hi, h3]
  all_goals first
    | (rw [← hr]; refine (Iv.anyBad_at l h1 (by omega) ?_).symm; rw [← ‹_ = l.getD i.toNat Iv.none›]; unfold Iv.bad; simp_all; done)
    | (rw [Iv.badTo_succ l h1 (by omega), h3, ← ‹_ = l.getD i.toNat Iv.none›]; unfold Iv.bad; simp_all; done)

end Go.Proofs.YtoghalnnmhpfmaaGreat.Ev

/- Contracts: the product of intervals. -/
namespace Go.Proofs.YtoghalnnmhpfmaaGreat.Ev
open Go Go.Proofs
set_option linter.unusedVariables false

theorem iv_cells_self {x : Iv} : sleL sle0 x.cells x.cells :=
  ⟨rfl, ⟨rfl, rfl⟩, rfl, ⟨rfl, rfl⟩, ⟨rfl, rfl⟩, ⟨rfl, rfl⟩, rfl, ⟨rfl, rfl⟩, ⟨rfl, rfl⟩, trivial⟩
end Go.Proofs.YtoghalnnmhpfmaaGreat.Ev

/- Contracts: a division of two words by one. -/
namespace Go.Proofs.YtoghalnnmhpfmaaGreat.Ev
open Go Go.Proofs
set_option linter.unusedVariables false
end Go.Proofs.YtoghalnnmhpfmaaGreat.Ev

/- Contracts: whole numbers as numbers, the quotient. Printed by gen.py out of C9.spec. -/
namespace Go.Proofs.YtoghalnnmhpfmaaGreat.Ev
open Go Go.Proofs
set_option linter.unusedVariables false
set_option linter.unusedSimpArgs false

theorem c_Of (n : Int) (h0 : -9223372036854775808 ≤ n) (h1 : n < 9223372036854775808) : ∃ t : Num, t = Num.ofInt n ∧ CallsA Tryz.prog 31 [.int .i64 (.s n)] (t.av) := by
  refine ⟨_, rfl, ?_⟩
  generalize hr : Num.ofInt n = r
  refine callsA_of hG hm Tryz.func31 (by kernel_rfl) ?_
  intro E hE lp hl
  cbv
  repeat' (first
    | (refine E_br hE (fun h => ?_) (fun h => ?_) <;> cbv)
    | (refine E_nm hE (fun v hv => ?_); cbv)
    | (apply E_callX hE (c_LZ64 _ ?_ ?_); (case hf => rfl); (case hc => (cbv <;> trivial)); (case hle => exact u_up); all_goals (first | (intro t ht; cbv) | (subst hE; (try simp only [realE, cmp_eql, cmp_neq, cmp_lss, cmp_leq, cmp_gtr, cmp_geq, intBinR, decide_eq_true_eq, decide_eq_false_iff_not, SI.val, SB.val, Num.eta, Iv.eta] at *); (subst_vars; simp only [wu64]; omega))))
    | fail)
  all_goals (subst hE; subst hr)
  all_goals (try simp only [realE, cmp_eql, cmp_neq, cmp_lss, cmp_leq, cmp_gtr, cmp_geq, intBinR, decide_eq_true_eq, decide_eq_false_iff_not, SI.val, SB.val, Num.eta, Iv.eta] at *)
  all_goals (try subst_vars)
  all_goals (first | rw [wabs_neg h0 ‹n < 0›] at * | rw [wabs_pos (show 0 ≤ n by omega) h1] at *)
  all_goals (try (exfalso; have := blen_le 64 (x := (n.natAbs : Int)) (by omega); omega))
  case refine_2.hK.refine_1 =>
    have e : n = 0 := by omega
    subst e
    exact ⟨rfl, rfl, rfl, rfl, trivial⟩
  all_goals (unfold Num.ofInt; rw [if_neg (by omega)]; exact ⟨rfl, rfl, rfl, rfl, trivial⟩)

end Go.Proofs.YtoghalnnmhpfmaaGreat.Ev

/- What the contracts of intervals are told with. -/
namespace Go.Proofs.YtoghalnnmhpfmaaGreat.Ev
open Go Go.Proofs
set_option linter.unusedVariables false
set_option linter.unusedSimpArgs false
theorem Iv.fin {t r : Iv} (h : t = r) : t.empty = r.empty ∧ t.lo.kind = r.lo.kind ∧ t.lo.neg = r.lo.neg ∧ t.lo.m = r.lo.m ∧ t.lo.e = r.lo.e ∧ t.hi.kind = r.hi.kind ∧ t.hi.neg = r.hi.neg ∧ t.hi.m = r.hi.m ∧ t.hi.e = r.hi.e ∧ True := by
  subst h; exact ⟨rfl, rfl, rfl, rfl, rfl, rfl, rfl, rfl, rfl, trivial⟩
theorem slcO1 {P : Program} {E : Env} (hE : E = realE P) {a z : Iv} {d : List AV} : sle2 (.slc 9 (.l 1) (E.rfun [a.cells] 0 d)) (.slc 9 (.s 1) (fun i => Iv.cells ([a].getD i z))) := by
  subst hE
  refine ⟨rfl, rfl, fun i hi => ?_⟩
  match i, hi with
  | 0, _ => exact iv_cells_self
  | i + 1, hi => exact absurd hi (by simp [SI.val])
end Go.Proofs.YtoghalnnmhpfmaaGreat.Ev

/- Contracts: the quotient of intervals. Printed by gen.py out of C10.spec. -/
namespace Go.Proofs.YtoghalnnmhpfmaaGreat.Ev
open Go Go.Proofs
set_option linter.unusedVariables false
set_option linter.unusedSimpArgs false

end Go.Proofs.YtoghalnnmhpfmaaGreat.Ev

/- Contracts: the opposite of an interval, how far from nought, the square. Printed by gen.py out of C11.spec. -/
namespace Go.Proofs.YtoghalnnmhpfmaaGreat.Ev
open Go Go.Proofs
set_option linter.unusedVariables false
set_option linter.unusedSimpArgs false

theorem c_opNeg (a : Iv)  : ∃ t : Iv, t = Iv.neg a ∧ CallsA Tryz.prog 40 [a.av] (t.av) := by
  refine ⟨_, rfl, ?_⟩
  generalize hr : Iv.neg a = r
  refine callsA_of hG hm Tryz.func40 (by kernel_rfl) ?_
  intro E hE lp hl
  cbv
  repeat' (first
    | (refine E_br hE (fun h => ?_) (fun h => ?_) <;> cbv)
    | (refine E_nm hE (fun v hv => ?_); cbv)
    | (apply E_callX hE (c_none [a] 1 rfl (by decide)); (case hf => rfl); (case hc => (cbv <;> trivial)); (case hle => exact ⟨slcO1 hE, trivial⟩); intro t ht; cbv)
    | (apply E_pcallX hE (c_Neg ⟨_, _, _, _⟩); (case hm => rfl); (case hle => exact u_up); intro t ht; cbv)
    | (apply E_callX hE (c_ivNone ); (case hf => rfl); (case hc => (cbv <;> trivial)); (case hle => exact u_up); intro t ht; cbv)
    | (apply E_pcallX hE (c_ivMake ⟨_, _, _, _⟩ ⟨_, _, _, _⟩); (case hm => rfl); (case hle => exact u_up); intro t ht; cbv)
    | fail)
  all_goals (subst hE; subst hr)
  all_goals (try simp only [realE, cmp_eql, cmp_neq, cmp_lss, cmp_leq, cmp_gtr, cmp_geq, intBinR, decide_eq_true_eq, decide_eq_false_iff_not, SI.val, SB.val, Num.eta, Iv.eta] at *)
  all_goals (try refine Iv.fin (t := ⟨_, ⟨_, _, _, _⟩, ⟨_, _, _, _⟩⟩) ?_)
  all_goals (subst_vars; unfold Iv.neg; simp_all)

theorem c_ivOf (a : Int) (b : Int) (h0 : -9223372036854775808 ≤ a) (h1 : a < 9223372036854775808) (h2 : -9223372036854775808 ≤ b) (h3 : b < 9223372036854775808) : ∃ t : Iv, t = Iv.ofInts a b ∧ CallsA Tryz.prog 30 [.int .i64 (.s a), .int .i64 (.s b)] (t.av) := by
  refine ⟨_, rfl, ?_⟩
  generalize hr : Iv.ofInts a b = r
  refine callsA_of hG hm Tryz.func30 (by kernel_rfl) ?_
  intro E hE lp hl
  cbv
  repeat' (first
    | (refine E_br hE (fun h => ?_) (fun h => ?_) <;> cbv)
    | (refine E_nm hE (fun v hv => ?_); cbv)
    | (apply E_callX hE (c_Of _ ?_ ?_); (case hf => rfl); (case hc => (cbv <;> trivial)); (case hle => exact u_up); all_goals (first | (intro t ht; cbv) | (subst hE; (try simp only [realE, cmp_eql, cmp_neq, cmp_lss, cmp_leq, cmp_gtr, cmp_geq, intBinR, decide_eq_true_eq, decide_eq_false_iff_not, SI.val, SB.val, Num.eta, Iv.eta] at *); first | assumption | omega)))
    | (apply E_callX hE (c_ivMake ⟨_, _, _, _⟩ ⟨_, _, _, _⟩); (case hf => rfl); (case hc => (cbv <;> trivial)); (case hle => exact u_up); intro t ht; cbv)
    | fail)
  all_goals (subst hE; subst hr)
  all_goals (try simp only [realE, cmp_eql, cmp_neq, cmp_lss, cmp_leq, cmp_gtr, cmp_geq, intBinR, decide_eq_true_eq, decide_eq_false_iff_not, SI.val, SB.val, Num.eta, Iv.eta] at *)
  all_goals (try refine Iv.fin (t := ⟨_, ⟨_, _, _, _⟩, ⟨_, _, _, _⟩⟩) ?_)
  all_goals (subst_vars; rfl)

end Go.Proofs.YtoghalnnmhpfmaaGreat.Ev

/- Contracts: the chapter's examples. Printed by gen.py out of C12a.spec. -/
namespace Go.Proofs.YtoghalnnmhpfmaaGreat.Ev
open Go Go.Proofs
set_option linter.unusedVariables false
set_option linter.unusedSimpArgs false

end Go.Proofs.YtoghalnnmhpfmaaGreat.Ev

/- Contracts: the sum and the difference of two words with a carry; these have no body in the program's form: the model answers at once. -/
namespace Go.Proofs.YtoghalnnmhpfmaaGreat.Ev
open Go Go.Proofs Go.RowKit
set_option linter.unusedVariables false

theorem three_vals {O : Nat → Prop} {w : World} {x y c : Int} {vals : Array Value} (hl : [AV.int .u64 (.s x), AV.int .u64 (.s y), AV.int .u64 (.s c)].length = vals.size)
    (hr : ∀ (j : Nat) (a : AV), [AV.int .u64 (.s x), AV.int .u64 (.s y), AV.int .u64 (.s c)][j]? = some a → RoV O w a (vals.getD j undef)) : vals = #[.int .u64 x, .int .u64 y, .int .u64 c] := by
  have g : ∀ {n : Int} {v : Value}, RoV O w (.int .u64 (.s n)) v → v = .int .u64 n := by
    intro n v h; cases h; rename_i h; subst h; rfl
  have e0 := g (hr 0 _ rfl)
  have e1 := g (hr 1 _ rfl)
  have e2 := g (hr 2 _ rfl)
  obtain ⟨l⟩ := vals
  rcases l with _ | ⟨a, _ | ⟨b, _ | ⟨d, _ | ⟨e, r⟩⟩⟩⟩ <;> simp at hl
  simp at e0 e1 e2
  rw [e0, e1, e2]

theorem ro_pair {O : Nat → Prop} {w : World} (a b : Int) : RoV O w (.tup [.int .u64 (.s a), .int .u64 (.s b)]) (.tuple #[.int .u64 a, .int .u64 b]) := by
  refine .tup _ _ rfl (fun j c hj => ?_)
  match j, hj with
  | 0, hj => simp at hj; subst hj; exact .int _ _ _ rfl
  | 1, hj => simp at hj; subst hj; exact .int _ _ _ rfl
  | j + 2, hj => simp at hj

theorem c_Add64 (x y c : Int) (hx : 0 ≤ x) (hy : 0 ≤ y) (hc0 : 0 ≤ c) (hc : c ≤ 1) : ∃ t : Int × Int, t = ((x + y + c) % 18446744073709551616, (x + y + c) / 18446744073709551616) ∧
    CallsA Tryz.prog 141 [.int .u64 (.s x), .int .u64 (.s y), .int .u64 (.s c)] (.tup [.int .u64 (.s t.1), .int .u64 (.s t.2)]) := by
  refine ⟨_, rfl, fun O w vals hO hl hr => .inr ⟨.tuple #[.int .u64 ((x + y + c) % 18446744073709551616), .int .u64 ((x + y + c) / 18446744073709551616)], ?_, _, rfl, ro_pair _ _, Below.refl _ _⟩⟩
  rw [three_vals hl hr, run_callFunc_extern Tryz.func141 (by kernel_rfl) (by kernel_rfl) (by kernel_rfl) (e := add64Entry) (by kernel_rfl), run_add64 x y c hx hy hc0 hc]
  rfl

def subE : Array Value → Sem Value := (Extern.MathBitsCarry.rows.getD 1 ("", fun _ => pure .nilIface)).2
theorem run_subE {P : Program} (x y b : Int) (hx : 0 ≤ x) (hy : 0 ≤ y) (hy' : y < 18446744073709551616) (hb0 : 0 ≤ b) (hb : b ≤ 1) (w : World) :
    (subE #[.int .u64 x, .int .u64 y, .int .u64 b]).run P w = .ok (.tuple #[.int .u64 ((x - y - b) % 18446744073709551616), .int .u64 (if x < y + b then 1 else 0)]) w := by
  have key : ∀ k : Nat, k ≤ 1 → (subE #[.int .u64 x, .int .u64 y, .int .u64 (k : Int)]).run P w =
      .ok (Extern.MathBitsCarry.pair ((x.toNat + Extern.MathBitsCarry.m64 - y.toNat - k) % Extern.MathBitsCarry.m64) (if x.toNat < y.toNat + k then 1 else 0)) w := by
    intro k hk
    have : k = 0 ∨ k = 1 := by omega
    rcases this with rfl | rfl <;> rfl
  obtain ⟨k, rfl⟩ := Int.eq_ofNat_of_zero_le hb0
  rw [key k (by omega)]
  obtain ⟨X, rfl⟩ := Int.eq_ofNat_of_zero_le hx
  obtain ⟨Y, rfl⟩ := Int.eq_ofNat_of_zero_le hy
  have e1 : ((((X : Int).toNat + Extern.MathBitsCarry.m64 - (Y : Int).toNat - k) % Extern.MathBitsCarry.m64 : Nat) : Int) = ((X : Int) - Y - k) % 18446744073709551616 := by
    simp only [Extern.MathBitsCarry.m64, Int.toNat_natCast]; omega
  have e2 : (((if (X : Int).toNat < (Y : Int).toNat + k then 1 else 0 : Nat)) : Int) = if (X : Int) < Y + k then 1 else 0 := by
    simp only [Int.toNat_natCast]; split <;> split <;> omega
  show Result.ok (Value.tuple #[.int .u64 _, .int .u64 _]) w = _
  rw [← e1, ← e2]
  rfl
theorem c_Sub64 (x y b : Int) (hx : 0 ≤ x) (hy : 0 ≤ y) (hy' : y < 18446744073709551616) (hb0 : 0 ≤ b) (hb : b ≤ 1) : ∃ t : Int × Int, t = ((x - y - b) % 18446744073709551616, if x < y + b then 1 else 0) ∧
    CallsA Tryz.prog 142 [.int .u64 (.s x), .int .u64 (.s y), .int .u64 (.s b)] (.tup [.int .u64 (.s t.1), .int .u64 (.s t.2)]) := by
  refine ⟨_, rfl, fun O w vals hO hl hr => .inr ⟨.tuple #[.int .u64 ((x - y - b) % 18446744073709551616), .int .u64 (if x < y + b then 1 else 0)], ?_, _, rfl, ro_pair _ _, Below.refl _ _⟩⟩
  rw [three_vals hl hr, run_callFunc_extern Tryz.func142 (by kernel_rfl) (by kernel_rfl) (by kernel_rfl) (e := subE) (by kernel_rfl), run_subE x y b hx hy hy' hb0 hb]
  rfl
end Go.Proofs.YtoghalnnmhpfmaaGreat.Ev

/- Contracts: sums. Printed by gen.py out of C14.spec. -/
namespace Go.Proofs.YtoghalnnmhpfmaaGreat.Ev
open Go Go.Proofs
set_option linter.unusedVariables false
set_option linter.unusedSimpArgs false

theorem c_lower (m : Int) (k : Int) (h0 : 0 < m) (h1 : m < 18446744073709551616) (h2 : 0 ≤ k) (h3 : k < 9223372036854775808) : ∃ t : Dbl, t = lowerP m k ∧ CallsA Tryz.prog 140 [.int .u64 (.s m), .int .i64 (.s k)] (t.av) := by
  refine ⟨_, rfl, ?_⟩
  generalize hr : lowerP m k = r
  refine callsA_of hG hm Tryz.func140 (by kernel_rfl) ?_
  intro E hE lp hl
  cbv
  repeat' (first
    | (apply E_br_t hE; assumption; cbv)
    | (apply E_br_f hE; assumption; cbv)
    | (refine E_br hE (fun h => ?_) (fun h => ?_) <;> cbv)
    | (refine E_nm hE (fun v hv => ?_); cbv)
    | fail)
  all_goals (subst hE; subst hr)
  all_goals (try simp only [realE, cmp_eql, cmp_neq, cmp_lss, cmp_leq, cmp_gtr, cmp_geq, intBinR, decide_eq_true_eq, decide_eq_false_iff_not, SI.val, SB.val, Num.eta, Iv.eta] at *)
  all_goals (try (exfalso; (try simp only [wi64] at *); omega))
  case refine_1.refine_2.refine_2 =>
    rw [lower_small h2 ‹k < 64›, show IntKind.i64.wrap (64 - k) = 64 - k by (simp only [wi64]; omega), show min k.toNat IntKind.u64.bits = k.toNat by (show min k.toNat 64 = _; omega),
      show min (64 - k).toNat IntKind.u64.bits = (64 - k).toNat by (show min (64 - k).toNat 64 = _; omega), shr_lit (Int.le_of_lt (two_pos _)), wu64]
    exact ⟨rfl, rfl, rfl, trivial⟩
  case refine_2.refine_1.refine_2.refine_2 =>
    have ev : v = k - 64 := by rw [hv]; simp only [wi64]; omega
    subst ev
    rw [lower_mid (by omega) h1 (by omega) ‹k < 128›, show IntKind.i64.wrap (64 - (k - 64)) = 128 - k by (simp only [wi64]; omega), show min (k - 64).toNat IntKind.u64.bits = (k - 64).toNat by (show min (k - 64).toNat 64 = _; omega),
      show min (128 - k).toNat IntKind.u64.bits = (128 - k).toNat by (show min (128 - k).toNat 64 = _; omega), shr_lit (Int.le_of_lt (two_pos _)), wu64]
    exact ⟨rfl, rfl, rfl, trivial⟩
  case refine_2.refine_2 =>
    rw [lower_far h0 h1 (by omega)]
    exact ⟨rfl, rfl, rfl, trivial⟩

theorem c_plus (a : Num) (b : Num) (up : Bool) (ha : a.Fin) (hb : b.Fin) (hk : b.e ≤ a.e) : ∃ t : Num, t = plusP a b up ∧ CallsA Tryz.prog 108 [a.av, b.av, .bool (.s up)] (t.av) := by
  refine ⟨_, rfl, ?_⟩
  generalize hr : plusP a b up = r
  refine callsA_of hG hm Tryz.func108 (by kernel_rfl) ?_
  intro E hE lp hl
  cbv
  repeat' (first
    | (apply E_br_t hE; assumption; cbv)
    | (apply E_br_f hE; assumption; cbv)
    | (refine E_br hE (fun h => ?_) (fun h => ?_) <;> cbv)
    | (refine E_nm hE (fun v hv => ?_); cbv)
    | (apply E_callX hE (c_lower _ _ ?_ ?_ ?_ ?_); (case hf => rfl); (case hc => (cbv <;> trivial)); (case hle => exact u_up); all_goals (first | (intro t ht; cbv) | (subst hE; (try simp only [realE, cmp_eql, cmp_neq, cmp_lss, cmp_leq, cmp_gtr, cmp_geq, intBinR, decide_eq_true_eq, decide_eq_false_iff_not, SI.val, SB.val, Num.eta, Iv.eta] at *); (have := ha.lo; have := ha.hi; have := hb.lo; have := hb.hi; have := ha.elo; have := ha.ehi; have := hb.elo; have := hb.ehi; first | omega | exact (show 0 < b.m by omega) | exact (show b.m < 18446744073709551616 by omega) | exact (show 0 ≤ IntKind.i64.wrap (a.e - b.e) by (simp only [wi64]; omega)) | exact (show IntKind.i64.wrap (a.e - b.e) < 9223372036854775808 by (simp only [wi64]; omega)) | exact (show 0 ≤ a.m by omega) | (subst_vars; exact lowerP_nn _ _ (by omega))))))
    | (apply E_callX hE (c_Add64 _ _ _ ?_ ?_ ?_ ?_); (case hf => rfl); (case hc => (cbv <;> trivial)); (case hle => exact u_up); all_goals (first | (intro t ht; cbv) | (subst hE; (try simp only [realE, cmp_eql, cmp_neq, cmp_lss, cmp_leq, cmp_gtr, cmp_geq, intBinR, decide_eq_true_eq, decide_eq_false_iff_not, SI.val, SB.val, Num.eta, Iv.eta] at *); (have := ha.lo; have := ha.hi; have := hb.lo; have := hb.hi; have := ha.elo; have := ha.ehi; have := hb.elo; have := hb.ehi; first | omega | exact (show 0 < b.m by omega) | exact (show b.m < 18446744073709551616 by omega) | exact (show 0 ≤ IntKind.i64.wrap (a.e - b.e) by (simp only [wi64]; omega)) | exact (show IntKind.i64.wrap (a.e - b.e) < 9223372036854775808 by (simp only [wi64]; omega)) | exact (show 0 ≤ a.m by omega) | (subst_vars; exact lowerP_nn _ _ (by omega))))))
    | (apply E_callX hE (c_Grow _ _ _ _ _); (case hf => rfl); (case hc => (cbv <;> trivial)); (case hle => exact u_up); intro t ht; cbv)
    | fail)
  all_goals (subst hE; subst hr)
  all_goals (try simp only [realE, cmp_eql, cmp_neq, cmp_lss, cmp_leq, cmp_gtr, cmp_geq, intBinR, decide_eq_true_eq, decide_eq_false_iff_not, SI.val, SB.val, Num.eta, Iv.eta] at *)
  all_goals (refine Num.fin (t := t) ?_)
  all_goals (subst_vars; dsimp only at *)
  all_goals (have hw : IntKind.i64.wrap (a.e - b.e) = a.e - b.e := by (have := ha.elo; have := ha.ehi; have := hb.elo; have := hb.ehi; rw [wi64]; omega))
  all_goals (simp only [hw] at *)
  all_goals (first | rw [plus_carry ha hb rfl ‹_›] | rw [plus_flat ha hb rfl ‹_›])
  all_goals (first | (simp [*]; done) | (simp [*]; rfl) | trace_state)

end Go.Proofs.YtoghalnnmhpfmaaGreat.Ev

/- Contracts: differences. Printed by gen.py out of C15.spec. -/
namespace Go.Proofs.YtoghalnnmhpfmaaGreat.Ev
open Go Go.Proofs
set_option linter.unusedVariables false
set_option linter.unusedSimpArgs false

set_option maxHeartbeats 4000000 in
theorem c_minus (a : Num) (b : Num) (up : Bool) (ha : a.Fin) (hb : b.Fin) (hk : b.e ≤ a.e) (hgt : b.e < a.e ∨ b.m < a.m) : ∃ t : Num, t = minusP a b up ∧ CallsA Tryz.prog 109 [a.av, b.av, .bool (.s up)] (t.av) := by
  refine ⟨_, rfl, ?_⟩
  generalize hr : minusP a b up = r
  refine callsA_of hG hm Tryz.func109 (by kernel_rfl) ?_
  intro E hE lp hl
  cbv
  repeat' (first
    | (apply E_br_t hE; assumption; cbv)
    | (apply E_br_f hE; assumption; cbv)
    | (refine E_br hE (fun h => ?_) (fun h => ?_) <;> cbv)
    | (refine E_nm hE (fun v hv => ?_); cbv)
    | (apply E_callX hE (c_lower _ _ ?_ ?_ ?_ ?_); (case hf => rfl); (case hc => (cbv <;> trivial)); (case hle => exact u_up); all_goals (first | (intro t ht; cbv) | (subst hE; (try simp only [realE, cmp_eql, cmp_neq, cmp_lss, cmp_leq, cmp_gtr, cmp_geq, intBinR, decide_eq_true_eq, decide_eq_false_iff_not, SI.val, SB.val, Num.eta, Iv.eta] at *); (have := ha.lo; have := ha.hi; have := hb.lo; have := hb.hi; have := ha.elo; have := ha.ehi; have := hb.elo; have := hb.ehi; first | omega | exact (show 0 < b.m by omega) | exact (show b.m < 18446744073709551616 by omega) | exact (show 0 ≤ IntKind.i64.wrap (a.e - b.e) by (simp only [wi64]; omega)) | exact (show IntKind.i64.wrap (a.e - b.e) < 9223372036854775808 by (simp only [wi64]; omega)) | exact (show 0 ≤ a.m by omega) | (subst_vars; first | exact lowerP_nn _ _ (by omega) | exact lowerP_lo _ _ | exact lowerP_lo2 _ _ | exact lowerP_hi2 _ _ (by omega) (by omega) | (dsimp only; first | exact Int.emod_nonneg _ (by decide) | exact Int.emod_lt_of_pos _ (by decide) | exact borrow_nn _ | exact borrow_le _))))))
    | (apply E_callX hE (c_Sub64 _ _ _ ?_ ?_ ?_ ?_ ?_); (case hf => rfl); (case hc => (cbv <;> trivial)); (case hle => exact u_up); all_goals (first | (intro t ht; cbv) | (subst hE; (try simp only [realE, cmp_eql, cmp_neq, cmp_lss, cmp_leq, cmp_gtr, cmp_geq, intBinR, decide_eq_true_eq, decide_eq_false_iff_not, SI.val, SB.val, Num.eta, Iv.eta] at *); (have := ha.lo; have := ha.hi; have := hb.lo; have := hb.hi; have := ha.elo; have := ha.ehi; have := hb.elo; have := hb.ehi; first | omega | exact (show 0 < b.m by omega) | exact (show b.m < 18446744073709551616 by omega) | exact (show 0 ≤ IntKind.i64.wrap (a.e - b.e) by (simp only [wi64]; omega)) | exact (show IntKind.i64.wrap (a.e - b.e) < 9223372036854775808 by (simp only [wi64]; omega)) | exact (show 0 ≤ a.m by omega) | (subst_vars; first | exact lowerP_nn _ _ (by omega) | exact lowerP_lo _ _ | exact lowerP_lo2 _ _ | exact lowerP_hi2 _ _ (by omega) (by omega) | (dsimp only; first | exact Int.emod_nonneg _ (by decide) | exact Int.emod_lt_of_pos _ (by decide) | exact borrow_nn _ | exact borrow_le _))))))
    | (apply E_callX hE (c_LZ64 _ ?_ ?_); (case hf => rfl); (case hc => (cbv <;> trivial)); (case hle => exact u_up); all_goals (first | (intro t ht; cbv) | (subst hE; (try simp only [realE, cmp_eql, cmp_neq, cmp_lss, cmp_leq, cmp_gtr, cmp_geq, intBinR, decide_eq_true_eq, decide_eq_false_iff_not, SI.val, SB.val, Num.eta, Iv.eta] at *); (have := ha.lo; have := ha.hi; have := hb.lo; have := hb.hi; have := ha.elo; have := ha.ehi; have := hb.elo; have := hb.ehi; first | omega | exact (show 0 < b.m by omega) | exact (show b.m < 18446744073709551616 by omega) | exact (show 0 ≤ IntKind.i64.wrap (a.e - b.e) by (simp only [wi64]; omega)) | exact (show IntKind.i64.wrap (a.e - b.e) < 9223372036854775808 by (simp only [wi64]; omega)) | exact (show 0 ≤ a.m by omega) | (subst_vars; first | exact lowerP_nn _ _ (by omega) | exact lowerP_lo _ _ | exact lowerP_lo2 _ _ | exact lowerP_hi2 _ _ (by omega) (by omega) | (dsimp only; first | exact Int.emod_nonneg _ (by decide) | exact Int.emod_lt_of_pos _ (by decide) | exact borrow_nn _ | exact borrow_le _))))))
    | (apply E_callX hE (c_Grow _ _ _ _ _); (case hf => rfl); (case hc => (cbv <;> trivial)); (case hle => exact u_up); intro t ht; cbv)
    | fail)
  all_goals (subst hE; subst hr)
  all_goals (try simp only [realE, cmp_eql, cmp_neq, cmp_lss, cmp_leq, cmp_gtr, cmp_geq, intBinR, decide_eq_true_eq, decide_eq_false_iff_not, SI.val, SB.val, Num.eta, Iv.eta] at *)
  all_goals (try refine Num.fin (t := t) ?_)
  all_goals (subst_vars; dsimp only at *)
  all_goals (have hw : IntKind.i64.wrap (a.e - b.e) = a.e - b.e := by (have := ha.elo; have := ha.ehi; have := hb.elo; have := hb.ehi; rw [wi64]; omega))
  all_goals (simp only [hw] at *)
  all_goals (first
    | (have P := minus_parts (D := lowerP b.m (a.e - b.e)) (c := 1) ha hb hk hgt rfl (by rw [if_pos ‹(lowerP b.m (a.e - b.e)).cut = true›]) rfl rfl rfl)
    | (have P := minus_parts (D := lowerP b.m (a.e - b.e)) (c := 0) ha hb hk hgt rfl (by rw [if_neg (by rw [‹(lowerP b.m (a.e - b.e)).cut = false›]; decide)]) rfl rfl rfl))
  all_goals (obtain ⟨z0, z1, ehi, elo, ecut⟩ := P; simp only [ehi, elo, ecut] at *; clear ehi elo)
  all_goals (have bn := blen_nonneg (minusZ a b % 18446744073709551616); have bn2 := blen_nonneg (minusZ a b / 18446744073709551616))
  all_goals (try (exfalso; (try simp only [wi64] at *); omega))
  all_goals (try (exfalso; exact Bool.noConfusion (‹plusC a b = true›.symm.trans ‹plusC a b = false›)))
  all_goals first
    | rw [minus_A_zero ha z0 (by omega) (by omega)]
    | rw [minus_B_zero ha z0 z1 (by omega) (by omega)]
    | rw [minus_B_pos ha z0 z1 (by omega) (by omega)]
    | rw [minus_A_pos ha z0 (by omega)]
  all_goals first
    | (rw [‹plusC a b = true›]; rfl)
    | (rw [‹plusC a b = false›]; rfl)
    | trace_state

end Go.Proofs.YtoghalnnmhpfmaaGreat.Ev

/- Contracts: the sum of two numbers. Printed by gen.py out of C16.spec. -/
namespace Go.Proofs.YtoghalnnmhpfmaaGreat.Ev
open Go Go.Proofs
set_option linter.unusedVariables false
set_option linter.unusedSimpArgs false

set_option maxHeartbeats 4000000 in
theorem c_arAdd (a : Num) (b : Num) (up : Bool) (ha : a.ok) (hb : b.ok) : ∃ t : Num, t = Num.add a b up ∧ CallsA Tryz.prog 75 [a.av, b.av, .bool (.s up)] (t.av) := by
  refine ⟨_, rfl, ?_⟩
  generalize hr : Num.add a b up = r
  refine callsA_of hG hm Tryz.func75 (by kernel_rfl) ?_
  intro E hE lp hl
  cbv
  repeat' (first
    | (apply E_br_t hE; assumption; cbv)
    | (apply E_br_f hE; assumption; cbv)
    | (refine E_br hE (fun h => ?_) (fun h => ?_) <;> cbv)
    | (refine E_nm hE (fun v hv => ?_); cbv)
    | (apply E_pcallX hE (c_arFair ⟨_, _, _, _⟩); (case hm => rfl); (case hle => exact u_up); intro t ht; cbv)
    | (apply E_callX hE (c_Inf _); (case hf => rfl); (case hc => (cbv <;> trivial)); (case hle => exact u_up); intro t ht; cbv)
    | (apply E_callX hE (c_plus ⟨_, _, _, _⟩ ⟨_, _, _, _⟩ _ ?_ ?_ ?_); (case hf => rfl); (case hc => (cbv <;> trivial)); (case hle => exact u_up); all_goals (first | (intro t ht; cbv) | (subst hE; (try simp only [realE, cmp_eql, cmp_neq, cmp_lss, cmp_leq, cmp_gtr, cmp_geq, intBinR, decide_eq_true_eq, decide_eq_false_iff_not, SI.val, SB.val, Num.eta, Iv.eta] at *); (subst_vars; have fa := Num.fin_of (n := a) ‹_› ‹_›; have fb := Num.fin_of (n := b) ‹_› ‹_›; have FA : a.fair.Fin := ⟨fa.1, fa.2.1, (Num.fair_ok ha).2, fa.2.2.1, fa.2.2.2⟩; have FB : b.fair.Fin := ⟨fb.1, fb.2.1, (Num.fair_ok hb).2, fb.2.2.1, fb.2.2.2⟩; first | exact FA | exact FB | exact (show b.fair.e ≤ a.fair.e by omega) | exact (show a.fair.e ≤ b.fair.e by omega) | exact (show b.fair.e < a.fair.e ∨ b.fair.m < a.fair.m by omega) | exact (show a.fair.e < b.fair.e ∨ a.fair.m < b.fair.m by omega)))))
    | (apply E_callX hE (c_minus ⟨_, _, _, _⟩ ⟨_, _, _, _⟩ _ ?_ ?_ ?_ ?_); (case hf => rfl); (case hc => (cbv <;> trivial)); (case hle => exact u_up); all_goals (first | (intro t ht; cbv) | (subst hE; (try simp only [realE, cmp_eql, cmp_neq, cmp_lss, cmp_leq, cmp_gtr, cmp_geq, intBinR, decide_eq_true_eq, decide_eq_false_iff_not, SI.val, SB.val, Num.eta, Iv.eta] at *); (subst_vars; have fa := Num.fin_of (n := a) ‹_› ‹_›; have fb := Num.fin_of (n := b) ‹_› ‹_›; have FA : a.fair.Fin := ⟨fa.1, fa.2.1, (Num.fair_ok ha).2, fa.2.2.1, fa.2.2.2⟩; have FB : b.fair.Fin := ⟨fb.1, fb.2.1, (Num.fair_ok hb).2, fb.2.2.1, fb.2.2.2⟩; first | exact FA | exact FB | exact (show b.fair.e ≤ a.fair.e by omega) | exact (show a.fair.e ≤ b.fair.e by omega) | exact (show b.fair.e < a.fair.e ∨ b.fair.m < a.fair.m by omega) | exact (show a.fair.e < b.fair.e ∨ a.fair.m < b.fair.m by omega)))))
    | fail)
  all_goals (subst hE; subst hr)
  all_goals (try simp only [realE, cmp_eql, cmp_neq, cmp_lss, cmp_leq, cmp_gtr, cmp_geq, intBinR, decide_eq_true_eq, decide_eq_false_iff_not, SI.val, SB.val, Num.eta, Iv.eta] at *)
  all_goals subst_vars
  all_goals (try (exfalso; omega))
  all_goals (refine Num.fin (t := ⟨_, _, _, _⟩) ?_)
  all_goals (unfold Num.add Num.addF Num.addS)
  all_goals ((repeat' split) <;> first | rfl | (exfalso; omega) | (exfalso; simp_all; done) | (exfalso; simp_all; omega))

end Go.Proofs.YtoghalnnmhpfmaaGreat.Ev

/- Contracts: the sum of intervals. -/
namespace Go.Proofs.YtoghalnnmhpfmaaGreat.Ev
open Go Go.Proofs
set_option linter.unusedVariables false
set_option linter.unusedSimpArgs false

def addS (l : List Iv) (n : Int) (z : Iv) : Option (Int × Num × Num) → St
  | none => ⟨[(12, .int .i64 (.s 0)), (11, .int .i64 (.s n)), (10, .slc 9 (.s n) (fun i => Iv.cells (l.getD i z))), (4, .ptr 2 4 (.l 0) 0), (3, .ptr 1 4 (.l 0) 0), (2, .ptr 0 9 (.l 0) 0)],
      [.rows true 9 [.bool (.l false), .int .i64 (.l 0), .bool (.l false), .int .u64 (.l 0), .int .i64 (.l 0), .int .i64 (.l 0), .bool (.l false), .int .u64 (.l 0), .int .i64 (.l 0)]
        [[.bool (.l false), .int .i64 (.l 0), .bool (.l false), .int .u64 (.l 0), .int .i64 (.l 0), .int .i64 (.l 0), .bool (.l false), .int .u64 (.l 0), .int .i64 (.l 0)]],
       .rows true 4 [.int .i64 (.l 0), .bool (.l false), .int .u64 (.l 0), .int .i64 (.l 0)] [[.int .i64 (.l 0), .bool (.l false), .int .u64 (.l 0), .int .i64 (.l 0)]],
       .rows true 4 [.int .i64 (.l 0), .bool (.l false), .int .u64 (.l 0), .int .i64 (.l 0)] [[.int .i64 (.l 0), .bool (.l false), .int .u64 (.l 0), .int .i64 (.l 0)]]]⟩
  | some p => ⟨[(12, .int .i64 (.s p.1)), (11, .int .i64 (.s n)), (10, .slc 9 (.s n) (fun i => Iv.cells (l.getD i z))), (4, .ptr 2 4 (.l 0) 0), (3, .ptr 1 4 (.l 0) 0), (2, .ptr 0 9 (.l 0) 0)],
      [.rows true 9 [.bool (.l false), .int .i64 (.l 0), .bool (.l false), .int .u64 (.l 0), .int .i64 (.l 0), .int .i64 (.l 0), .bool (.l false), .int .u64 (.l 0), .int .i64 (.l 0)]
        [[.bool (.l false), .int .i64 (.l 0), .bool (.l false), .int .u64 (.l 0), .int .i64 (.l 0), .int .i64 (.l 0), .bool (.l false), .int .u64 (.l 0), .int .i64 (.l 0)]],
       .rows true 4 [.int .i64 (.l 0), .bool (.l false), .int .u64 (.l 0), .int .i64 (.l 0)] [Num.cells p.2.1],
       .rows true 4 [.int .i64 (.l 0), .bool (.l false), .int .u64 (.l 0), .int .i64 (.l 0)] [Num.cells p.2.2]]⟩
set_option maxHeartbeats 4000000 in
theorem c_opAdd (l : List Iv) (n : Int) (hn : n = l.length) (hb : n < 9223372036854775808) (hok : ∀ x ∈ l, x.lo.ok ∧ x.hi.ok) :
    ∃ t, t = Iv.add l ∧ CallsA Tryz.prog 37 [.slc 9 (.s n) (fun i => Iv.cells (l.getD i Iv.none))] t.av := by
  refine ⟨_, rfl, ?_⟩
  generalize hr : Iv.add l = r
  refine callsA_of hG hm Tryz.func37 (by kernel_rfl) ?_
  intro E hE lp hl
  cbv
  (apply E_callX hE (c_none l n hn hb); (case hf => rfl); (case hc => (cbv <;> trivial)); (case hle => exact ⟨u2_slc', trivial⟩); intro t ht; cbv)
  refine E_br hE (fun h => ?_) (fun h => ?_)
  · cbv
    (apply E_callX hE c_ivNone; (case hf => rfl); (case hc => (cbv <;> trivial)); (case hle => exact trivial); intro t' ht'; cbv)
    have e : t' = r := by rw [← hr, ht']; unfold Iv.add; rw [if_pos (by rw [← ht]; exact h)]
    subst e
    exact ⟨rfl, rfl, rfl, rfl, rfl, rfl, rfl, rfl, rfl, trivial⟩
  have hbad : Iv.anyBad l = false := by rw [← ht]; exact h
  obtain ⟨z, hz⟩ : ∃ z, z = Iv.none := ⟨_, rfl⟩
  rw [← hz]
  cbv
  refine E_loopW hE hG hm hl (ι := Option (Int × Num × Num)) (addS l n z)
    (fun p => match p with | none => n.toNat + 1 | some p => (n - p.1).toNat) (fun p => match p with | none => True | some p => 1 ≤ p.1 ∧ p.1 ≤ n ∧ p.2 = Iv.addTo l p.1) (fun p => by cases p <;> rfl) ⟨none, trivial, stLe rfl ?_⟩ ?_
  · repeat' (first | exact t_nil | apply t_cons | exact u2_int | exact u2_ptr | exact u2_slc')
  rintro (_ | ⟨i, lo, hi⟩) hp
  · clear hp
    cbv
    repeat' (first
      | (apply E_br_t hE; assumption; cbv)
      | (apply E_br_f hE; assumption; cbv)
      | (refine E_br hE (fun h => ?_) (fun h => ?_) <;> cbv)
      | (refine E_nm hE (fun v hv => ?_); cbv)
      | (refine E_row hE (cell := Iv.cells) (fun x ex => ?_); cbv)
      | (apply E_callX hE (c_ivMake ⟨_, _, _, _⟩ ⟨_, _, _, _⟩); (case hf => rfl); (case hc => (cbv <;> trivial)); (case hle => exact u_up); intro t ht; cbv)
      | fail)
    all_goals (try refine ⟨some (E.bin .add .i64 0 1, x.lo, x.hi), ?_, ⟨?_, ?_, ?_⟩, stLeW rfl ⟨rfl, rfl, rfl, trivial⟩ ?_⟩)
    all_goals (try (refine w_cons ?_ rfl ?_; (repeat' (first | exact w_nil | refine w_cons ?_ rfl ?_ | exact u2_int | exact u2_ptr | exact u2_slc')); done))
    all_goals (try (exfalso; subst hE; simp only [realE, cmp_lss, cmp_leq, cmp_eql, intBinR, decide_eq_true_eq, decide_eq_false_iff_not, SI.val, SB.val, Num.eta, Iv.eta] at h; omega))
    all_goals (subst hE; simp only [realE, cmp_lss, cmp_leq, cmp_eql, intBinR, decide_eq_true_eq, decide_eq_false_iff_not, SI.val, SB.val, Num.eta, Iv.eta] at *)
    all_goals (replace hn : n = (l.length : Int) := hn)
    case none.refine_2.hK =>
      have hl : l = [] := List.length_eq_zero_iff.1 (by omega)
      have e : t = r := by
        rw [← hr, ht]; unfold Iv.add
        rw [if_neg (by rw [hbad]; decide), hl]; rfl
      subst e
      exact ⟨rfl, rfl, rfl, rfl, rfl, rfl, rfl, rfl, rfl, trivial⟩
    all_goals (rw [show IntKind.i64.wrap (0 + 1) = 1 by decide])
    · omega
    · decide
    · omega
    · rw [show (1 : Int) = 0 + 1 by rfl, Iv.addTo_succ l (by omega) (by omega), if_pos rfl, ← hz, ← ex]
  · obtain ⟨h1, h2, h3⟩ := hp
    dsimp only at h1 h2 h3
    replace hn : n = (l.length : Int) := hn
    have hx : ∀ x, i < n → x = l.getD i.toNat z → x.lo.ok ∧ x.hi.ok := by
      intro x hi e
      have hl : i.toNat < l.length := by omega
      rw [e]
      have : l.getD i.toNat z = l[i.toNat] := by simp [List.getD, List.getElem?_eq_getElem hl]
      rw [this]
      exact hok _ (List.getElem_mem hl)
    have hlh : lo.ok ∧ hi.ok := by
      have := Iv.addEnds_ok (l := l.take i.toNat) (fun y hy => hok y (List.mem_of_mem_take hy))
      rw [show Iv.addEnds (l.take i.toNat) = (lo, hi) from h3.symm] at this
      exact this
    have hlt : E.cmp .lss i n = true → i < n := by intro h; subst hE; simpa only [realE, cmp_lss, decide_eq_true_eq] using h
    cbv
    repeat' (first
      | (apply E_br_t hE; assumption; cbv)
      | (apply E_br_f hE; assumption; cbv)
      | (refine E_br hE (fun h => ?_) (fun h => ?_) <;> cbv)
      | (refine E_nm hE (fun v hv => ?_); cbv)
      | (refine E_row hE (cell := Iv.cells) (fun x ex => ?_); cbv)
      | (apply E_pcallX hE (c_arAdd ⟨_, _, _, _⟩ ⟨_, _, _, _⟩ _ ?_ ?_); (case hm => rfl); (case hle => exact u_up); all_goals (first | (intro t ht; cbv) | exact hlh.1 | exact hlh.2 | (have q := hx _ (hlt ‹E.cmp .lss i n = true›) ‹_ = l.getD i.toNat z›; first | exact q.1 | exact q.2)))
      | (apply E_callX hE (c_ivMake ⟨_, _, _, _⟩ ⟨_, _, _, _⟩); (case hf => rfl); (case hc => (cbv <;> trivial)); (case hle => exact u_up); intro t ht; cbv)
      | fail)
    clear hlt
    all_goals (try (exfalso; subst hE; simp only [realE, cmp_lss, cmp_leq, cmp_eql, intBinR, decide_eq_true_eq, decide_eq_false_iff_not, SI.val, SB.val, Num.eta, Iv.eta] at h; omega))
    all_goals (try refine ⟨some (E.bin .add .i64 i 1, _, _), ?_, ⟨?_, ?_, ?_⟩, stLeW rfl ⟨rfl, rfl, rfl, trivial⟩ ?_⟩)
    all_goals (try (refine w_cons ?_ rfl ?_; (repeat' (first | exact w_nil | refine w_cons ?_ rfl ?_ | exact u2_int | exact u2_ptr | exact u2_slc')); done))
    all_goals (subst hE; simp only [realE, cmp_lss, cmp_leq, cmp_eql, intBinR, decide_eq_true_eq, decide_eq_false_iff_not, SI.val, SB.val, Num.eta, Iv.eta] at *)
    all_goals (replace hn : n = (l.length : Int) := hn)
    case some.refine_2.hK =>
      have hi' : i = (l.length : Int) := by omega
      have e : t = r := by
        rw [← hr, ht]; unfold Iv.add
        rw [if_neg (by rw [hbad]; decide), ← Iv.addTo_all, ← hi', ← h3]
      subst e
      exact ⟨rfl, rfl, rfl, rfl, rfl, rfl, rfl, rfl, rfl, trivial⟩
    all_goals (rw [wi64_succ (by omega) ‹i < n› hb])
    · omega
    · omega
    · omega
    · rw [Iv.addTo_succ l (by omega) (by omega), if_neg (by omega), ← h3, ← hz, ← ex]
      exact Prod.ext ‹_ = lo.add x.lo false› ht
end Go.Proofs.YtoghalnnmhpfmaaGreat.Ev

/- Contracts: the difference of intervals. Printed by gen.py out of C18.spec. -/
namespace Go.Proofs.YtoghalnnmhpfmaaGreat.Ev
open Go Go.Proofs
set_option linter.unusedVariables false
set_option linter.unusedSimpArgs false
def Iv.sub (a b : Iv) : Iv := Iv.add [a, Iv.neg b]
theorem slcG2 {a b z : Iv} : sle2 (.slc 9 (.l 2) (fun i => getRow [a.cells, b.cells] (Int.ofNat i))) (.slc 9 (.s 2) (fun i => Iv.cells ([a, b].getD i z))) := by
  refine ⟨rfl, rfl, fun i hi => ?_⟩
  match i, hi with
  | 0, _ => exact iv_cells_self
  | 1, _ => exact iv_cells_self
  | i + 2, hi => exact absurd hi (by simp [SI.val])

theorem c_opSub (a : Iv) (b : Iv) (h1 : a.lo.ok) (h2 : a.hi.ok) (h3 : b.lo.ok) (h4 : b.hi.ok) : ∃ t : Iv, t = Iv.sub a b ∧ CallsA Tryz.prog 34 [a.av, b.av] (t.av) := by
  refine ⟨_, rfl, ?_⟩
  generalize hr : Iv.sub a b = r
  refine callsA_of hG hm Tryz.func34 (by kernel_rfl) ?_
  intro E hE lp hl
  cbv
  repeat' (first
    | (refine E_br hE (fun h => ?_) (fun h => ?_) <;> cbv)
    | (refine E_nm hE (fun v hv => ?_); cbv)
    | (apply E_pcallX hE (c_opAdd [a, ⟨_, ⟨_, _, _, _⟩, ⟨_, _, _, _⟩⟩] 2 rfl (by decide) ?_); (case hm => rfl); (case hle => exact ⟨slcG2, trivial⟩); all_goals (first | (subst_vars; intro x hx; simp only [List.mem_cons, List.not_mem_nil, or_false] at hx; rcases hx with rfl | rfl <;> first | exact ⟨h1, h2⟩ | exact Iv.neg_ok h3 h4) | (intro t ht; cbv)))
    | (apply E_pcallX hE (c_opNeg ⟨_, ⟨_, _, _, _⟩, ⟨_, _, _, _⟩⟩); (case hm => rfl); (case hle => exact u_up); intro t ht; cbv)
    | fail)
  all_goals (subst hE; subst hr)
  all_goals (try simp only [realE, cmp_eql, cmp_neq, cmp_lss, cmp_leq, cmp_gtr, cmp_geq, intBinR, decide_eq_true_eq, decide_eq_false_iff_not, SI.val, SB.val, Num.eta, Iv.eta] at *)
  all_goals (try refine Iv.fin (t := ⟨_, ⟨_, _, _, _⟩, ⟨_, _, _, _⟩⟩) ?_)
  all_goals (change t = _; subst_vars; rfl)

end Go.Proofs.YtoghalnnmhpfmaaGreat.Ev

/- Contracts: the ends of some intervals. -/
namespace Go.Proofs.YtoghalnnmhpfmaaGreat.Ev
open Go Go.Proofs
set_option linter.unusedVariables false
set_option linter.unusedSimpArgs false

def endsS (l : List Iv) (n : Int) (z : Iv) : Int × Option (List (List AV) × List (List AV) × Int × Int) × Bool → St
  | (i, none, b) => ⟨[(9, .int .i64 (.s i)), (8, .int .i64 (.s n)), (7, .slc 9 (.s n) (fun i => Iv.cells (l.getD i z))), (4, .bool (.s b)), (3, .s0), (2, .s0)], []⟩
  | (i, some (L, H, k, m), b) => ⟨[(9, .int .i64 (.s i)), (8, .int .i64 (.s n)), (7, .slc 9 (.s n) (fun i => Iv.cells (l.getD i z))), (4, .bool (.s b)), (3, .ms 1 4 (.l 0) (.s m)), (2, .ms 0 4 (.l 0) (.s k))],
      [.rows true 4 [.int .i64 (.l 0), .bool (.l false), .int .u64 (.l 0), .int .i64 (.l 0)] L, .rows true 4 [.int .i64 (.l 0), .bool (.l false), .int .u64 (.l 0), .int .i64 (.l 0)] H]⟩
def endsOK (l : List Iv) (n : Int) : Int × Option (List (List AV) × List (List AV) × Int × Int) × Bool → Prop
  | (i, none, b) => 0 ≤ i ∧ i ≤ n ∧ Iv.goods (l.take i.toNat) = [] ∧ b = Iv.allGood (l.take i.toNat)
  | (i, some (L, H, k, m), b) => 0 ≤ i ∧ i ≤ n ∧ L = (Iv.los (l.take i.toNat)).map Num.cells ∧ H = (Iv.his (l.take i.toNat)).map Num.cells ∧ k = (Iv.los (l.take i.toNat)).length ∧ m = (Iv.his (l.take i.toNat)).length ∧ b = Iv.allGood (l.take i.toNat)

theorem c_ends (l : List Iv) (n : Int) (hn : n = l.length) (hb : n ≤ 17179869184) : ∃ t : List Num × List Num × Bool × Int × Int, t = (Iv.los l, Iv.his l, Iv.allGood l, ((Iv.los l).length : Int), ((Iv.his l).length : Int)) ∧
    CallsA Tryz.prog 72 [.slc 9 (.s n) (fun i => Iv.cells (l.getD i Iv.none))]
      (.tup [.slc 4 (.s t.2.2.2.1) (fun i => Num.cells (t.1.getD i Num.zero)), .slc 4 (.s t.2.2.2.2) (fun i => Num.cells (t.2.1.getD i Num.zero)), .bool (.s t.2.2.1)]) := by
  refine ⟨_, rfl, ?_⟩
  generalize hr : (Iv.los l, Iv.his l, Iv.allGood l, ((Iv.los l).length : Int), ((Iv.his l).length : Int)) = r
  obtain ⟨z, hz⟩ : ∃ z, z = Iv.none := ⟨_, rfl⟩
  rw [← hz]
  refine callsA_of hG hm Tryz.func72 (by kernel_rfl) ?_
  intro E hE lp hl
  cbv
  refine E_loopM hE hG hm hl (endsS l n z) (fun p => (n - p.1).toNat) (endsOK l n) ⟨(0, none, true), [], ⟨Int.le_refl 0, (by show (0 : Int) ≤ n; rw [hn]; exact Int.natCast_nonneg _), rfl, rfl⟩, stLeM trivial rfl rfl rfl trivial ?_⟩ ?_
  · repeat' (first | exact m_nil | refine m_cons ?_ rfl ?_ | exact u2_int | exact u2_bool | exact u2_slc' | exact (rfl : sle2 .s0 .s0))
  have wi : ∀ i : Int, 0 ≤ i → i < n → IntKind.i64.wrap (i + 1) = i + 1 := fun i h0 h1 => wi64_succ h0 h1 (by omega)
  rintro ⟨i, (_ | ⟨L, H, k, m⟩), b⟩ hok
  · obtain ⟨h1, h2, h3, h4⟩ := hok
    cbv
    repeat' (first
      | (refine E_br hE (fun h => ?_) (fun h => ?_) <;> cbv)
      | (refine E_nm hE (fun v hv => ?_); cbv)
      | (refine E_row hE (cell := Iv.cells) (fun t ht => ?_); cbv)
      | (apply E_callX hE (c_ivFair ⟨_, ⟨_, _, _, _⟩, ⟨_, _, _, _⟩⟩); (case hf => rfl); (case hc => (cbv <;> trivial)); (case hle => exact u_up); intro t ht; cbv)
      | fail)
    case refine_2.none.refine_1.refine_1.refine_1.hK.refine_1 =>
      refine ⟨(E.bin .add .i64 i 1, none, false), [], ?_, ⟨?_, ?_, ?_, ?_⟩, stLeM trivial rfl rfl rfl trivial ?_⟩
      rotate_right
      · repeat' (first | exact m_nil | refine m_cons ?_ rfl ?_ | exact u2_int | exact u2_bool | exact u2_slc' | exact (rfl : sle2 .s0 .s0))
      all_goals (subst hE; simp only [realE, cmp_lss, cmp_leq, cmp_eql, intBinR, decide_eq_true_eq, decide_eq_false_iff_not, SI.val, SB.val, Num.eta, Iv.eta] at *)
      all_goals (replace hn : n = (l.length : Int) := hn)
      all_goals (rw [wi i h1 ‹i < n›])
      · omega
      · omega
      · omega
      · rw [Iv.goods_next h1 (by omega), ← hz, ← ‹_ = l.getD i.toNat z›, ← ht, if_pos ‹_›, h3]
      · rw [Iv.allGood_next h1 (by omega), ← hz, ← ‹_ = l.getD i.toNat z›, ← ht, ‹t.empty = true›]; simp
    case refine_2.none.refine_1.refine_1.refine_1.hK.refine_2 =>
      refine ⟨(E.bin .add .i64 i 1, some ([t.lo.cells], [t.hi.cells], 1, 1), b), [1, 2], ?_, ⟨?_, ?_, ?_, ?_, ?_, ?_, ?_⟩, stLeM ⟨rfl, rfl, trivial⟩ rfl rfl rfl ⟨rfl, rfl, trivial⟩ ?_⟩
      rotate_right
      · repeat' (first | exact m_nil | refine m_consA (ms_le rfl rfl) rfl ?_ | refine m_cons ?_ rfl ?_ | exact u2_int | exact u2_bool | exact u2_slc' | exact (rfl : sle2 .s0 .s0))
      all_goals (subst hE; simp only [realE, cmp_lss, cmp_leq, cmp_eql, intBinR, decide_eq_true_eq, decide_eq_false_iff_not, SI.val, SB.val, Num.eta, Iv.eta] at *)
      all_goals (replace hn : n = (l.length : Int) := hn)
      all_goals (try rw [wi i h1 ‹i < n›])
      · omega
      · omega
      · omega
      · unfold Iv.los; rw [Iv.goods_next h1 (by omega), ← hz, ← ‹_ = l.getD i.toNat z›, ← ht, if_neg (by rw [‹t.empty = false›]; decide), h3]; rfl
      · unfold Iv.his; rw [Iv.goods_next h1 (by omega), ← hz, ← ‹_ = l.getD i.toNat z›, ← ht, if_neg (by rw [‹t.empty = false›]; decide), h3]; rfl
      · unfold Iv.los; rw [Iv.goods_next h1 (by omega), ← hz, ← ‹_ = l.getD i.toNat z›, ← ht, if_neg (by rw [‹t.empty = false›]; decide), h3]; rfl
      · unfold Iv.his; rw [Iv.goods_next h1 (by omega), ← hz, ← ‹_ = l.getD i.toNat z›, ← ht, if_neg (by rw [‹t.empty = false›]; decide), h3]; rfl
      · rw [Iv.allGood_next h1 (by omega), ← hz, ← ‹_ = l.getD i.toNat z›, ← ht, ‹t.empty = false›, h4]; simp
    all_goals (try (exfalso; subst hE; simp only [realE, cmp_lss, cmp_leq, cmp_eql, intBinR, decide_eq_true_eq, decide_eq_false_iff_not, SI.val, SB.val, Num.eta, Iv.eta] at *; omega))
    subst hE
    simp only [realE, cmp_lss, cmp_leq, cmp_eql, intBinR, decide_eq_true_eq, decide_eq_false_iff_not, SI.val, SB.val, Num.eta, Iv.eta] at *
    replace hn : n = (l.length : Int) := hn
    have hi : i.toNat = l.length := by omega
    rw [hi, List.take_length] at h3 h4
    rw [← hr]
    simp [Iv.los, Iv.his, h3, h4]
  · obtain ⟨h1, h2, h3, h4, h5, h6, h7⟩ := hok
    cbv
    repeat' (first
      | (refine E_br hE (fun h => ?_) (fun h => ?_) <;> cbv)
      | (refine E_nm hE (fun v hv => ?_); cbv)
      | (refine E_row hE (cell := Iv.cells) (fun t ht => ?_); cbv)
      | (apply E_callX hE (c_ivFair ⟨_, ⟨_, _, _, _⟩, ⟨_, _, _, _⟩⟩); (case hf => rfl); (case hc => (cbv <;> trivial)); (case hle => exact u_up); intro t ht; cbv)
      | fail)
    case refine_2.some.refine_1.refine_1.refine_1.hK.refine_1 =>
      refine ⟨(E.bin .add .i64 i 1, some (L, H, k, m), false), [0, 1], ?_, ⟨?_, ?_, ?_, ?_, ?_, ?_, ?_⟩, stLeM ⟨?_, ?_, trivial⟩ rfl rfl rfl ⟨?_, ?_, trivial⟩ ?_⟩
      rotate_right
      · repeat' (first | exact m_nil | refine m_consA (ms_le rfl rfl) rfl ?_ | refine m_cons ?_ rfl ?_ | exact u2_int | exact u2_bool | exact u2_slc')
      all_goals (subst hE; simp only [realE, cmp_lss, cmp_leq, cmp_eql, intBinR, decide_eq_true_eq, decide_eq_false_iff_not, SI.val, SB.val, Num.eta, Iv.eta] at *)
      all_goals (replace hn : n = (l.length : Int) := hn)
      all_goals (try rw [wi i h1 ‹i < n›])
      · omega
      · omega
      · omega
      · rw [h3]; unfold Iv.los; rw [Iv.goods_next h1 (by omega), ← hz, ← ‹_ = l.getD i.toNat z›, ← ht, if_pos ‹_›]
      · rw [h4]; unfold Iv.his; rw [Iv.goods_next h1 (by omega), ← hz, ← ‹_ = l.getD i.toNat z›, ← ht, if_pos ‹_›]
      · rw [h5]; unfold Iv.los; rw [Iv.goods_next h1 (by omega), ← hz, ← ‹_ = l.getD i.toNat z›, ← ht, if_pos ‹_›]
      · rw [h6]; unfold Iv.his; rw [Iv.goods_next h1 (by omega), ← hz, ← ‹_ = l.getD i.toNat z›, ← ht, if_pos ‹_›]
      · rw [Iv.allGood_next h1 (by omega), ← hz, ← ‹_ = l.getD i.toNat z›, ← ht, ‹t.empty = true›]; simp
      · show Blk.rows true 4 _ _ = Blk.rows true 4 _ _; rw [h3, rows_rn]
      · show Blk.rows true 4 _ _ = Blk.rows true 4 _ _; rw [h4, rows_rn]
      · rw [h3]; exact rows_in _ _
      · rw [h4]; exact rows_in _ _
    case refine_2.some.refine_1.refine_1.refine_1.hK.refine_2.refine_1.refine_1 =>
      refine ⟨(E.bin .add .i64 i 1, some (E.rapp (E.rsub L 0 k) [t.lo.cells], E.rapp (E.rsub H 0 m) [t.hi.cells], E.plus k 1, E.plus m 1), b), [3, 4], ?_, ⟨?_, ?_, ?_, ?_, ?_, ?_, ?_⟩, stLeM ⟨?_, ?_, trivial⟩ rfl rfl rfl ⟨?_, ?_, trivial⟩ ?_⟩
      rotate_right
      · repeat' (first | exact m_nil | refine m_consA (ms_le rfl rfl) rfl ?_ | refine m_cons ?_ rfl ?_ | exact u2_int | exact u2_bool | exact u2_slc')
      all_goals (subst hE; simp only [realE, cmp_lss, cmp_leq, cmp_eql, intBinR, decide_eq_true_eq, decide_eq_false_iff_not, SI.val, SB.val, Num.eta, Iv.eta] at *)
      all_goals (replace hn : n = (l.length : Int) := hn)
      all_goals (try rw [wi i h1 ‹i < n›])
      · omega
      · omega
      · omega
      · rw [h3, h5, app_rows, Iv.los_next h1 (by omega) (by rw [← hz, ← ‹_ = l.getD i.toNat z›, ← ht]; assumption), ← hz, ← ‹_ = l.getD i.toNat z›, ← ht]
      · rw [h4, h6, app_rows, Iv.his_next h1 (by omega) (by rw [← hz, ← ‹_ = l.getD i.toNat z›, ← ht]; assumption), ← hz, ← ‹_ = l.getD i.toNat z›, ← ht]
      · rw [h5, Iv.los_next h1 (by omega) (by rw [← hz, ← ‹_ = l.getD i.toNat z›, ← ht]; assumption)]; simp
      · rw [h6, Iv.his_next h1 (by omega) (by rw [← hz, ← ‹_ = l.getD i.toNat z›, ← ht]; assumption)]; simp
      · rw [Iv.allGood_next h1 (by omega), ← hz, ← ‹_ = l.getD i.toNat z›, ← ht, ‹t.empty = false›, h7]; simp
      · show Blk.rows true 4 _ _ = Blk.rows true 4 _ _; rw [h3, h5, app_rows, rows_rn]; exact congrArg (Blk.rows true 4 _) (app_rows _ _)
      · show Blk.rows true 4 _ _ = Blk.rows true 4 _ _; rw [h4, h6, app_rows, rows_rn]; exact congrArg (Blk.rows true 4 _) (app_rows _ _)
      · rw [h3, h5, app_rows]; exact rows_in _ _
      · rw [h4, h6, app_rows]; exact rows_in _ _
    case refine_2.some.refine_1.refine_1.refine_1.hK.refine_2.refine_1.refine_2 =>
      exfalso; subst hE; simp only [realE, cmp_lss, cmp_leq, cmp_eql, intBinR, decide_eq_true_eq, decide_eq_false_iff_not, SI.val, SB.val, Num.eta, Iv.eta] at *
      have := Iv.his_len (l.take i.toNat)
      rw [List.length_take] at this
      have e1 : Int.ofNat 1 = 1 := rfl
      replace h6 : _ = ((Iv.his (l.take i.toNat)).length : Int) := h6
      replace hn : n = (l.length : Int) := hn
      omega
    case refine_2.some.refine_1.refine_1.refine_1.hK.refine_2.refine_2 =>
      exfalso; subst hE; simp only [realE, cmp_lss, cmp_leq, cmp_eql, intBinR, decide_eq_true_eq, decide_eq_false_iff_not, SI.val, SB.val, Num.eta, Iv.eta] at *
      have := Iv.los_len (l.take i.toNat)
      rw [List.length_take] at this
      have e1 : Int.ofNat 1 = 1 := rfl
      replace h5 : _ = ((Iv.los (l.take i.toNat)).length : Int) := h5
      replace hn : n = (l.length : Int) := hn
      omega
    all_goals (try (exfalso; subst hE; simp only [realE, cmp_lss, cmp_leq, cmp_eql, intBinR, decide_eq_true_eq, decide_eq_false_iff_not, SI.val, SB.val, Num.eta, Iv.eta] at *; omega))
    subst hE
    simp only [realE, cmp_lss, cmp_leq, cmp_eql, intBinR, decide_eq_true_eq, decide_eq_false_iff_not, SI.val, SB.val, Num.eta, Iv.eta] at *
    replace hn : n = (l.length : Int) := hn
    have hi : i.toNat = l.length := by omega
    rw [hi, List.take_length] at h3 h4 h5 h6 h7
    replace h5 : k = ((Iv.los l).length : Int) := h5
    replace h6 : m = ((Iv.his l).length : Int) := h6
    rw [← hr]
    have qL : allB (allB AV.mf1) L = true := h3 ▸ rows_mf _
    have qH : allB (allB AV.mf1) H = true := h4 ▸ rows_mf _
    refine ⟨⟨by cases L <;> exact qL, by cases H <;> exact qH, trivial⟩, ⟨h5, fun i (hi : i < k.toNat) => ?_⟩, ⟨h6, fun i (hi : i < m.toNat) => ?_⟩, h7, trivial⟩
    · rw [h3, rows_getD _ _ (by omega)]; exact num_cells_self
    · rw [h4, rows_getD _ _ (by omega)]; exact num_cells_self
end Go.Proofs.YtoghalnnmhpfmaaGreat.Ev

/- Contracts: what intervals have together, and their hull. -/
namespace Go.Proofs.YtoghalnnmhpfmaaGreat.Ev
open Go Go.Proofs
set_option linter.unusedVariables false
set_option linter.unusedSimpArgs false

theorem Iv.fin9 {t r : Iv} (h : t = r) : t.empty = r.empty ∧ (t.lo.kind = r.lo.kind) ∧ t.lo.neg = r.lo.neg ∧ t.lo.m = r.lo.m ∧ t.lo.e = r.lo.e ∧ t.hi.kind = r.hi.kind ∧ t.hi.neg = r.hi.neg ∧ t.hi.m = r.hi.m ∧ t.hi.e = r.hi.e ∧ True := by
  subst h; exact ⟨rfl, rfl, rfl, rfl, rfl, rfl, rfl, rfl, rfl, trivial⟩
theorem c_meet (l : List Iv) (n : Int) (hn : n = l.length) (hb : n ≤ 17179869184) : ∃ t, t = Iv.meet l ∧ CallsA Tryz.prog 33 [.slc 9 (.s n) (fun i => Iv.cells (l.getD i Iv.none))] t.av := by
  refine ⟨_, rfl, ?_⟩
  generalize hr : Iv.meet l = r
  refine callsA_of hG hm Tryz.func33 (by kernel_rfl) ?_
  intro E hE lp hl
  cbv
  (apply E_callX hE (c_ends l n hn hb); (case hf => rfl); (case hc => (cbv <;> trivial)); (case hle => exact ⟨u2_slc', trivial⟩); rintro ⟨L, H, g, k, m⟩ ht; cbv)
  simp only [Prod.mk.injEq] at ht
  obtain ⟨e1, e2, e3, e4, e5⟩ := ht
  replace e4 : k = ((Iv.los l).length : Int) := e4
  replace e5 : m = ((Iv.his l).length : Int) := e5
  replace hn : n = (l.length : Int) := hn
  have q1 := Iv.los_len l
  have q2 := Iv.his_len l
  have k1 : k = (L.length : Int) := by rw [e4, e1]
  have m1 : m = (H.length : Int) := by rw [e5, e2]
  have k2 : k < 9223372036854775808 := by omega
  have k3 : (Iv.los l).length = 0 ↔ k = 0 := by omega
  have m2 : m < 9223372036854775808 := by omega
  refine E_br hE (fun h => ?_) (fun h => ?_) <;> cbv
  · (apply E_callX hE c_ivNone; (case hf => rfl); (case hc => (cbv <;> trivial)); (case hle => exact trivial); intro t' ht'; cbv)
    have e : t' = r := by
      subst hE
      replace h : (!g) = true := h
      rw [← hr, ht']; unfold Iv.meet; rw [if_neg (by rw [← e3]; simpa using h)]
    exact Iv.fin9 e
  · (apply E_callX hE (c_Most L k k1 k2); (case hf => rfl); (case hc => (cbv <;> trivial)); (case hle => exact ⟨u2_slc', trivial⟩); intro a ha; cbv)
    (apply E_callX hE (c_Least H m m1 m2); (case hf => rfl); (case hc => (cbv <;> trivial)); (case hle => exact ⟨u2_slc', trivial⟩); intro b hb; cbv)
    (apply E_callX hE (c_ivMake ⟨_, _, _, _⟩ ⟨_, _, _, _⟩); (case hf => rfl); (case hc => (cbv <;> trivial)); (case hle => (repeat' (first | exact u_nil | apply u_cons | apply u2_agg | exact u2_int | exact u1_int | exact u2_bool | exact u1_bool))); intro t ht; cbv)
    have e : t = r := by
      subst hE
      replace h : (!g) = false := h
      rw [← hr, ht]; unfold Iv.meet; rw [if_pos (by rw [← e3]; simpa using h)]
      show Iv.make a b = _
      rw [ha, hb, e1, e2]
    exact Iv.fin9 e

theorem c_hull (l : List Iv) (n : Int) (hn : n = l.length) (hb : n ≤ 17179869184) : ∃ t, t = Iv.hull l ∧ CallsA Tryz.prog 39 [.slc 9 (.s n) (fun i => Iv.cells (l.getD i Iv.none))] t.av := by
  refine ⟨_, rfl, ?_⟩
  generalize hr : Iv.hull l = r
  refine callsA_of hG hm Tryz.func39 (by kernel_rfl) ?_
  intro E hE lp hl
  cbv
  (apply E_callX hE (c_ends l n hn hb); (case hf => rfl); (case hc => (cbv <;> trivial)); (case hle => exact ⟨u2_slc', trivial⟩); rintro ⟨L, H, g, k, m⟩ ht; cbv)
  simp only [Prod.mk.injEq] at ht
  obtain ⟨e1, e2, e3, e4, e5⟩ := ht
  replace e4 : k = ((Iv.los l).length : Int) := e4
  replace e5 : m = ((Iv.his l).length : Int) := e5
  replace hn : n = (l.length : Int) := hn
  have q1 := Iv.los_len l
  have q2 := Iv.his_len l
  have k1 : k = (L.length : Int) := by rw [e4, e1]
  have m1 : m = (H.length : Int) := by rw [e5, e2]
  have k2 : k < 9223372036854775808 := by omega
  have k3 : (Iv.los l).length = 0 ↔ k = 0 := by omega
  have m2 : m < 9223372036854775808 := by omega
  refine E_br hE (fun h => ?_) (fun h => ?_) <;> cbv
  · (apply E_callX hE c_ivNone; (case hf => rfl); (case hc => (cbv <;> trivial)); (case hle => exact trivial); intro t' ht'; cbv)
    have e : t' = r := by
      subst hE
      simp only [realE, cmp_eql, decide_eq_true_eq] at h
      rw [← hr, ht']; unfold Iv.hull; rw [if_pos (k3.2 h)]
    exact Iv.fin9 e
  · (apply E_callX hE (c_Least L k k1 k2); (case hf => rfl); (case hc => (cbv <;> trivial)); (case hle => exact ⟨u2_slc', trivial⟩); intro a ha; cbv)
    (apply E_callX hE (c_Most H m m1 m2); (case hf => rfl); (case hc => (cbv <;> trivial)); (case hle => exact ⟨u2_slc', trivial⟩); intro b hb; cbv)
    (apply E_callX hE (c_ivMake ⟨_, _, _, _⟩ ⟨_, _, _, _⟩); (case hf => rfl); (case hc => (cbv <;> trivial)); (case hle => (repeat' (first | exact u_nil | apply u_cons | apply u2_agg | exact u2_int | exact u1_int | exact u2_bool | exact u1_bool))); intro t ht; cbv)
    have e : t = r := by
      subst hE
      simp only [realE, cmp_eql, decide_eq_false_iff_not] at h
      rw [← hr, ht]; unfold Iv.hull; rw [if_neg (fun q => h (k3.1 q))]
      show Iv.make a b = _
      rw [ha, hb, e1, e2]
    exact Iv.fin9 e
end Go.Proofs.YtoghalnnmhpfmaaGreat.Ev

/- Contracts that tell besides that a result's bits are 64. -/
namespace Go.Proofs.YtoghalnnmhpfmaaGreat.Ev
open Go Go.Proofs
set_option linter.unusedVariables false
set_option linter.unusedSimpArgs false
def Iv.ok (x : Iv) : Prop := x.lo.ok ∧ x.hi.ok
theorem Iv.none_ok : Iv.none.ok := ⟨Num.zero_ok, Num.zero_ok⟩
theorem Iv.fair_ok {x : Iv} (h : x.ok) : x.fair.ok := by
  unfold Iv.fair
  split
  · exact h
  · exact Iv.none_ok
theorem Iv.goods_ok {l : List Iv} (h : ∀ x ∈ l, x.ok) : ∀ x ∈ Iv.goods l, x.ok := by
  induction l with
  | nil => intro x hx; cases hx
  | cons a r ih =>
    intro x hx
    simp only [Iv.goods] at hx
    have ih' := ih (fun y hy => h y (List.mem_cons_of_mem _ hy))
    split at hx
    · exact ih' x hx
    · rcases List.mem_cons.1 hx with rfl | hx
      · exact Iv.fair_ok (h a (List.mem_cons_self ..))
      · exact ih' x hx
theorem Iv.los_ok {l : List Iv} (h : ∀ x ∈ l, x.ok) : ∀ x ∈ Iv.los l, x.ok := by
  intro x hx
  obtain ⟨y, hy, rfl⟩ := List.mem_map.1 hx
  exact (Iv.goods_ok h y hy).1
theorem Iv.his_ok {l : List Iv} (h : ∀ x ∈ l, x.ok) : ∀ x ∈ Iv.his l, x.ok := by
  intro x hx
  obtain ⟨y, hy, rfl⟩ := List.mem_map.1 hx
  exact (Iv.goods_ok h y hy).2
theorem Num.least_ok {l : List Num} (h : ∀ x ∈ l, x.ok) : (Num.least l).ok := (Num.least_spec l h).2.1
theorem Num.most_ok {l : List Num} (h : ∀ x ∈ l, x.ok) : (Num.most l).ok := (Num.most_spec l h).2.1
theorem Iv.meet_ok {l : List Iv} (h : ∀ x ∈ l, x.ok) : (Iv.meet l).ok := by
  unfold Iv.meet
  split
  · exact Iv.make_ok (Num.most_ok (Iv.los_ok h)) (Num.least_ok (Iv.his_ok h))
  · exact Iv.none_ok
theorem Iv.hull_ok {l : List Iv} (h : ∀ x ∈ l, x.ok) : (Iv.hull l).ok := by
  unfold Iv.hull
  split
  · exact Iv.none_ok
  · exact Iv.make_ok (Num.least_ok (Iv.los_ok h)) (Num.most_ok (Iv.his_ok h))
theorem Iv.add_ok {l : List Iv} (h : ∀ x ∈ l, x.ok) : (Iv.add l).ok := by
  unfold Iv.add
  split
  · exact Iv.none_ok
  · have := Iv.addEnds_ok h
    exact Iv.make_ok this.1 this.2
theorem all2 {p : Iv → Prop} {a b : Iv} (h1 : p a) (h2 : p b) : ∀ x ∈ [a, b], p x := by
  intro x hx; simp only [List.mem_cons, List.not_mem_nil, or_false] at hx; rcases hx with rfl | rfl <;> assumption
theorem Iv.sub_ok {a b : Iv} (h1 : a.ok) (h2 : b.ok) : (Iv.sub a b).ok := Iv.add_ok (all2 h1 (Iv.neg_ok h2.1 h2.2))
theorem withQ {τ : Type} {f : τ} {p : τ → Prop} {C : τ → Prop} (h : ∃ t, t = f ∧ C t) (hp : p f) : ∃ t, (t = f ∧ p t) ∧ C t := by
  obtain ⟨t, rfl, hC⟩ := h
  exact ⟨t, ⟨rfl, hp⟩, hC⟩

theorem k_ivOf (m : Int) (lm : -9223372036854775808 ≤ m) (um : m < 9223372036854775808) (n : Int) (ln : -9223372036854775808 ≤ n) (un : n < 9223372036854775808) : ∃ t : Iv, (t = Iv.ofInts m n ∧ (t.lo.ok ∧ t.hi.ok)) ∧ CallsA Tryz.prog 30 [.int .i64 (.s m), .int .i64 (.s n)] t.av :=
  withQ (p := fun t : Iv => t.lo.ok ∧ t.hi.ok) (c_ivOf m n lm um ln un) (Iv.ofInts_ok m n)
theorem k_Of (n : Int) (ln : -9223372036854775808 ≤ n) (un : n < 9223372036854775808) : ∃ t : Num, (t = Num.ofInt n ∧ t.ok) ∧ CallsA Tryz.prog 31 [.int .i64 (.s n)] t.av :=
  withQ (p := fun t : Num => t.ok) (c_Of n ln un) (Num.ofInt_ok n)
theorem k_opSub (a : Iv) (ha : a.lo.ok ∧ a.hi.ok) (b : Iv) (hb : b.lo.ok ∧ b.hi.ok) : ∃ t : Iv, (t = Iv.sub a b ∧ (t.lo.ok ∧ t.hi.ok)) ∧ CallsA Tryz.prog 34 [a.av, b.av] t.av :=
  withQ (p := fun t : Iv => t.lo.ok ∧ t.hi.ok) (c_opSub a b ha.1 ha.2 hb.1 hb.2) (Iv.sub_ok ha hb)
theorem k_opNeg (a : Iv) (ha : a.lo.ok ∧ a.hi.ok) : ∃ t : Iv, (t = Iv.neg a ∧ (t.lo.ok ∧ t.hi.ok)) ∧ CallsA Tryz.prog 40 [a.av] t.av :=
  withQ (p := fun t : Iv => t.lo.ok ∧ t.hi.ok) (c_opNeg a) (Iv.neg_ok ha.1 ha.2)
theorem k_opAdd2 (a : Iv) (ha : a.lo.ok ∧ a.hi.ok) (b : Iv) (hb : b.lo.ok ∧ b.hi.ok) : ∃ t : Iv, (t = Iv.add [a, b] ∧ (t.lo.ok ∧ t.hi.ok)) ∧ CallsA Tryz.prog 37 [.slc 9 (.s 2) (fun i => Iv.cells ([a, b].getD i Iv.none))] t.av :=
  withQ (p := fun t : Iv => t.lo.ok ∧ t.hi.ok) (c_opAdd [a, b] 2 rfl (by decide) (all2 ha hb)) (Iv.add_ok (all2 ha hb))
theorem k_meet2 (a : Iv) (ha : a.lo.ok ∧ a.hi.ok) (b : Iv) (hb : b.lo.ok ∧ b.hi.ok) : ∃ t : Iv, (t = Iv.meet [a, b] ∧ (t.lo.ok ∧ t.hi.ok)) ∧ CallsA Tryz.prog 33 [.slc 9 (.s 2) (fun i => Iv.cells ([a, b].getD i Iv.none))] t.av :=
  withQ (p := fun t : Iv => t.lo.ok ∧ t.hi.ok) (c_meet [a, b] 2 rfl (by decide)) (Iv.meet_ok (all2 ha hb))
theorem k_hull2 (a : Iv) (ha : a.lo.ok ∧ a.hi.ok) (b : Iv) (hb : b.lo.ok ∧ b.hi.ok) : ∃ t : Iv, (t = Iv.hull [a, b] ∧ (t.lo.ok ∧ t.hi.ok)) ∧ CallsA Tryz.prog 39 [.slc 9 (.s 2) (fun i => Iv.cells ([a, b].getD i Iv.none))] t.av :=
  withQ (p := fun t : Iv => t.lo.ok ∧ t.hi.ok) (c_hull [a, b] 2 rfl (by decide)) (Iv.hull_ok (all2 ha hb))
end Go.Proofs.YtoghalnnmhpfmaaGreat.Ev

/- Contracts: words of 32 bits. Printed by gen.py out of C22.spec. -/
namespace Go.Proofs.YtoghalnnmhpfmaaGreat.Ev
open Go Go.Proofs
set_option linter.unusedVariables false
set_option linter.unusedSimpArgs false

theorem c_Add32 (x : Int) (y : Int) (c : Int) (hx : 0 ≤ x) (hx' : x < 4294967296) (hy : 0 ≤ y) (hy' : y < 4294967296) (c0 : 0 ≤ c) (c1 : c ≤ 1) : ∃ t : Int × Int, t = ((x + y + c) % 4294967296, (x + y + c) / 4294967296) ∧ CallsA Tryz.prog 154 [.int .u32 (.s x), .int .u32 (.s y), .int .u32 (.s c)] (.tup [.int .u32 (.s t.1), .int .u32 (.s t.2)]) := by
  refine ⟨_, rfl, ?_⟩
  generalize hr : ((x + y + c) % 4294967296, (x + y + c) / 4294967296) = r
  refine callsA_of hG hm Tryz.func154 (by kernel_rfl) ?_
  intro E hE lp hl
  cbv
  repeat' (first
    | (refine E_br hE (fun h => ?_) (fun h => ?_) <;> cbv)
    | (refine E_nm hE (fun v hv => ?_); cbv)
    | fail)
  all_goals (subst hE; subst hr)
  all_goals (try simp only [realE, cmp_eql, cmp_neq, cmp_lss, cmp_leq, cmp_gtr, cmp_geq, intBinR, decide_eq_true_eq, decide_eq_false_iff_not, SI.val, SB.val, Num.eta, Iv.eta] at *)
  all_goals (simp only [shr32, wu64, wu32] at *)
  all_goals (refine ⟨?_, ?_, trivial⟩ <;> omega)

theorem c_Sub32 (x : Int) (y : Int) (c : Int) (hx : 0 ≤ x) (hx' : x < 4294967296) (hy : 0 ≤ y) (hy' : y < 4294967296) (c0 : 0 ≤ c) (c1 : c ≤ 1) : ∃ t : Int × Int, t = ((x - y - c) % 4294967296, (if x < y + c then 1 else 0 : Int)) ∧ CallsA Tryz.prog 159 [.int .u32 (.s x), .int .u32 (.s y), .int .u32 (.s c)] (.tup [.int .u32 (.s t.1), .int .u32 (.s t.2)]) := by
  refine ⟨_, rfl, ?_⟩
  generalize hr : ((x - y - c) % 4294967296, (if x < y + c then 1 else 0 : Int)) = r
  refine callsA_of hG hm Tryz.func159 (by kernel_rfl) ?_
  intro E hE lp hl
  cbv
  repeat' (first
    | (refine E_br hE (fun h => ?_) (fun h => ?_) <;> cbv)
    | (refine E_nm hE (fun v hv => ?_); cbv)
    | fail)
  all_goals (subst hE; subst hr)
  all_goals (try simp only [realE, cmp_eql, cmp_neq, cmp_lss, cmp_leq, cmp_gtr, cmp_geq, intBinR, decide_eq_true_eq, decide_eq_false_iff_not, SI.val, SB.val, Num.eta, Iv.eta] at *)
  rename_i d hd
  rw [shr31] at hv
  have e : d = (x - y - c) % 4294967296 := by rw [hd, wu32, wu32]; omega
  refine ⟨e, ?_, trivial⟩
  rw [hv]
  exact borrow32 hx hx' hy hy' (by omega) (by omega) (b := c) (by omega) e

theorem c_Div32 (hi : Int) (lo : Int) (y : Int) (hhi : 0 ≤ hi) (hhi' : hi < 4294967296) (hlo : 0 ≤ lo) (hlo' : lo < 4294967296) (hy : 0 ≤ y) (hy' : y < 4294967296) (hlt : hi < y) : ∃ t : Int × Int, t = ((hi * 4294967296 + lo) / y, (hi * 4294967296 + lo) % y) ∧ CallsA Tryz.prog 158 [.int .u32 (.s hi), .int .u32 (.s lo), .int .u32 (.s y)] (.tup [.int .u32 (.s t.1), .int .u32 (.s t.2)]) := by
  refine ⟨_, rfl, ?_⟩
  generalize hr : ((hi * 4294967296 + lo) / y, (hi * 4294967296 + lo) % y) = r
  refine callsA_of hG hm Tryz.func158 (by kernel_rfl) ?_
  intro E hE lp hl
  cbv
  repeat' (first
    | (refine E_br hE (fun h => ?_) (fun h => ?_) <;> cbv)
    | (refine E_nm hE (fun v hv => ?_); cbv)
    | fail)
  all_goals (subst hE; subst hr)
  all_goals (try simp only [realE, cmp_eql, cmp_neq, cmp_lss, cmp_leq, cmp_gtr, cmp_geq, intBinR, decide_eq_true_eq, decide_eq_false_iff_not, SI.val, SB.val, Num.eta, Iv.eta] at *)
  all_goals (try (exfalso; rw [wu64] at *; omega))
  all_goals (try (exfalso; omega))
  rename_i v1 v2 e1 e2 _ _ _
  rw [div32_word hhi hhi' hlo hlo'] at e1
  subst e1
  obtain ⟨q1, q2⟩ := div32_parts hhi hlo hlo' hlt hy'
  exact ⟨e2.trans q1, hv.trans q2, trivial⟩

theorem c_Len32 (x : Int) (hx : 0 ≤ x) (hx' : x < 4294967296) : ∃ t : Int, t = blen x ∧ CallsA Tryz.prog 148 [.int .u32 (.s x)] (.int .i64 (.s t)) := by
  refine ⟨_, rfl, ?_⟩
  generalize hr : blen x = r
  refine callsA_of hG hm Tryz.func148 (by kernel_rfl) ?_
  intro E hE lp hl
  cbv
  repeat' (first
    | (refine E_br hE (fun h => ?_) (fun h => ?_) <;> cbv)
    | (refine E_nm hE (fun v hv => ?_); cbv)
    | fail)
  all_goals (try (generalize hL : (⟨⟨[0, 1, 2, 2, 3, 3, 3, 3, 4, 4, 4, 4, 4, 4, 4, 4, 5, 5, 5, 5, 5, 5, 5, 5, 5, 5, 5, 5, 5, 5, 5, 5, 6, 6, 6, 6, 6, 6, 6, 6, 6, 6, 6, 6, 6, 6, 6, 6, 6, 6, 6, 6, 6, 6, 6, 6, 6, 6, 6, 6, 6, 6, 6, 6, 7, 7, 7, 7, 7, 7, 7, 7, 7, 7, 7, 7, 7, 7, 7, 7, 7, 7, 7, 7, 7, 7, 7, 7, 7, 7, 7, 7, 7, 7, 7, 7, 7, 7, 7, 7, 7, 7, 7, 7, 7, 7, 7, 7, 7, 7, 7, 7, 7, 7, 7, 7, 7, 7, 7, 7, 7, 7, 7, 7, 7, 7, 7, 7, 8, 8, 8, 8, 8, 8, 8, 8, 8, 8, 8, 8, 8, 8, 8, 8, 8, 8, 8, 8, 8, 8, 8, 8, 8, 8, 8, 8, 8, 8, 8, 8, 8, 8, 8, 8, 8, 8, 8, 8, 8, 8, 8, 8, 8, 8, 8, 8, 8, 8, 8, 8, 8, 8, 8, 8, 8, 8, 8, 8, 8, 8, 8, 8, 8, 8, 8, 8, 8, 8, 8, 8, 8, 8, 8, 8, 8, 8, 8, 8, 8, 8, 8, 8, 8, 8, 8, 8, 8, 8, 8, 8, 8, 8, 8, 8, 8, 8, 8, 8, 8, 8, 8, 8, 8, 8, 8, 8, 8, 8, 8, 8, 8, 8, 8, 8, 8, 8, 8, 8, 8, 8, 8, 8, 8, 8, 8, 8]⟩⟩ : ByteArray) = L at *; replace hL := len8_str hL; obtain ⟨hL1, hL2⟩ := hL))
  all_goals (subst hE; subst hr)
  all_goals (try simp only [realE, cmp_eql, cmp_neq, cmp_lss, cmp_leq, cmp_gtr, cmp_geq, intBinR, decide_eq_true_eq, decide_eq_false_iff_not, SI.val, SB.val, Num.eta, Iv.eta] at *)
  all_goals (simp only [shr8', shr16', wu8, wi64] at *)
  all_goals (try omega)
  all_goals (try rw [hL2 _ (by omega) (by omega)] at hv)
  all_goals (have b1 := blen_nonneg x; have b2 := blen_le 32 (x := x) (by omega))
  all_goals (try have s2 := len16 ‹(65536 : Int) ≤ _› ‹_ = _ / (65536 : Int)›)
  all_goals (try have s3 := len8 ‹(256 : Int) ≤ _› ‹_ = _ / (256 : Int)›)
  all_goals omega

theorem c_LZ32 (x : Int) (hx : 0 ≤ x) (hx' : x < 4294967296) : ∃ t : Int, t = 32 - blen x ∧ CallsA Tryz.prog 150 [.int .u32 (.s x)] (.int .i64 (.s t)) := by
  refine ⟨_, rfl, ?_⟩
  generalize hr : 32 - blen x = r
  refine callsA_of hG hm Tryz.func150 (by kernel_rfl) ?_
  intro E hE lp hl
  cbv
  repeat' (first
    | (refine E_br hE (fun h => ?_) (fun h => ?_) <;> cbv)
    | (refine E_nm hE (fun v hv => ?_); cbv)
    | (apply E_callX hE (c_Len32 _ ?_ ?_); (case hf => rfl); (case hc => (cbv <;> trivial)); (case hle => exact u_up); all_goals (first | (intro t ht; cbv) | (subst hE; (try simp only [realE, cmp_eql, cmp_neq, cmp_lss, cmp_leq, cmp_gtr, cmp_geq, intBinR, decide_eq_true_eq, decide_eq_false_iff_not, SI.val, SB.val, Num.eta, Iv.eta] at *); first | assumption | omega)))
    | fail)
  all_goals (subst hE; subst hr)
  all_goals (try simp only [realE, cmp_eql, cmp_neq, cmp_lss, cmp_leq, cmp_gtr, cmp_geq, intBinR, decide_eq_true_eq, decide_eq_false_iff_not, SI.val, SB.val, Num.eta, Iv.eta] at *)
  all_goals (try simp only [wi64] at *)
  all_goals (have b1 := blen_nonneg x; have b2 := blen_le 32 (x := x) (by omega); omega)

end Go.Proofs.YtoghalnnmhpfmaaGreat.Ev

/- Contracts: limbs cut of their noughts, their copies, which of two is less. Printed by gen.py. -/
namespace Go.Proofs.YtoghalnnmhpfmaaGreat.Ev
open Go Go.Proofs
set_option linter.unusedVariables false
set_option linter.unusedSimpArgs false

attribute [local irreducible] Lb
theorem c_cut (a : List Int) (ha : Lb a) (hb : a.length < 9223372036854775808) : ∃ t : List Int, t = lim (lv a) ∧ CallsA Tryz.prog 124 [.sli .u32 a] (.sli .u32 t) := by
  refine ⟨_, rfl, ?_⟩
  generalize hr : lim (lv a) = r
  refine callsA_of hG hm Tryz.func124 (by kernel_rfl) ?_
  intro E hE lp hl
  cbv
  refine E_loop hE hG hm hl (fun (p : List Int) => (⟨[(0, .sli .u32 p), (2, .s0)], []⟩ : St)) (fun p => p.length) (fun p => ∃ k : Nat, k ≤ a.length ∧ p = a.take k ∧ lv (a.take k) = lv a) ⟨a, ⟨a.length, Nat.le_refl _, by simp, by simp⟩, stLe rfl ?_⟩ ?_
  · (repeat' (first | exact t_nil | apply t_cons | exact u2_sli | exact u2_int | exact u2_bool | exact u2_ms | exact u2_ptr | exact (rfl : sle2 .s0 .s0)))
  rintro p ⟨k, hk, hp, hv⟩
  have hpl : p.length = k := by rw [hp]; simp; omega
  cbv
  repeat' (first
    | (refine E_br hE (fun h => ?_) (fun h => ?_) <;> cbv)
    | (refine E_nm hE (fun v hv => ?_); cbv)
    | (refine E_nilS hE (fun b hb => ?_); cbv)
    | fail)
  case refine_2.refine_1.refine_1.refine_1.refine_1.refine_1.refine_1 =>
    refine ⟨E.sub p 0 (E.bin .sub .i64 (E.len p) 1), ?_, ⟨k - 1, ?_, ?_, ?_⟩, stLe rfl ?_⟩
    rotate_right
    · (repeat' (first | exact t_nil | apply t_cons | exact u2_sli | exact u2_int | exact u2_bool | exact u2_ms | exact u2_ptr | exact (rfl : sle2 .s0 .s0)))
    all_goals (subst hE; simp only [NatCast.natCast, Int.ofNat_eq_natCast, realE, cmp_eql, cmp_neq, cmp_lss, cmp_leq, cmp_gtr, cmp_geq, intBinR, decide_eq_true_eq, decide_eq_false_iff_not, SI.val, SB.val, Num.eta, Iv.eta] at *)
    all_goals (rw [hpl] at *; rw [wi64_pred (by omega) (by omega)] at *)
    all_goals (have e0 : ((k : Int) - 1).toNat = k - 1 := by omega)
    · simp; omega
    · omega
    · rw [e0, hp]; simp [List.take_take]
    · rw [lv_cut_step (by omega) hk ?_, hv]
      rw [← getD_take (k := k) (by omega), ← hp, ← e0]; assumption
  all_goals (subst hE; simp only [NatCast.natCast, Int.ofNat_eq_natCast, realE, cmp_eql, cmp_neq, cmp_lss, cmp_leq, cmp_gtr, cmp_geq, intBinR, decide_eq_true_eq, decide_eq_false_iff_not, SI.val, SB.val, Num.eta, Iv.eta] at *)
  all_goals (rw [hpl] at *)
  all_goals (try (rw [wi64_pred (by omega) (by omega)] at *))
  all_goals (try (exfalso; omega))
  all_goals (rw [← hr, hp])
  · exact cut_end ha hk (.inr (by rw [← getD_take (k := k) (by omega), ← hp]; rw [show ((k : Int) - 1).toNat = k - 1 by omega] at h; exact h)) hv
  · exact cut_end ha hk (.inl (by omega)) hv

theorem c_Clone (a : List Int) (hlb : a.length ≤ 268435456) : ∃ t : List Int, t = a ∧ CallsA Tryz.prog 131 [.sli .u32 a] (.sli .u32 t) := by
  refine ⟨_, rfl, ?_⟩
  generalize hr : a = r
  refine callsA_of hG hm Tryz.func131 (by kernel_rfl) ?_
  intro E hE lp hl
  cbv
  repeat' (first
    | (refine E_br hE (fun h => ?_) (fun h => ?_) <;> cbv)
    | (refine E_nm hE (fun v hv => ?_); cbv)
    | (refine E_nilS hE (fun b hb => ?_); cbv)
    | fail)
  all_goals (subst hE; simp only [NatCast.natCast, Int.ofNat_eq_natCast, realE, cmp_eql, cmp_neq, cmp_lss, cmp_leq, cmp_gtr, cmp_geq, intBinR, decide_eq_true_eq, decide_eq_false_iff_not, SI.val, SB.val, Num.eta, Iv.eta] at *)
  · exact List.length_eq_zero_iff.1 (by have := hb h; omega)
  · simp
  · subst hr; omega

theorem c_natCmp (a b : List Int) (ha : Lb a) (hb : Lb b) (hla : a.length ≤ 268435456) (hlb : b.length ≤ 268435456) : ∃ t : Int, t = (if lv a < lv b then -1 else if lv b < lv a then 1 else 0 : Int) ∧ CallsA Tryz.prog 129 [.sli .u32 a, .sli .u32 b] (.int .i64 (.s t)) := by
  refine ⟨_, rfl, ?_⟩
  generalize hr : (if lv a < lv b then -1 else if lv b < lv a then 1 else 0 : Int) = r
  have hl1 := lim_length_le' ha
  have hl2 := lim_length_le' hb
  have l1 := lim_lb (lv a)
  have l2 := lim_lb (lv b)
  have v1 := lv_lim (lv a)
  have v2 := lv_lim (lv b)
  have k1 : (lim (lv a)).length < (lim (lv b)).length → r = -1 := by
    intro h; rw [← hr, if_pos (lim_len_lt h)]
  have k2 : (lim (lv b)).length < (lim (lv a)).length → r = 1 := by
    intro h; have := lim_len_lt h; rw [← hr, if_neg (by omega), if_pos this]
  have k3 : lv (lim (lv a)) < lv (lim (lv b)) → r = -1 := by
    intro h; rw [v1, v2] at h; rw [← hr, if_pos h]
  have k4 : lv (lim (lv b)) < lv (lim (lv a)) → r = 1 := by
    intro h; rw [v1, v2] at h; rw [← hr, if_neg (by omega), if_pos h]
  have k5 : lim (lv a) = lim (lv b) → r = 0 := by
    intro h; have := lim_inj h; rw [← hr, if_neg (by omega), if_neg (by omega)]
  refine callsA_of hG hm Tryz.func129 (by kernel_rfl) ?_
  intro E hE lp hl
  cbv
  (apply E_callX hE (c_cut a ha (by omega)); (case hf => rfl); (case hc => (cbv <;> trivial)); (case hle => exact ⟨u2_sli, trivial⟩); intro x hx; cbv)
  (apply E_callX hE (c_cut b hb (by omega)); (case hf => rfl); (case hc => (cbv <;> trivial)); (case hle => exact ⟨u2_sli, trivial⟩); intro y hy; cbv)
  repeat' (first
    | (refine E_br hE (fun h => ?_) (fun h => ?_) <;> cbv)
    | (refine E_nm hE (fun v hv => ?_); cbv)
    | (refine E_nilS hE (fun b hb => ?_); cbv)
    | fail)
  case hK.hK.refine_1 => subst hE; simp only [NatCast.natCast, Int.ofNat_eq_natCast, realE, cmp_eql, cmp_neq, cmp_lss, cmp_leq, cmp_gtr, cmp_geq, intBinR, decide_eq_true_eq, decide_eq_false_iff_not, SI.val, SB.val, Num.eta, Iv.eta] at *; rw [k1 (by rw [← hx, ← hy]; omega)]
  case hK.hK.refine_2.refine_1 => subst hE; simp only [NatCast.natCast, Int.ofNat_eq_natCast, realE, cmp_eql, cmp_neq, cmp_lss, cmp_leq, cmp_gtr, cmp_geq, intBinR, decide_eq_true_eq, decide_eq_false_iff_not, SI.val, SB.val, Num.eta, Iv.eta] at *; rw [k2 (by rw [← hx, ← hy]; omega)]
  have hlen : x.length = y.length := by subst hE; simp only [NatCast.natCast, Int.ofNat_eq_natCast, realE, cmp_eql, cmp_neq, cmp_lss, cmp_leq, cmp_gtr, cmp_geq, intBinR, decide_eq_true_eq, decide_eq_false_iff_not, SI.val, SB.val, Num.eta, Iv.eta] at *; omega
  rw [← hx] at k1 k2 k3 k4 k5 hl1 l1
  rw [← hy] at k1 k2 k3 k4 k5 hl2 l2
  obtain ⟨m, em⟩ : ∃ m : Int → Nat, ∀ i, m i = (x.length - i).toNat := ⟨_, fun _ => rfl⟩
  obtain ⟨ok, eok⟩ : ∃ ok : Int → Prop, ∀ i, ok i ↔ 0 ≤ i ∧ i ≤ x.length ∧ x.drop (x.length - i).toNat = y.drop (x.length - i).toNat := ⟨_, fun _ => Iff.rfl⟩
  refine E_loop hE hG hm hl (fun i : Int => (⟨[(0, .sli .u32 x), (1, .sli .u32 y), (24, .int .i64 (.s (E.len x))), (25, .int .i64 (.s i))], []⟩ : St)) m ok ⟨0, (eok 0).2 ⟨by omega, by omega, ?_⟩, stLe rfl ?_⟩ ?_
  · rw [show ((x.length : Int) - 0).toNat = x.length by omega, List.drop_length, List.drop_eq_nil_of_le (by omega)]
  · (repeat' (first | exact t_nil | apply t_cons | exact u2_sli | exact u2_int | exact u2_bool | exact u2_ms | exact u2_ptr | exact (rfl : sle2 .s0 .s0)))
  intro i hok
  obtain ⟨h1, h2, h3⟩ := (eok i).1 hok
  have low : ∀ v : Int, v = x.length - 1 - i → i < x.length → x.getD v.toNat 0 < y.getD v.toNat 0 → -1 = r := by
    intro v hv hi h
    exact (k3 (cmp_step l1 l2 (k := v.toNat) hlen (by omega) (by rw [show v.toNat + 1 = ((x.length : Int) - i).toNat by omega]; exact h3) h)).symm
  have high : ∀ v : Int, v = x.length - 1 - i → i < x.length → y.getD v.toNat 0 < x.getD v.toNat 0 → 1 = r := by
    intro v hv hi h
    exact (k4 (cmp_step l2 l1 (k := v.toNat) hlen.symm (by omega) (by rw [show v.toNat + 1 = ((x.length : Int) - i).toNat by omega]; exact h3.symm) h)).symm
  have same : ∀ v : Int, v = x.length - 1 - i → i < x.length → ¬ y.getD v.toNat 0 < x.getD v.toNat 0 → ¬ x.getD v.toNat 0 < y.getD v.toNat 0 → x.drop (x.length - (i + 1)).toNat = y.drop (x.length - (i + 1)).toNat := by
    intro v hv hi h h'
    rw [show ((x.length : Int) - (i + 1)).toNat = v.toNat by omega]
    exact drop_step hlen (by omega) (by rw [show v.toNat + 1 = ((x.length : Int) - i).toNat by omega]; exact h3) (by omega)
  have done : ¬ i < x.length → 0 = r := by
    intro h
    rw [k5 (by rw [show ((x.length : Int) - i).toNat = 0 by omega] at h3; simpa using h3)]
  clear h3 k1 k2 k3 k4 k5
  cbv
  repeat' (first
    | (refine E_br hE (fun h => ?_) (fun h => ?_) <;> cbv)
    | (refine E_nm hE (fun v hv => ?_); cbv)
    | (refine E_nilS hE (fun b hb => ?_); cbv)
    | fail)
  all_goals (try refine ⟨E.bin .add .i64 i 1, ?_, ?_, stLe rfl ?_⟩)
  all_goals (try ((repeat' (first | exact t_nil | apply t_cons | exact u2_sli | exact u2_int | exact u2_bool | exact u2_ms | exact u2_ptr | exact (rfl : sle2 .s0 .s0))); done))
  all_goals (subst hE; simp only [NatCast.natCast, Int.ofNat_eq_natCast, realE, cmp_eql, cmp_neq, cmp_lss, cmp_leq, cmp_gtr, cmp_geq, intBinR, decide_eq_true_eq, decide_eq_false_iff_not, SI.val, SB.val, Num.eta, Iv.eta] at *)
  all_goals (try exact done ‹_›)
  all_goals (have hi : i < x.length := ‹_›; try rw [wi64_succ h1 hi (by omega)])
  all_goals (have hv : ∀ v w, w = i → v = IntKind.i64.wrap (IntKind.i64.wrap ((x.length : Int) - 1) - w) → v = x.length - 1 - i := by (intro v w h h'; rw [wi64, wi64] at h'; omega))
  all_goals (replace hv := hv _ _ ‹_ = i› ‹_›)
  all_goals (first | omega | (rw [em, em]; omega) | exact low _ hv hi ‹_› | exact high _ hv hi ‹_› | exact (eok _).2 ⟨by omega, by omega, same _ hv hi ‹_› ‹_›⟩)

end Go.Proofs.YtoghalnnmhpfmaaGreat.Ev

/- Contracts: the sum of limbs. Printed by gen.py. -/
namespace Go.Proofs.YtoghalnnmhpfmaaGreat.Ev
open Go Go.Proofs
set_option linter.unusedVariables false
set_option linter.unusedSimpArgs false


attribute [local irreducible] Lb
theorem sub_all {l : List Int} {n : Int} (h : n = l.length) : (l.drop (0 : Int).toNat).take n.toNat = l := by subst h; simp

def addI (E : Env) (x y : List Int) : Int × Int × List Int → St := fun p => ⟨[(0, .sli .u32 x), (1, .sli .u32 y), (5, .ms 0 1 (.l 0) (.s (E.bin .add .i64 (E.len x) 1))), (6, .int .u32 (.s p.2.1)), (21, .int .i64 (.s (E.len x))), (22, .int .i64 (.s p.1))], [.ints true .u32 p.2.2]⟩

theorem c_natAdd (a b : List Int) (ha : Lb a) (hb : Lb b) (hla : a.length < 268435456) (hlb : b.length < 268435456) : ∃ t : List Int, t = lim (lv a + lv b) ∧ CallsA Tryz.prog 128 [.sli .u32 a, .sli .u32 b] (.sli .u32 t) := by
  refine ⟨_, rfl, ?_⟩
  generalize hr : lim (lv a + lv b) = r
  refine callsA_of hG hm Tryz.func128 (by kernel_rfl) ?_
  intro E hE lp hl
  cbv
  refine E_br hE (fun h => ?_) (fun h => ?_)
  · have hsum : lv b + lv a = lv a + lv b := Nat.add_comm _ _
    have hxy : a.length ≤ b.length := by subst hE; simp only [NatCast.natCast, Int.ofNat_eq_natCast, realE, cmp_eql, cmp_neq, cmp_lss, cmp_leq, cmp_gtr, cmp_geq, intBinR, decide_eq_true_eq, decide_eq_false_iff_not, SI.val, SB.val, Num.eta, Iv.eta] at *; omega

    have h32 : IntKind.i64.wrap ((b.length : Int) + 1) = b.length + 1 := wi64_id (by omega) (by omega)
    cbv
    repeat' (first
    | (refine E_br hE (fun h => ?_) (fun h => ?_) <;> cbv)
    | (refine E_nm hE (fun v hv => ?_); cbv)
    | (refine E_nilS hE (fun b hb => ?_); cbv)
    | fail)
    all_goals (try (exfalso; subst hE; simp only [NatCast.natCast, Int.ofNat_eq_natCast, realE, cmp_eql, cmp_neq, cmp_lss, cmp_leq, cmp_gtr, cmp_geq, intBinR, decide_eq_true_eq, decide_eq_false_iff_not, SI.val, SB.val, Num.eta, Iv.eta] at *; rw [h32] at *; omega))
    obtain ⟨m, em⟩ : ∃ m : Int × Int × List Int → Nat, ∀ p, m p = (b.length - p.1).toNat := ⟨_, fun _ => rfl⟩
    obtain ⟨ok, eok⟩ : ∃ ok : Int × Int × List Int → Prop, ∀ p, ok p ↔ 0 ≤ p.1 ∧ p.1 ≤ b.length ∧ AddInv b a p.2.2 p.1.toNat p.2.1 := ⟨_, fun _ => Iff.rfl⟩
    refine E_loop hE hG hm hl (addI E b a) m ok ⟨(0, 0, E.rep (E.bin .add .i64 (E.len b) 1)), (eok _).2 ?_, stLe rfl ?_⟩ ?_
    · refine ⟨by show (0 : Int) ≤ 0; omega, by show (0 : Int) ≤ b.length; omega, ?_⟩
      have := AddInv.start b a
      subst hE; simp only [NatCast.natCast, Int.ofNat_eq_natCast, realE, cmp_eql, cmp_neq, cmp_lss, cmp_leq, cmp_gtr, cmp_geq, intBinR, decide_eq_true_eq, decide_eq_false_iff_not, SI.val, SB.val, Num.eta, Iv.eta] at *; rw [h32]
      exact this
    · (repeat' (first | exact t_nil | apply t_cons | exact u2_sli | exact u2_int | exact u2_bool | exact u2_ms | exact u2_ptr | exact (rfl : sle2 .s0 .s0)))
    rintro ⟨i, c, out⟩ hok
    obtain ⟨h1, h2, inv⟩ := (eok _).1 hok
    dsimp only at h1 h2 inv
    have hgx := hb.getD i.toNat
    have hgy := ha.getD i.toNat
    have hc0 := inv.c0
    have hc1 := inv.c1
    have hol := inv.len
    have next : ∀ (j k c' z : Int) (v : Int × Int), i < b.length → k = i → j = IntKind.i64.wrap (i + 1) → (z = a.getD k.toNat 0 ∨ (¬ k < a.length ∧ z = 0)) →
        v = ((b.getD k.toNat 0 + z + c) % 4294967296, (b.getD k.toNat 0 + z + c) / 4294967296) → c' = v.2 →
        m (j, c', out.set k.toNat v.1) < m (i, c, out) ∧ ok (j, c', out.set k.toNat v.1) := by
      intro j k c' z v h hk hj hz hv hc
      subst hk
      have hz : z = a.getD k.toNat 0 := by
        rcases hz with hz | ⟨hz, h0⟩
        · exact hz
        · rw [h0, getD_past (by omega)]
      have hj : j = k + 1 := by rw [hj, wi64_id (by omega) (by omega)]
      refine ⟨by rw [em, em]; show ((b.length : Int) - j).toNat < ((b.length : Int) - k).toNat; omega, (eok _).2 ⟨by show 0 ≤ j; omega, by show j ≤ (b.length : Int); omega, ?_⟩⟩
      have := inv.step hb ha (by omega)
      rw [← hz] at this
      rw [hc, hv, hj]
      show AddInv b a (out.set k.toNat ((b.getD k.toNat 0 + z + c) % 4294967296)) (k + 1).toNat ((b.getD k.toNat 0 + z + c) / 4294967296)
      rw [show (k + 1).toNat = k.toNat + 1 by omega]
      exact this
    have fin : ¬ i < b.length → Lb (out.set (b.length : Int).toNat c) ∧ lim (lv (out.set (b.length : Int).toNat c)) = r := by
      intro h
      rw [show i.toNat = b.length by omega] at inv
      obtain ⟨k1, k2⟩ := inv.stop hxy
      rw [Int.toNat_natCast]
      exact ⟨k1, by rw [k2, hsum, hr]⟩
    clear inv hok hr
    cbv
    repeat' (first
    | (refine E_br hE (fun h => ?_) (fun h => ?_) <;> cbv)
    | (refine E_nm hE (fun v hv => ?_); cbv)
    | (refine E_nilS hE (fun b hb => ?_); cbv)
    | (apply E_callX hE (c_Add32 _ _ _ ?_ ?_ ?_ ?_ ?_ ?_); (case hf => rfl); (case hc => (cbv <;> trivial)); (case hle => exact u_up); all_goals (first | (intro t ht; cbv) | (subst hE; (try simp only [NatCast.natCast, Int.ofNat_eq_natCast, realE, cmp_eql, cmp_neq, cmp_lss, cmp_leq, cmp_gtr, cmp_geq, intBinR, decide_eq_true_eq, decide_eq_false_iff_not, SI.val, SB.val, Num.eta, Iv.eta] at *); subst_vars; (first | assumption | omega))))
    | (apply E_callX hE (c_cut _ ?_ ?_); (case hf => rfl); (case hc => (cbv <;> trivial)); (case hle => exact u_up); all_goals (first | (intro t ht; cbv) | ((subst hE; simp only [NatCast.natCast, Int.ofNat_eq_natCast, realE, cmp_eql, cmp_neq, cmp_lss, cmp_leq, cmp_gtr, cmp_geq, intBinR, decide_eq_true_eq, decide_eq_false_iff_not, SI.val, SB.val, Num.eta, Iv.eta] at *; rw [h32] at *; rw [sub_all (by rw [List.length_set]; omega)]; first | exact (fin ‹_›).1 | (rw [List.length_set]; omega)))))
    | fail)
    all_goals (try refine ⟨(E.bin .add .i64 i 1, v, E.set out _ t.1), ?_, ?_, stLe rfl ?_⟩)
    all_goals (try ((repeat' (first | exact t_nil | apply t_cons | exact u2_sli | exact u2_int | exact u2_bool | exact u2_ms | exact u2_ptr | exact (rfl : sle2 .s0 .s0))); done))
    all_goals (subst hE; simp only [NatCast.natCast, Int.ofNat_eq_natCast, realE, cmp_eql, cmp_neq, cmp_lss, cmp_leq, cmp_gtr, cmp_geq, intBinR, decide_eq_true_eq, decide_eq_false_iff_not, SI.val, SB.val, Num.eta, Iv.eta] at *)
    all_goals (first | exact (next _ _ _ _ _ ‹_› ‹_› rfl (by first | exact .inl ‹_› | exact .inr ⟨‹_›, rfl⟩) ‹t = _› ‹_›).1 | exact (next _ _ _ _ _ ‹_› ‹_› rfl (by first | exact .inl ‹_› | exact .inr ⟨‹_›, rfl⟩) ‹t = _› ‹_›).2 | (exfalso; clear next fin; rw [h32] at *; omega) | skip)
    rw [‹t = _›, h32, sub_all (by rw [List.length_set]; omega), (fin ‹_›).2]
  · have hsum : lv a + lv b = lv a + lv b := rfl
    have hxy : b.length ≤ a.length := by subst hE; simp only [NatCast.natCast, Int.ofNat_eq_natCast, realE, cmp_eql, cmp_neq, cmp_lss, cmp_leq, cmp_gtr, cmp_geq, intBinR, decide_eq_true_eq, decide_eq_false_iff_not, SI.val, SB.val, Num.eta, Iv.eta] at *; omega

    have h32 : IntKind.i64.wrap ((a.length : Int) + 1) = a.length + 1 := wi64_id (by omega) (by omega)
    cbv
    repeat' (first
    | (refine E_br hE (fun h => ?_) (fun h => ?_) <;> cbv)
    | (refine E_nm hE (fun v hv => ?_); cbv)
    | (refine E_nilS hE (fun b hb => ?_); cbv)
    | fail)
    all_goals (try (exfalso; subst hE; simp only [NatCast.natCast, Int.ofNat_eq_natCast, realE, cmp_eql, cmp_neq, cmp_lss, cmp_leq, cmp_gtr, cmp_geq, intBinR, decide_eq_true_eq, decide_eq_false_iff_not, SI.val, SB.val, Num.eta, Iv.eta] at *; rw [h32] at *; omega))
    obtain ⟨m, em⟩ : ∃ m : Int × Int × List Int → Nat, ∀ p, m p = (a.length - p.1).toNat := ⟨_, fun _ => rfl⟩
    obtain ⟨ok, eok⟩ : ∃ ok : Int × Int × List Int → Prop, ∀ p, ok p ↔ 0 ≤ p.1 ∧ p.1 ≤ a.length ∧ AddInv a b p.2.2 p.1.toNat p.2.1 := ⟨_, fun _ => Iff.rfl⟩
    refine E_loop hE hG hm hl (addI E a b) m ok ⟨(0, 0, E.rep (E.bin .add .i64 (E.len a) 1)), (eok _).2 ?_, stLe rfl ?_⟩ ?_
    · refine ⟨by show (0 : Int) ≤ 0; omega, by show (0 : Int) ≤ a.length; omega, ?_⟩
      have := AddInv.start a b
      subst hE; simp only [NatCast.natCast, Int.ofNat_eq_natCast, realE, cmp_eql, cmp_neq, cmp_lss, cmp_leq, cmp_gtr, cmp_geq, intBinR, decide_eq_true_eq, decide_eq_false_iff_not, SI.val, SB.val, Num.eta, Iv.eta] at *; rw [h32]
      exact this
    · (repeat' (first | exact t_nil | apply t_cons | exact u2_sli | exact u2_int | exact u2_bool | exact u2_ms | exact u2_ptr | exact (rfl : sle2 .s0 .s0)))
    rintro ⟨i, c, out⟩ hok
    obtain ⟨h1, h2, inv⟩ := (eok _).1 hok
    dsimp only at h1 h2 inv
    have hgx := ha.getD i.toNat
    have hgy := hb.getD i.toNat
    have hc0 := inv.c0
    have hc1 := inv.c1
    have hol := inv.len
    have next : ∀ (j k c' z : Int) (v : Int × Int), i < a.length → k = i → j = IntKind.i64.wrap (i + 1) → (z = b.getD k.toNat 0 ∨ (¬ k < b.length ∧ z = 0)) →
        v = ((a.getD k.toNat 0 + z + c) % 4294967296, (a.getD k.toNat 0 + z + c) / 4294967296) → c' = v.2 →
        m (j, c', out.set k.toNat v.1) < m (i, c, out) ∧ ok (j, c', out.set k.toNat v.1) := by
      intro j k c' z v h hk hj hz hv hc
      subst hk
      have hz : z = b.getD k.toNat 0 := by
        rcases hz with hz | ⟨hz, h0⟩
        · exact hz
        · rw [h0, getD_past (by omega)]
      have hj : j = k + 1 := by rw [hj, wi64_id (by omega) (by omega)]
      refine ⟨by rw [em, em]; show ((a.length : Int) - j).toNat < ((a.length : Int) - k).toNat; omega, (eok _).2 ⟨by show 0 ≤ j; omega, by show j ≤ (a.length : Int); omega, ?_⟩⟩
      have := inv.step ha hb (by omega)
      rw [← hz] at this
      rw [hc, hv, hj]
      show AddInv a b (out.set k.toNat ((a.getD k.toNat 0 + z + c) % 4294967296)) (k + 1).toNat ((a.getD k.toNat 0 + z + c) / 4294967296)
      rw [show (k + 1).toNat = k.toNat + 1 by omega]
      exact this
    have fin : ¬ i < a.length → Lb (out.set (a.length : Int).toNat c) ∧ lim (lv (out.set (a.length : Int).toNat c)) = r := by
      intro h
      rw [show i.toNat = a.length by omega] at inv
      obtain ⟨k1, k2⟩ := inv.stop hxy
      rw [Int.toNat_natCast]
      exact ⟨k1, by rw [k2, hsum, hr]⟩
    clear inv hok hr
    cbv
    repeat' (first
    | (refine E_br hE (fun h => ?_) (fun h => ?_) <;> cbv)
    | (refine E_nm hE (fun v hv => ?_); cbv)
    | (refine E_nilS hE (fun b hb => ?_); cbv)
    | (apply E_callX hE (c_Add32 _ _ _ ?_ ?_ ?_ ?_ ?_ ?_); (case hf => rfl); (case hc => (cbv <;> trivial)); (case hle => exact u_up); all_goals (first | (intro t ht; cbv) | (subst hE; (try simp only [NatCast.natCast, Int.ofNat_eq_natCast, realE, cmp_eql, cmp_neq, cmp_lss, cmp_leq, cmp_gtr, cmp_geq, intBinR, decide_eq_true_eq, decide_eq_false_iff_not, SI.val, SB.val, Num.eta, Iv.eta] at *); subst_vars; (first | assumption | omega))))
    | (apply E_callX hE (c_cut _ ?_ ?_); (case hf => rfl); (case hc => (cbv <;> trivial)); (case hle => exact u_up); all_goals (first | (intro t ht; cbv) | ((subst hE; simp only [NatCast.natCast, Int.ofNat_eq_natCast, realE, cmp_eql, cmp_neq, cmp_lss, cmp_leq, cmp_gtr, cmp_geq, intBinR, decide_eq_true_eq, decide_eq_false_iff_not, SI.val, SB.val, Num.eta, Iv.eta] at *; rw [h32] at *; rw [sub_all (by rw [List.length_set]; omega)]; first | exact (fin ‹_›).1 | (rw [List.length_set]; omega)))))
    | fail)
    all_goals (try refine ⟨(E.bin .add .i64 i 1, v, E.set out _ t.1), ?_, ?_, stLe rfl ?_⟩)
    all_goals (try ((repeat' (first | exact t_nil | apply t_cons | exact u2_sli | exact u2_int | exact u2_bool | exact u2_ms | exact u2_ptr | exact (rfl : sle2 .s0 .s0))); done))
    all_goals (subst hE; simp only [NatCast.natCast, Int.ofNat_eq_natCast, realE, cmp_eql, cmp_neq, cmp_lss, cmp_leq, cmp_gtr, cmp_geq, intBinR, decide_eq_true_eq, decide_eq_false_iff_not, SI.val, SB.val, Num.eta, Iv.eta] at *)
    all_goals (first | exact (next _ _ _ _ _ ‹_› ‹_› rfl (by first | exact .inl ‹_› | exact .inr ⟨‹_›, rfl⟩) ‹t = _› ‹_›).1 | exact (next _ _ _ _ _ ‹_› ‹_› rfl (by first | exact .inl ‹_› | exact .inr ⟨‹_›, rfl⟩) ‹t = _› ‹_›).2 | (exfalso; clear next fin; rw [h32] at *; omega) | skip)
    rw [‹t = _›, h32, sub_all (by rw [List.length_set]; omega), (fin ‹_›).2]

end Go.Proofs.YtoghalnnmhpfmaaGreat.Ev

/- Contracts: limbs shifted. Printed by gen.py. -/
namespace Go.Proofs.YtoghalnnmhpfmaaGreat.Ev
open Go Go.Proofs
set_option linter.unusedVariables false
set_option linter.unusedSimpArgs false


attribute [local irreducible] Lb
def shlS (E : Env) (x : List Int) (l r : Int) : Int × List Int → St := fun p => ⟨[(0, .sli .u32 x), (5, .int .i64 (.s l)), (6, .int .i64 (.s r)), (7, .ms 0 1 (.l 0) (.s (E.bin .add .i64 (E.bin .add .i64 (E.len x) l) 1))), (36, .sli .u32 x), (37, .int .i64 (.s (E.len x))), (38, .int .i64 (.s p.1))], [.ints true .u32 p.2]⟩
set_option maxHeartbeats 1000000 in
theorem c_natShl (a : List Int) (n : Int) (ha : Lb a) (hla : a.length < 67108864) : ∃ t : List Int, t = (if n < 1 then lim (lv a) else if 16777216 < n then [] else lim (lv a * 2 ^ n.toNat)) ∧ CallsA Tryz.prog 93 [.sli .u32 a, .int .i64 (.s n)] (.sli .u32 t) := by
  refine ⟨_, rfl, ?_⟩
  generalize hr : (if n < 1 then lim (lv a) else if 16777216 < n then [] else lim (lv a * 2 ^ n.toNat)) = r
  have hlx := lim_length_le' ha
  have hx := lim_lb (lv a)
  have vx := lv_lim (lv a)
  obtain ⟨x, ex⟩ : ∃ x, lim (lv a) = x := ⟨_, rfl⟩
  rw [ex] at hlx hx vx
  obtain ⟨m, em⟩ : ∃ m : Int × List Int → Nat, ∀ p, m p = (x.length - p.1).toNat := ⟨_, fun _ => rfl⟩
  obtain ⟨ok, eok⟩ : ∃ ok : Int × List Int → Prop, ∀ p, ok p ↔ 0 ≤ p.1 ∧ p.1 ≤ x.length ∧ ShlInv x p.2 (n / 32).toNat (n % 32).toNat p.1.toNat := ⟨_, fun _ => Iff.rfl⟩
  have eN : ∀ l : Int, 1 ≤ n → n ≤ 16777216 → l = intBinR .quo .i64 n 32 → IntKind.i64.wrap (IntKind.i64.wrap ((x.length : Int) + l) + 1) = x.length + n / 32 + 1 := by
    intro l n1 n2 el
    have : l = n / 32 := by rw [el]; exact quo32 (by omega) (by omega)
    rw [this, wi64_id (n := (x.length : Int) + n / 32) (by omega) (by omega), wi64_id (by omega) (by omega)]
  refine callsA_of hG hm Tryz.func93 (by kernel_rfl) ?_
  intro E hE lp hl
  cbv
  (apply E_callX hE (c_cut a ha (by omega)); (case hf => rfl); (case hc => (cbv <;> trivial)); (case hle => exact ⟨u2_sli, trivial⟩); intro x' hx'; cbv)
  rw [hx'.trans ex]
  clear hx' x'
  refine E_br hE (fun h => ?_) (fun h => ?_)
  · have e : x = r := by subst hE; rw [← hr, if_pos (lss_t h), ex]
    cbv
    repeat' (first
    | (refine E_br hE (fun h => ?_) (fun h => ?_) <;> cbv)
    | (refine E_nm hE (fun v hv => ?_); cbv)
    | (refine E_nilS hE (fun b hb => ?_); cbv)
    | (apply E_callX hE (c_Clone _ ?_); (case hf => rfl); (case hc => (cbv <;> trivial)); (case hle => exact u_up); all_goals (first | (intro t ht; cbv) | (omega)))
    | fail)
    exact ‹_ = x›.trans e
  have n1 : 1 ≤ n := by subst hE; have := lss_f h; omega
  cbv
  repeat' (first
    | (refine E_br hE (fun h => ?_) (fun h => ?_) <;> cbv)
    | (refine E_nm hE (fun v hv => ?_); cbv)
    | (refine E_nilS hE (fun b hb => ?_); cbv)
    | fail)
  · have n2 : 16777216 < n := by subst hE; exact gtr_t ‹_›
    rw [← hr, if_neg (by omega), if_pos n2]
  · have e0 : x.length = 0 := by subst hE; have := eql_t h; simp only [realE] at this; omega
    have e1 : x = [] := List.length_eq_zero_iff.1 e0
    rw [e1] at vx
    rw [← hr, if_neg (by omega)]
    split
    · rfl
    · rw [← vx]; simp [lv, lim_zero]
  all_goals (have n2 : n ≤ 16777216 := (by subst hE; have := gtr_f ‹(realE Tryz.prog).cmp .gtr n 16777216 = false›; omega))
  all_goals (try (exfalso; have := eN _ n1 n2 (by subst hE; assumption); subst hE; simp only [NatCast.natCast, Int.ofNat_eq_natCast, realE, cmp_eql, cmp_neq, cmp_lss, cmp_leq, cmp_gtr, cmp_geq, intBinR, decide_eq_true_eq, decide_eq_false_iff_not, SI.val, SB.val, Num.eta, Iv.eta] at *; rw [this] at *; omega))
  rename_i l el _ _
  replace eN := eN l n1 n2 (by subst hE; exact el)
  simp only [NatCast.natCast, Int.ofNat_eq_natCast] at eN
  have er := hv
  have l1 : l = n / 32 := by subst hE; rw [el]; exact quo32 (by omega) (by omega)
  have r1 : 0 ≤ v := by
    have : v = n % 32 := by subst hE; rw [hv]; exact rem32 (by omega)
    omega
  clear hv
  refine E_loop hE hG hm hl (shlS E x l v) m ok ⟨(0, E.rep (E.bin .add .i64 (E.bin .add .i64 (E.len x) l) 1)), (eok _).2 ?_, stLe rfl ?_⟩ ?_
  · refine ⟨by show (0 : Int) ≤ 0; omega, by show (0 : Int) ≤ x.length; omega, ?_⟩
    have := ShlInv.start x (n / 32).toNat (n % 32).toNat
    subst hE; simp only [NatCast.natCast, Int.ofNat_eq_natCast, realE, cmp_eql, cmp_neq, cmp_lss, cmp_leq, cmp_gtr, cmp_geq, intBinR, decide_eq_true_eq, decide_eq_false_iff_not, SI.val, SB.val, Num.eta, Iv.eta] at *; rw [eN, show ((x.length : Int) + n / 32 + 1).toNat = x.length + (n / 32).toNat + 1 by omega]
    exact this
  · (repeat' (first | exact t_nil | apply t_cons | exact u2_sli | exact u2_int | exact u2_bool | exact u2_ms | exact u2_ptr | exact (rfl : sle2 .s0 .s0)))
  rintro ⟨i, out⟩ hok
  have h1 : 0 ≤ i := ((eok _).1 hok).1
  have h2 : i ≤ x.length := ((eok _).1 hok).2.1
  have inv : ShlInv x out (n / 32).toNat (n % 32).toNat i.toNat := ((eok _).1 hok).2.2
  have hol := inv.len
  have fin : ¬ i < x.length → Lb out ∧ lim (lv out) = r := by
    intro h
    have inv' := inv
    rw [show i.toNat = x.length by omega] at inv'
    refine ⟨inv.lb, ?_⟩
    rw [inv'.stop, ← hr, if_neg (by omega), if_neg (by omega), vx, show 32 * (n / 32).toNat + (n % 32).toNat = n.toNat by omega]
  have ht : lim (lv a * 2 ^ n.toNat) = r := by rw [← hr, if_neg (by omega), if_neg (by omega)]
  clear hok hr ex
  cbv
  repeat' (first
    | (refine E_br hE (fun h => ?_) (fun h => ?_) <;> cbv)
    | (refine E_nm hE (fun v hv => ?_); cbv)
    | (refine E_nilS hE (fun b hb => ?_); cbv)
    | (apply E_callX hE (c_cut _ ?_ ?_); (case hf => rfl); (case hc => (cbv <;> trivial)); (case hle => exact u_up); all_goals (first | (intro t ht; cbv) | ((subst hE; simp only [NatCast.natCast, Int.ofNat_eq_natCast, realE, cmp_eql, cmp_neq, cmp_lss, cmp_leq, cmp_gtr, cmp_geq, intBinR, decide_eq_true_eq, decide_eq_false_iff_not, SI.val, SB.val, Num.eta, Iv.eta] at *; rw [eN] at *; rw [sub_all (by omega)]; first | exact (fin ‹_›).1 | omega))))
    | fail)
  case hK => subst hE; simp only [NatCast.natCast, Int.ofNat_eq_natCast, realE, cmp_eql, cmp_neq, cmp_lss, cmp_leq, cmp_gtr, cmp_geq, intBinR, decide_eq_true_eq, decide_eq_false_iff_not, SI.val, SB.val, Num.eta, Iv.eta] at *; rw [‹t = _›, eN, sub_all (by omega), (fin ‹_›).2]
  all_goals (try refine ⟨(E.bin .add .i64 i 1, _), ?_, ?_, stLe rfl ?_⟩)
  all_goals (try ((repeat' (first | exact t_nil | apply t_cons | exact u2_sli | exact u2_int | exact u2_bool | exact u2_ms | exact u2_ptr | exact (rfl : sle2 .s0 .s0))); done))
  all_goals (subst hE)
  all_goals (try (first | (rw [em, em]; exact (shl_next hx (by omega) n1 n2 h1 (lss_t ‹_›) inv ‹_› el er ‹_› ‹_› rfl).2.2.1) | (rw [eok]; have q := shl_next hx (by omega) n1 n2 h1 (lss_t ‹_›) inv ‹_› el er ‹_› ‹_› rfl; exact ⟨q.1, q.2.1, q.2.2.2⟩)))
  all_goals (clear inv eok em fin ht er el; simp only [NatCast.natCast, Int.ofNat_eq_natCast, realE, cmp_eql, cmp_neq, cmp_lss, cmp_leq, cmp_gtr, cmp_geq, intBinR, decide_eq_true_eq, decide_eq_false_iff_not, SI.val, SB.val, Num.eta, Iv.eta] at *; (try rw [eN] at *); clear eN; (try simp only [wi64] at *); omega)
def shrS (E : Env) (x : List Int) (l r : Int) : Int × List Int → St := fun p => ⟨[(0, .sli .u32 x), (5, .int .i64 (.s l)), (6, .int .i64 (.s r)), (7, .ms 0 1 (.l 0) (.s (E.bin .sub .i64 (E.len x) l))), (33, .int .i64 (.s (E.bin .sub .i64 (E.len x) l))), (34, .int .i64 (.s p.1))], [.ints true .u32 p.2]⟩
set_option maxHeartbeats 1000000 in
theorem c_natShr (a : List Int) (n : Int) (ha : Lb a) (hla : a.length < 67108864) : ∃ t : List Int, t = lim (lv a / 2 ^ n.toNat) ∧ CallsA Tryz.prog 127 [.sli .u32 a, .int .i64 (.s n)] (.sli .u32 t) := by
  refine ⟨_, rfl, ?_⟩
  generalize hr : lim (lv a / 2 ^ n.toNat) = r
  have hlx := lim_length_le' ha
  have hx := lim_lb (lv a)
  have vx := lv_lim (lv a)
  obtain ⟨x, ex⟩ : ∃ x, lim (lv a) = x := ⟨_, rfl⟩
  rw [ex] at hlx hx vx
  obtain ⟨m, em⟩ : ∃ m : Int × List Int → Nat, ∀ p, m p = (x.length - p.1).toNat := ⟨_, fun _ => rfl⟩
  obtain ⟨ok, eok⟩ : ∃ ok : Int × List Int → Prop, ∀ p, ok p ↔ 0 ≤ p.1 ∧ p.1 ≤ (x.length : Int) - n / 32 ∧ ShrInv x p.2 (n / 32).toNat (n % 32).toNat p.1.toNat := ⟨_, fun _ => Iff.rfl⟩
  have eN : ∀ l : Int, 1 ≤ n → n < 32 * x.length → l = intBinR .quo .i64 n 32 → IntKind.i64.wrap ((x.length : Int) - l) = x.length - n / 32 := by
    intro l n1 n2 el
    have : l = n / 32 := by rw [el]; exact quo32 (by omega) (by omega)
    rw [this, wi64_id (by omega) (by omega)]
  have e32 : IntKind.i64.wrap (32 * (x.length : Int)) = 32 * x.length := wi64_id (by omega) (by omega)
  have big : 32 * (x.length : Int) ≤ n → lv a / 2 ^ n.toNat = 0 := by
    intro h
    have h1 := lv_lt hx
    rw [vx] at h1
    apply Nat.div_eq_of_lt
    have h2 : 4294967296 ^ x.length = 2 ^ (32 * x.length) := by rw [Nat.pow_mul]
    have h3 : 2 ^ (32 * x.length) ≤ 2 ^ n.toNat := Nat.pow_le_pow_right (by omega) (by omega)
    omega
  refine callsA_of hG hm Tryz.func127 (by kernel_rfl) ?_
  intro E hE lp hl
  cbv
  (apply E_callX hE (c_cut a ha (by omega)); (case hf => rfl); (case hc => (cbv <;> trivial)); (case hle => exact ⟨u2_sli, trivial⟩); intro x' hx'; cbv)
  rw [hx'.trans ex]
  clear hx' x'
  refine E_br hE (fun h => ?_) (fun h => ?_)
  · have e : x = r := by subst hE; have := lss_t h; rw [← hr, ← ex, show n.toNat = 0 by omega, Nat.pow_zero, Nat.div_one]
    cbv
    repeat' (first
    | (refine E_br hE (fun h => ?_) (fun h => ?_) <;> cbv)
    | (refine E_nm hE (fun v hv => ?_); cbv)
    | (refine E_nilS hE (fun b hb => ?_); cbv)
    | (apply E_callX hE (c_Clone _ ?_); (case hf => rfl); (case hc => (cbv <;> trivial)); (case hle => exact u_up); all_goals (first | (intro t ht; cbv) | (omega)))
    | fail)
    exact ‹_ = x›.trans e
  have n1 : 1 ≤ n := by subst hE; have := lss_f h; omega
  refine E_br hE (fun h => ?_) (fun h => ?_)
  · have e : [] = r := by
      rw [← hr, big (by subst hE; have := geq_t h; simp only [realE, intBinR, NatCast.natCast, Int.ofNat_eq_natCast] at this e32; rw [e32] at this; omega)]; rfl
    cbv
    exact e.symm
  have n2 : n < 32 * x.length := by subst hE; have := geq_f h; simp only [realE, intBinR, NatCast.natCast, Int.ofNat_eq_natCast] at this e32; rw [e32] at this; omega
  cbv
  repeat' (first
    | (refine E_br hE (fun h => ?_) (fun h => ?_) <;> cbv)
    | (refine E_nm hE (fun v hv => ?_); cbv)
    | (refine E_nilS hE (fun b hb => ?_); cbv)
    | fail)
  all_goals (try (exfalso; have := eN _ n1 n2 (by subst hE; assumption); subst hE; simp only [NatCast.natCast, Int.ofNat_eq_natCast, realE, cmp_eql, cmp_neq, cmp_lss, cmp_leq, cmp_gtr, cmp_geq, intBinR, decide_eq_true_eq, decide_eq_false_iff_not, SI.val, SB.val, Num.eta, Iv.eta] at *; rw [this] at *; omega))
  rename_i l el _ _
  replace n2 : n < 32 * (x.length : Int) := n2
  replace eN := eN l n1 n2 (by subst hE; exact el)
  simp only [NatCast.natCast, Int.ofNat_eq_natCast] at eN
  have er := hv
  have l1 : l = n / 32 := by subst hE; rw [el]; exact quo32 (by omega) (by omega)
  have r1 : 0 ≤ v := by
    have : v = n % 32 := by subst hE; rw [hv]; exact rem32 (by omega)
    omega
  clear hv
  refine E_loop hE hG hm hl (shrS E x l v) m ok ⟨(0, E.rep (E.bin .sub .i64 (E.len x) l)), (eok _).2 ?_, stLe rfl ?_⟩ ?_
  · refine ⟨by show (0 : Int) ≤ 0; omega, by show (0 : Int) ≤ x.length - n / 32; omega, ?_⟩
    have := ShrInv.start x (n / 32).toNat (n % 32).toNat
    subst hE; simp only [NatCast.natCast, Int.ofNat_eq_natCast, realE, cmp_eql, cmp_neq, cmp_lss, cmp_leq, cmp_gtr, cmp_geq, intBinR, decide_eq_true_eq, decide_eq_false_iff_not, SI.val, SB.val, Num.eta, Iv.eta] at *; rw [eN, show ((x.length : Int) - n / 32).toNat = x.length - (n / 32).toNat by omega]
    exact this
  · (repeat' (first | exact t_nil | apply t_cons | exact u2_sli | exact u2_int | exact u2_bool | exact u2_ms | exact u2_ptr | exact (rfl : sle2 .s0 .s0)))
  rintro ⟨i, out⟩ hok
  have h1 : 0 ≤ i := ((eok _).1 hok).1
  have h2 : i ≤ x.length - n / 32 := ((eok _).1 hok).2.1
  have inv : ShrInv x out (n / 32).toNat (n % 32).toNat i.toNat := ((eok _).1 hok).2.2
  have hol := inv.len
  have fin : ¬ i < (x.length : Int) - n / 32 → Lb out ∧ lim (lv out) = r := by
    intro h
    have inv' := inv
    rw [show i.toNat = x.length - (n / 32).toNat by omega] at inv'
    refine ⟨inv.lb, ?_⟩
    rw [inv'.stop hx (by omega), ← hr, vx, show 32 * (n / 32).toNat + (n % 32).toNat = n.toNat by omega]
  clear hok hr ex
  cbv
  repeat' (first
    | (refine E_br hE (fun h => ?_) (fun h => ?_) <;> cbv)
    | (refine E_nm hE (fun v hv => ?_); cbv)
    | (refine E_nilS hE (fun b hb => ?_); cbv)
    | (apply E_callX hE (c_cut _ ?_ ?_); (case hf => rfl); (case hc => (cbv <;> trivial)); (case hle => exact u_up); all_goals (first | (intro t ht; cbv) | ((subst hE; simp only [NatCast.natCast, Int.ofNat_eq_natCast, realE, cmp_eql, cmp_neq, cmp_lss, cmp_leq, cmp_gtr, cmp_geq, intBinR, decide_eq_true_eq, decide_eq_false_iff_not, SI.val, SB.val, Num.eta, Iv.eta] at *; rw [eN] at *; rw [sub_all (by omega)]; first | exact (fin ‹_›).1 | omega))))
    | fail)
  case hK => subst hE; simp only [NatCast.natCast, Int.ofNat_eq_natCast, realE, cmp_eql, cmp_neq, cmp_lss, cmp_leq, cmp_gtr, cmp_geq, intBinR, decide_eq_true_eq, decide_eq_false_iff_not, SI.val, SB.val, Num.eta, Iv.eta] at *; rw [‹t = _›, eN, sub_all (by omega), (fin (by rw [← eN]; assumption)).2]
  all_goals (try refine ⟨(E.bin .add .i64 i 1, _), ?_, ?_, stLe rfl ?_⟩)
  all_goals (try ((repeat' (first | exact t_nil | apply t_cons | exact u2_sli | exact u2_int | exact u2_bool | exact u2_ms | exact u2_ptr | exact (rfl : sle2 .s0 .s0))); done))
  all_goals (subst hE)
  all_goals (try (
    have hi : i < IntKind.i64.wrap ((x.length : Int) - l) := lss_t ‹_›
    rw [eN] at hi
    first
      | (rw [em, em]; exact (shr_next hx (by omega) n1 n2 h1 hi inv ‹_› el er ‹_› (by first | exact .inr ‹_› | exact .inl ⟨lss_f ‹_›, rfl⟩) rfl).2.2.1)
      | (rw [eok]; have q := shr_next hx (by omega) n1 n2 h1 hi inv ‹_› el er ‹_› (by first | exact .inr ‹_› | exact .inl ⟨lss_f ‹_›, rfl⟩) rfl; exact ⟨q.1, q.2.1, q.2.2.2⟩)))
  all_goals (clear inv eok em fin er el e32 big; simp only [NatCast.natCast, Int.ofNat_eq_natCast, realE, cmp_eql, cmp_neq, cmp_lss, cmp_leq, cmp_gtr, cmp_geq, intBinR, decide_eq_true_eq, decide_eq_false_iff_not, SI.val, SB.val, Num.eta, Iv.eta] at *; (try rw [eN] at *); clear eN; (try simp only [wi64] at *); omega)

end Go.Proofs.YtoghalnnmhpfmaaGreat.Ev

/- Contracts: how many bits limbs have; a short division. Printed by gen.py. -/
namespace Go.Proofs.YtoghalnnmhpfmaaGreat.Ev
open Go Go.Proofs
set_option linter.unusedVariables false
set_option linter.unusedSimpArgs false


attribute [local irreducible] Lb
theorem c_natLen (a : List Int) (ha : Lb a) (hla : a.length < 67108864) : ∃ t : Int, t = blen (lv a) ∧ CallsA Tryz.prog 125 [.sli .u32 a] (.int .i64 (.s t)) := by
  refine ⟨_, rfl, ?_⟩
  generalize hr : blen (lv a : Int) = r
  have hlx := lim_length_le' ha
  have hx := lim_lb (lv a)
  have vx := lv_lim (lv a)
  have lx := (lim_cn (lv a)).last
  obtain ⟨x, ex⟩ : ∃ x, lim (lv a) = x := ⟨_, rfl⟩
  rw [ex] at hlx hx vx lx
  have k1 : x.length = 0 → r = 0 := by
    intro h
    have : x = [] := List.length_eq_zero_iff.1 h
    rw [this] at vx
    rw [← hr, ← vx]; rfl
  have k2 : ¬ (x.length : Int) = 0 → ∀ t : Int, t = blen (x.getD (intBinR .sub .i64 x.length 1).toNat 0) → r = intBinR .add .i64 (intBinR .mul .i64 32 (intBinR .sub .i64 x.length 1)) t := by
    intro h t ht
    have hne : x ≠ [] := by intro e; rw [e] at h; simp at h
    have := blen_len hx hne (lx hne)
    have e1 : intBinR .sub .i64 x.length 1 = (x.length : Int) - 1 := by show IntKind.i64.wrap _ = _; rw [wi64_id (by omega) (by omega)]
    rw [e1] at ht ⊢
    have e2 : intBinR .mul .i64 32 ((x.length : Int) - 1) = 32 * ((x.length : Int) - 1) := by show IntKind.i64.wrap _ = _; rw [wi64_id (by omega) (by omega)]
    rw [e2, ← hr, ← vx, this]
    rw [show ((x.length : Int) - 1).toNat = x.length - 1 by omega] at ht
    have hg := hx.getD (x.length - 1)
    have b1 := blen_nonneg (x.getD (x.length - 1) 0)
    have b2 := blen_le 32 (x := x.getD (x.length - 1) 0) (by omega)
    rw [ht]
    show _ = IntKind.i64.wrap _
    rw [wi64_id (by omega) (by omega)]
  refine callsA_of hG hm Tryz.func125 (by kernel_rfl) ?_
  intro E hE lp hl
  cbv
  (apply E_callX hE (c_cut a ha (by omega)); (case hf => rfl); (case hc => (cbv <;> trivial)); (case hle => exact ⟨u2_sli, trivial⟩); intro x' hx'; cbv)
  rw [hx'.trans ex]
  clear hx' x'
  repeat' (first
    | (refine E_br hE (fun h => ?_) (fun h => ?_) <;> cbv)
    | (refine E_nm hE (fun v hv => ?_); cbv)
    | (refine E_nilS hE (fun b hb => ?_); cbv)
    | (apply E_callX hE (c_Len32 _ ?_ ?_); (case hf => rfl); (case hc => (cbv <;> trivial)); (case hle => exact u_up); all_goals (first | (intro t ht; cbv) | ((subst hE; first | exact (hx.getD _).1 | exact (hx.getD _).2))))
    | fail)
  all_goals (try (subst hE; first | exact (k1 (by have := eql_t h; simp only [realE] at this; omega)).symm | exact hv.trans (k2 (eql_f ‹_›) t ht).symm))
  all_goals (clear k1 k2 hr; subst hE; simp only [NatCast.natCast, Int.ofNat_eq_natCast, realE, cmp_eql, cmp_neq, cmp_lss, cmp_leq, cmp_gtr, cmp_geq, intBinR, decide_eq_true_eq, decide_eq_false_iff_not, SI.val, SB.val, Num.eta, Iv.eta] at *; (try simp only [wi64] at *); omega)

theorem short_next {a q : List Int} {d i k left j : Int} (ha : Lb a) (hla : a.length < 67108864) (hd : d < 4294967296) (h1 : 0 ≤ i) (h2 : i < a.length)
    (inv : ShortInv a q d (a.length - i.toNat) left) {i' : Int} (ei : i' = i) (ek : k = intBinR .sub .i64 (intBinR .sub .i64 a.length 1) i') (ej : j = intBinR .add .i64 i 1) {t : Int × Int}
    (et : t = ((left * 4294967296 + a.getD k.toNat 0) / d, (left * 4294967296 + a.getD k.toNat 0) % d)) {t2 : Int} (e2 : t2 = t.2) :
    0 ≤ j ∧ j ≤ a.length ∧ ((a.length : Int) - j).toNat < ((a.length : Int) - i).toNat ∧ ShortInv a (q.set k.toNat t.1) d (a.length - j.toNat) t2 := by
  subst ei
  have ej' : j = i' + 1 := by rw [ej]; show IntKind.i64.wrap (i' + 1) = _; rw [wi64_id (by omega) (by omega)]
  have ek' : k = a.length - 1 - i' := by
    rw [ek]; show IntKind.i64.wrap (IntKind.i64.wrap ((a.length : Int) - 1) - i') = _
    rw [wi64_id (n := (a.length : Int) - 1) (by omega) (by omega), wi64_id (by omega) (by omega)]
  rw [show a.length - i'.toNat = k.toNat + 1 by omega] at inv
  have st := inv.step ha hd (by omega)
  rw [e2, et, show a.length - j.toNat = k.toNat by omega]
  exact ⟨by omega, by omega, by omega, st⟩

def shortS (E : Env) (a : List Int) (d : Int) : Int × Int × List Int → St := fun p => ⟨[(0, .sli .u32 a), (1, .int .u32 (.s d)), (4, .ms 0 1 (.l 0) (.s (E.len a))), (6, .int .u32 (.s p.2.1)), (13, .int .i64 (.s (E.len a))), (14, .int .i64 (.s p.1))], [.ints true .u32 p.2.2]⟩
set_option maxHeartbeats 1000000 in
theorem c_short (a : List Int) (d : Int) (ha : Lb a) (hla : a.length < 67108864) (hd0 : 0 < d) (hd : d < 4294967296) : ∃ t : List Int × List Int, t = (lim (lv a / d.toNat), lim (lv a % d.toNat)) ∧ CallsA Tryz.prog 149 [.sli .u32 a, .int .u32 (.s d)] (.tup [.sli .u32 t.1, .sli .u32 t.2]) := by
  refine ⟨_, rfl, ?_⟩
  generalize hr : (lim (lv a / d.toNat), lim (lv a % d.toNat)) = r
  obtain ⟨m, em⟩ : ∃ m : Int × Int × List Int → Nat, ∀ p, m p = (a.length - p.1).toNat := ⟨_, fun _ => rfl⟩
  obtain ⟨ok, eok⟩ : ∃ ok : Int × Int × List Int → Prop, ∀ p, ok p ↔ 0 ≤ p.1 ∧ p.1 ≤ a.length ∧ ShortInv a p.2.2 d (a.length - p.1.toNat) p.2.1 := ⟨_, fun _ => Iff.rfl⟩
  refine callsA_of hG hm Tryz.func149 (by kernel_rfl) ?_
  intro E hE lp hl
  cbv
  repeat' (first
    | (refine E_br hE (fun h => ?_) (fun h => ?_) <;> cbv)
    | (refine E_nm hE (fun v hv => ?_); cbv)
    | (refine E_nilS hE (fun b hb => ?_); cbv)
    | fail)
  all_goals (try (exfalso; subst hE; simp only [NatCast.natCast, Int.ofNat_eq_natCast, realE, cmp_eql, cmp_neq, cmp_lss, cmp_leq, cmp_gtr, cmp_geq, intBinR, decide_eq_true_eq, decide_eq_false_iff_not, SI.val, SB.val, Num.eta, Iv.eta] at *; omega))
  refine E_loop hE hG hm hl (shortS E a d) m ok ⟨(0, 0, E.rep (E.len a)), (eok _).2 ?_, stLe rfl ?_⟩ ?_
  · refine ⟨by show (0 : Int) ≤ 0; omega, by show (0 : Int) ≤ a.length; omega, ?_⟩
    have := ShortInv.start a hd0
    subst hE; simp only [NatCast.natCast, Int.ofNat_eq_natCast, realE, cmp_eql, cmp_neq, cmp_lss, cmp_leq, cmp_gtr, cmp_geq, intBinR, decide_eq_true_eq, decide_eq_false_iff_not, SI.val, SB.val, Num.eta, Iv.eta] at *
    exact this
  · (repeat' (first | exact t_nil | apply t_cons | exact u2_sli | exact u2_int | exact u2_bool | exact u2_ms | exact u2_ptr | exact (rfl : sle2 .s0 .s0)))
  rintro ⟨i, left, q⟩ hok
  have h1 : 0 ≤ i := ((eok _).1 hok).1
  have h2 : i ≤ a.length := ((eok _).1 hok).2.1
  have inv : ShortInv a q d (a.length - i.toNat) left := ((eok _).1 hok).2.2
  have hol := inv.len
  have l0 := inv.l0
  have l1 := inv.l1
  have lq : Lb q := inv.lb
  have ll : Lb [left] := Lb.cons l0 (by omega) Lb.nil
  have fin : ¬ i < a.length → (lim (lv q), lim (lv [left])) = r := by
    intro h
    rw [show a.length - i.toNat = 0 by omega] at inv
    obtain ⟨f1, f2⟩ := inv.stop
    rw [← hr, f1]
    congr 2
    simp only [lv]
    omega
  clear hok hr
  cbv
  repeat' (first
    | (refine E_br hE (fun h => ?_) (fun h => ?_) <;> cbv)
    | (refine E_nm hE (fun v hv => ?_); cbv)
    | (refine E_nilS hE (fun b hb => ?_); cbv)
    | (apply E_callX hE (c_Div32 _ _ _ ?_ ?_ ?_ ?_ ?_ ?_ ?_); (case hf => rfl); (case hc => (cbv <;> trivial)); (case hle => exact u_up); all_goals (first | (intro t ht; cbv) | (((try simp only [SI.val]); first | omega | (subst hE; first | exact (ha.getD _).1 | exact (ha.getD _).2)))))
    | (apply E_callX hE (c_cut _ ?_ ?_); (case hf => rfl); (case hc => (cbv <;> trivial)); (case hle => exact u_up); all_goals (first | (intro t ht; cbv) | ((subst hE; first | exact ll | (simp only [NatCast.natCast, Int.ofNat_eq_natCast, realE, cmp_eql, cmp_neq, cmp_lss, cmp_leq, cmp_gtr, cmp_geq, intBinR, decide_eq_true_eq, decide_eq_false_iff_not, SI.val, SB.val, Num.eta, Iv.eta] at *; (try rw [sub_all (by omega)]); first | assumption | omega | (simp; done))))))
    | fail)
  all_goals (try refine ⟨(E.bin .add .i64 i 1, v, E.set q _ t.1), ?_, ?_, stLe rfl ?_⟩)
  all_goals (try ((repeat' (first | exact t_nil | apply t_cons | exact u2_sli | exact u2_int | exact u2_bool | exact u2_ms | exact u2_ptr | exact (rfl : sle2 .s0 .s0))); done))
  all_goals (subst hE)
  all_goals (try (first | (rw [em, em]; exact (short_next ha hla hd h1 (lss_t ‹_›) inv ‹_ = i› ‹_› rfl ‹t = _› ‹_›).2.2.1) | (rw [eok]; have q := short_next ha hla hd h1 (lss_t ‹_›) inv ‹_ = i› ‹_› rfl ‹t = _› ‹_›; exact ⟨q.1, q.2.1, q.2.2.2⟩)))
  case refine_1.refine_1.refine_1.refine_3.refine_2.hK.hK => have f := fin (lss_f ‹_›); rename_i q' hq'; rw [← f]; simp only [NatCast.natCast, Int.ofNat_eq_natCast, realE, cmp_eql, cmp_neq, cmp_lss, cmp_leq, cmp_gtr, cmp_geq, intBinR, decide_eq_true_eq, decide_eq_false_iff_not, SI.val, SB.val, Num.eta, Iv.eta] at *; refine ⟨?_, ‹_ = _›, trivial⟩; rw [hq', sub_all (by omega)]
  all_goals (clear inv eok em fin; simp only [NatCast.natCast, Int.ofNat_eq_natCast, realE, cmp_eql, cmp_neq, cmp_lss, cmp_leq, cmp_gtr, cmp_geq, intBinR, decide_eq_true_eq, decide_eq_false_iff_not, SI.val, SB.val, Num.eta, Iv.eta] at *; (try simp only [wi64] at *); omega)

end Go.Proofs.YtoghalnnmhpfmaaGreat.Ev

/- Contracts: the guess of a limb of a quotient. Printed by gen.py. -/
namespace Go.Proofs.YtoghalnnmhpfmaaGreat.Ev
open Go Go.Proofs
set_option linter.unusedVariables false
set_option linter.unusedSimpArgs false


def guessS (r2 r1 r0 d1 d0 t : Int) : Int × Int → St := fun p => ⟨[(0, .int .u32 (.s r2)), (1, .int .u32 (.s r1)), (2, .int .u32 (.s r0)), (3, .int .u32 (.s d1)), (4, .int .u32 (.s d0)), (11, .int .u64 (.s t)), (12, .int .u64 (.s p.1)), (13, .int .u64 (.s p.2))], []⟩
theorem c_guess (r2 r1 r0 d1 d0 : Int) (I : GuessIn r2 r1 r0 d1 d0) : ∃ t : Int, t = guessQ r2 r1 r0 d1 d0 ∧ CallsA Tryz.prog 151 [.int .u32 (.s r2), .int .u32 (.s r1), .int .u32 (.s r0), .int .u32 (.s d1), .int .u32 (.s d0)] (.int .u32 (.s t)) := by
  refine ⟨_, rfl, ?_⟩
  generalize hr : guessQ r2 r1 r0 d1 d0 = r
  obtain ⟨m, em⟩ : ∃ m : Int × Int → Nat, ∀ p, m p = p.1.toNat := ⟨_, fun _ => rfl⟩
  obtain ⟨ok, eok⟩ : ∃ ok : Int × Int → Prop, ∀ p, ok p ↔ GuessInv r2 r1 r0 d1 d0 p.1 p.2 := ⟨_, fun _ => Iff.rfl⟩
  have hd := I.d1b
  refine callsA_of hG hm Tryz.func151 (by kernel_rfl) ?_
  intro E hE lp hl
  cbv
  repeat' (first
    | (refine E_br hE (fun h => ?_) (fun h => ?_) <;> cbv)
    | (refine E_nm hE (fun v hv => ?_); cbv)
    | (refine E_nilS hE (fun b hb => ?_); cbv)
    | fail)
  · subst hE; have h' : IntKind.u64.wrap d1 = 0 := eql_t h; rw [wu64_id (by omega) (by omega)] at h'; omega
  · subst hE; have h' : IntKind.u64.wrap d1 = 0 := eql_t h; rw [wu64_id (by omega) (by omega)] at h'; omega
  rename_i t et _ q eq
  refine E_loop hE hG hm hl (guessS r2 r1 r0 d1 d0 t) m ok ⟨(q, v), (eok _).2 ?_, stLe rfl ?_⟩ ?_
  · subst hE; exact guess_start I et eq hv
  · (repeat' (first | exact t_nil | apply t_cons | exact u2_sli | exact u2_int | exact u2_bool | exact u2_ms | exact u2_ptr | exact (rfl : sle2 .s0 .s0)))
  clear eq hv et
  rintro ⟨q, left⟩ hok
  have inv : GuessInv r2 r1 r0 d1 d0 q left := (eok _).1 hok
  clear hok
  cbv
  repeat' (first
    | (refine E_br hE (fun h => ?_) (fun h => ?_) <;> cbv)
    | (refine E_nm hE (fun v hv => ?_); cbv)
    | (refine E_nilS hE (fun b hb => ?_); cbv)
    | fail)
  all_goals (try (rename_i q' eq'; refine ⟨(q', v), ?_, ?_, stLe rfl ?_⟩))
  all_goals (try ((repeat' (first | exact t_nil | apply t_cons | exact u2_sli | exact u2_int | exact u2_bool | exact u2_ms | exact u2_ptr | exact (rfl : sle2 .s0 .s0))); done))
  all_goals (subst hE)
  all_goals (first
    | (rw [em, em]; exact (guess_step I inv (by first | exact .inl (gtr_t ‹_›) | exact .inr ⟨gtr_f ‹_›, gtr_t ‹_›⟩) ‹_› ‹_› (gtr_f ‹_›)).1)
    | (rw [eok]; exact (guess_step I inv (by first | exact .inl (gtr_t ‹_›) | exact .inr ⟨gtr_f ‹_›, gtr_t ‹_›⟩) ‹_› ‹_› (gtr_f ‹_›)).2)
    | (rw [← hr, hv]; exact guess_brk I inv (by first | exact .inl (gtr_t ‹_›) | exact .inr ⟨gtr_f ‹_›, gtr_t ‹_›⟩) ‹_› ‹_› (gtr_t ‹_›))
    | (rw [← hr, hv]; exact guess_done I inv (gtr_f ‹_›) (gtr_f ‹_›)))

end Go.Proofs.YtoghalnnmhpfmaaGreat.Ev

/- The steps of a long division, as the words of the program reckon them. -/
namespace Go.Proofs.YtoghalnnmhpfmaaGreat.Ev
open Go

theorem less_next {r0 d r : List Int} {q at_ i carry borrow : Int} (hd : Lb d) (hq : 0 ≤ q ∧ q < 4294967296) (hlr : r0.length < 134217728) (h1 : 0 ≤ i) (h2 : i < d.length) (ha : 0 ≤ at_) (hat : at_ + d.length < r0.length)
    (inv : LessInv r0 d q at_.toNat r i.toNat carry borrow) {i' y v b' j : Int} {t : Int × Int} (ei : i' = i) (ey : y = d.getD i.toNat 0)
    (ev : v = intBinR .add .u64 (intBinR .mul .u64 (IntKind.u64.wrap y) (IntKind.u64.wrap q)) carry)
    (et : t = ((r.getD (intBinR .add .i64 at_ i').toNat 0 - IntKind.u32.wrap v - borrow) % 4294967296, if r.getD (intBinR .add .i64 at_ i').toNat 0 < IntKind.u32.wrap v + borrow then 1 else 0))
    (eb : b' = t.2) (ej : j = intBinR .add .i64 i 1) {c' : Int} (ec : c' = intBinR .shr .u64 v 32) :
    0 ≤ j ∧ j ≤ d.length ∧ ((d.length : Int) - j).toNat < ((d.length : Int) - i).toNat ∧ LessInv r0 d q at_.toNat (r.set (intBinR .add .i64 at_ i').toNat t.1) j.toNat c' b' := by
  have hy := hd.getD i.toNat
  subst ei
  have st := inv.step hd hq (by omega)
  rw [← ey] at st hy
  have c0 := inv.c0
  have c1 := inv.c1
  have e := less_digit hy hq ⟨c0, c1⟩
  have eai : (intBinR .add .i64 at_ i').toNat = at_.toNat + i'.toNat := by
    show (IntKind.i64.wrap (at_ + i')).toNat = _
    rw [wi64_id (by omega) (by omega)]; omega
  have ej' : j = i' + 1 := by rw [ej]; show IntKind.i64.wrap (i' + 1) = _; rw [wi64_id (by omega) (by omega)]
  have ev' : v = y * q + carry := by
    rw [ev, wu64_id hy.1 (by omega), wu64_id hq.1 (by omega)]
    have : intBinR .mul .u64 y q = y * q := wu64_id e.1 (by omega)
    rw [this]
    exact wu64_id (by omega) (by omega)
  have ec' : c' = v / 4294967296 := by rw [ec]; exact shr32 v
  rw [eai] at et ⊢
  rw [wu32, ev'] at et
  rw [eb, et, ec', ev', ej', show (i' + 1).toNat = i'.toNat + 1 by omega]
  exact ⟨by omega, by omega, by omega, st⟩

/-- what a guess times the divisor taken away leaves -/
structure LessR (r0 d : List Int) (q : Int) (at_ : Nat) (r : List Int) (b : Bool) : Prop where
  len : r.length = r0.length
  lb : Lb r
  same : ∀ j, at_ + d.length + 1 ≤ j → r.getD j 0 = r0.getD j 0
  val : lv r + 4294967296 ^ at_ * (q.toNat * lv d) = lv r0 + (if b then 4294967296 ^ (at_ + d.length + 1) else 0)

theorem less_stop {r0 d r : List Int} {q at_ i carry borrow : Int} (hlr : r0.length < 134217728) (h2 : i ≤ d.length) (h3 : ¬ i < d.length) (ha : 0 ≤ at_) (hat : at_ + d.length < r0.length)
    (inv : LessInv r0 d q at_.toNat r i.toNat carry borrow) {b' : Int} {b : Bool} {t : Int × Int}
    (et : t = ((r.getD (intBinR .add .i64 at_ d.length).toNat 0 - IntKind.u32.wrap carry - borrow) % 4294967296, if r.getD (intBinR .add .i64 at_ d.length).toNat 0 < IntKind.u32.wrap carry + borrow then 1 else 0))
    (eb : b' = t.2) (e : b = cmpR .neq b' 0) : LessR r0 d q at_.toNat (r.set (intBinR .add .i64 at_ d.length).toNat t.1) b := by
  have c0 := inv.c0
  have c1 := inv.c1
  rw [show i.toNat = d.length by omega] at inv
  obtain ⟨k1, k2, k3, k4⟩ := inv.stop (by omega)
  have eai : (intBinR .add .i64 at_ d.length).toNat = at_.toNat + d.length := by
    show (IntKind.i64.wrap (at_ + d.length)).toNat = _
    rw [wi64_id (by omega) (by omega)]; omega
  rw [eai] at et ⊢
  rw [wu32, Int.emod_eq_of_lt c0 c1] at et
  have e1 : t.1 = (r.getD (at_.toNat + d.length) 0 - carry - borrow) % 4294967296 := by rw [et]
  have e2 : b' = if r.getD (at_.toNat + d.length) 0 < carry + borrow then 1 else 0 := by rw [eb, et]
  rw [e1]
  refine ⟨k1, k2, k3, ?_⟩
  rw [k4]
  congr 1
  rw [e, e2]
  split
  · simp [cmpR]
  · simp [cmpR]

theorem more_next {r0 d r : List Int} {at_ i c : Int} (hd : Lb d) (hlr : r0.length < 134217728) (h1 : 0 ≤ i) (h2 : i < d.length) (ha : 0 ≤ at_) (hat : at_ + d.length < r0.length)
    (inv : MoreInv r0 d at_.toNat r i.toNat c) {i' y c' j : Int} {t : Int × Int} (ei : i' = i) (ey : y = d.getD i.toNat 0)
    (et : t = ((r.getD (intBinR .add .i64 at_ i').toNat 0 + y + c) % 4294967296, (r.getD (intBinR .add .i64 at_ i').toNat 0 + y + c) / 4294967296))
    (ec : c' = t.2) (ej : j = intBinR .add .i64 i 1) :
    0 ≤ j ∧ j ≤ d.length ∧ ((d.length : Int) - j).toNat < ((d.length : Int) - i).toNat ∧ MoreInv r0 d at_.toNat (r.set (intBinR .add .i64 at_ i').toNat t.1) j.toNat c' := by
  subst ei
  have st := inv.step hd (by omega)
  rw [← ey] at st
  have eai : (intBinR .add .i64 at_ i').toNat = at_.toNat + i'.toNat := by
    show (IntKind.i64.wrap (at_ + i')).toNat = _
    rw [wi64_id (by omega) (by omega)]; omega
  have ej' : j = i' + 1 := by rw [ej]; show IntKind.i64.wrap (i' + 1) = _; rw [wi64_id (by omega) (by omega)]
  rw [eai] at et ⊢
  rw [ec, et, ej', show (i' + 1).toNat = i'.toNat + 1 by omega]
  exact ⟨by omega, by omega, by omega, st⟩

structure MoreR (r0 d : List Int) (at_ : Nat) (r : List Int) : Prop where
  len : r.length = r0.length
  lb : Lb r
  same : ∀ j, at_ + d.length + 1 ≤ j → r.getD j 0 = r0.getD j 0
  val : ∃ c : Int, 0 ≤ c ∧ c ≤ 1 ∧ lv r + 4294967296 ^ (at_ + d.length + 1) * c.toNat = lv r0 + 4294967296 ^ at_ * lv d

theorem more_stop {r0 d r : List Int} {at_ i c : Int} (hlr : r0.length < 134217728) (h2 : i ≤ d.length) (h3 : ¬ i < d.length) (ha : 0 ≤ at_) (hat : at_ + d.length < r0.length)
    (inv : MoreInv r0 d at_.toNat r i.toNat c) {v : Int} (ev : v = intBinR .add .u32 (r.getD (intBinR .add .i64 at_ d.length).toNat 0) c) : MoreR r0 d at_.toNat (r.set (intBinR .add .i64 at_ d.length).toNat v) := by
  have c0 := inv.c0
  have c1 := inv.c1
  rw [show i.toNat = d.length by omega] at inv
  have hx := inv.lb.getD (at_.toNat + d.length)
  obtain ⟨k1, k2, k3, k4⟩ := inv.stop (by omega)
  have eai : (intBinR .add .i64 at_ d.length).toNat = at_.toNat + d.length := by
    show (IntKind.i64.wrap (at_ + d.length)).toNat = _
    rw [wi64_id (by omega) (by omega)]; omega
  rw [eai] at ev ⊢
  have ev' : v = (r.getD (at_.toNat + d.length) 0 + c) % 4294967296 := by rw [ev]; exact wu32 _
  rw [ev']
  exact ⟨k1, k2, k3, _, by omega, by omega, k4⟩
end Go.Proofs.YtoghalnnmhpfmaaGreat.Ev

/- Calls that write the caller's memory, or hand back memory that they have made: contracts of them. -/
namespace Go.Proofs.YtoghalnnmhpfmaaGreat.Ev
open Go Go.RowKit
set_option linter.unusedVariables false
set_option linter.unusedSimpArgs false
variable {P : Program} {G : Nat → TI}

/-- A result and the memory behind the call, told under other names; the first n0 blocks keep theirs. -/
def ResLe (n0 : Nat) (ρ : List Nat) (v : AV) (h : List Blk) (r : AV) (h' : List Blk) : Prop :=
  blksM ρ h ρ h' ∧ apartN ρ h' [] = true ∧ idPre ρ n0 = true ∧ n0 ≤ lenB h' ∧ blksIn (lenB h') h' ∧ AVle v (rn3 ρ r) ∧ in3 (lenB h') r = true

theorem callsH_named {f : FuncId} {args : List AV} {h : List Blk} {K K' : AV → List Blk → Prop} (hC : CallsH P f args h K')
    (hK : ∀ v h1, K' v h1 → ∃ ρ r h2, ResLe (lenB h) ρ v h1 r h2 ∧ K r h2) : CallsH P f args h K := by
  intro base O0 μ w vals H hl ha
  refine (hC base O0 μ w vals H hl ha).mono ?_
  rintro e w' ⟨val, v, h1, μ1, rfl, hk, hv, H1, X1, hB⟩
  obtain ⟨ρ, r, h2, ⟨q1, q2, q3, q4, q5, q6, q7⟩, hr⟩ := hK v h1 hk
  have hlen := blksM_len q1
  have N : Named ρ h1 h2 := by
    refine ⟨hlen, fun b x hb hx => ?_, (apartN_at q2 hlen).2, q5⟩
    have := blksM_at q1 hb hx
    exact getBlk_some this (rnB_dead hx)
  refine ⟨val, r, h2, fun b => μ1 (nth0 ρ b), rfl, hr, rel_named N (q6 _ _ hv) q7, H1.named N, ?_, hB⟩
  rw [lenB_eq] at q3
  rw [lenB_eq, lenB_eq] at q4
  refine ⟨fun n hn => N.ok (X1.o n hn), fun b hb => ?_, by simp only [mkX]; omega, fun b hb n hn => ?_, X1.cell, X1.shape⟩
  · have := idPre_at q3 b (by simpa only [mkX] using hb)
    show μ1 (nth0 ρ b) = _
    rw [this]
    exact X1.mu b hb
  · have := idPre_at q3 b (by simpa only [mkX] using hb)
    have hd := N.dim hn
    rw [this] at hd
    exact X1.dim b hb n hd

theorem callsH_mono {f : FuncId} {args : List AV} {h : List Blk} {K K' : AV → List Blk → Prop} (hC : CallsH P f args h K') (hK : ∀ v h1, K' v h1 → K v h1) : CallsH P f args h K := by
  intro base O0 μ w vals H hl ha
  refine (hC base O0 μ w vals H hl ha).mono ?_
  rintro e w' ⟨val, v, h1, μ1, rfl, hk, hr⟩
  exact ⟨val, v, h1, μ1, rfl, hK v h1 hk, hr⟩

/-- A contract of a call over memory, out of a run. -/
theorem callsH_of (hG : GOK P G) (hm : P.follows .mixedOrders = true) {f : FuncId} {fn : Func} (hf : P.funcs[f]? = some fn) {args : List AV} (ho : fnOK fn args.length = true)
    {h : List Blk} {K : AV → List Blk → Prop} (hv : ∀ E, E = realE P → ∀ lp, Loops P fn.ntmps lp → evF E G lp fn args h K) : CallsH P f args h K :=
  E_in rfl hG hm hf ho (fz := none) (fun lp hl => hv _ rfl lp hl)

theorem E_callH {E : Env} (hE : E = realE P) {f : FuncId} {args : List AV} {h : List Blk} {K K' : AV → List Blk → Prop} {fz : Option (List AV × List Blk)} (hC : CallsH P f args h K') (hK : ∀ v h1, K' v h1 → K v h1) : E.call f args h fz K := by
  subst hE; exact callsH_mono hC hK
end Go.Proofs.YtoghalnnmhpfmaaGreat.Ev
