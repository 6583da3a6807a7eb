/- Words of 64 bits: plain Lean. -/
import Derived.Test.YtincnfjihffllaaEv21
import Derived.Laws.Bits64
import Derived.Laws.BitsLemmas
namespace Go.Proofs.Ytincnfjihffllaa.Ev
open Go

theorem wu8 (n : Int) : IntKind.u8.wrap n = n % 256 := IntKind.wrap_u8 n
theorem wu32 (n : Int) : IntKind.u32.wrap n = n % 4294967296 := IntKind.wrap_u32 n
theorem wu64 (n : Int) : IntKind.u64.wrap n = n % 18446744073709551616 := IntKind.wrap_u64 n
theorem wi64 (n : Int) : IntKind.i64.wrap n = (n + 9223372036854775808) % 18446744073709551616 - 9223372036854775808 := IntKind.wrap_i64 n

theorem fdiv_pos (n : Int) (d : Nat) : n.fdiv (d : Int) = n / (d : Int) := Int.fdiv_eq_ediv_of_nonneg n (Int.natCast_nonneg d)
theorem shr_lit {n d : Int} (h : 0 ≤ d) : n.fdiv d = n / d := Int.fdiv_eq_ediv_of_nonneg n h

theorem ofInt_toNat (x : Int) : ((BitVec.ofInt 64 x).toNat : Int) = x % 18446744073709551616 := by
  rw [BitVec.toNat_ofInt]
  omega

theorem and_low (x : Int) (k : Nat) (hk : k ≤ 64) : ((BitVec.ofInt 64 x &&& BitVec.ofInt 64 (2 ^ k - 1 : Int)).toNat : Int) = x % 2 ^ k := by
  rw [BitVec.toNat_and]
  have h2 : (BitVec.ofInt 64 (2 ^ k - 1 : Int)).toNat = 2 ^ k - 1 := by
    have h1 : ((BitVec.ofInt 64 (2 ^ k - 1 : Int)).toNat : Int) = ((2 ^ k - 1 : Nat) : Int) := by
      rw [ofInt_toNat]
      have e : (2 ^ k - 1 : Int) = ((2 ^ k - 1 : Nat) : Int) := by
        have : 1 ≤ 2 ^ k := Nat.one_le_two_pow
        push_cast [Int.ofNat_sub this]
        rfl
      rw [e]
      have : (2 : Nat) ^ k ≤ 2 ^ 64 := Nat.pow_le_pow_right (by omega) hk
      omega
    omega
  rw [h2, Nat.and_two_pow_sub_one_eq_mod]
  have h3 := ofInt_toNat x
  have hd : (2 ^ k : Int) ∣ 18446744073709551616 := ⟨2 ^ (64 - k), by
    rw [← Int.pow_add]
    rw [show k + (64 - k) = 64 by omega]
    rfl⟩
  push_cast
  rw [h3]
  exact Int.emod_emod_of_dvd x hd

theorem and_32 (x : Int) : IntKind.u64.wrap ((BitVec.ofInt 64 x &&& BitVec.ofInt 64 4294967295).toNat : Int) = x % 4294967296 := by
  have := and_low x 32 (by omega)
  rw [show (2 ^ 32 - 1 : Int) = 4294967295 by decide, show (2 ^ 32 : Int) = 4294967296 by decide] at this
  rw [this, wu64]
  omega

theorem and_32' (x : Int) : IntKind.u64.wrap ((BitVec.ofInt IntKind.u64.bits x &&& BitVec.ofInt IntKind.u64.bits 4294967295).toNat : Int) = x % 4294967296 := and_32 x

theorem shr1 (x : Int) : x.fdiv (2 ^ min (Int.toNat 1) IntKind.u64.bits) = x / 2 := shr_lit (by decide)
theorem shr8 (x : Int) : x.fdiv (2 ^ min (Int.toNat 8) IntKind.u64.bits) = x / 256 := shr_lit (by decide)
theorem shr16 (x : Int) : x.fdiv (2 ^ min (Int.toNat 16) IntKind.u64.bits) = x / 65536 := shr_lit (by decide)
theorem shr32 (x : Int) : x.fdiv (2 ^ min (Int.toNat 32) IntKind.u64.bits) = x / 4294967296 := shr_lit (by decide)
theorem shr63 (x : Int) : x.fdiv (2 ^ min (Int.toNat 63) IntKind.u64.bits) = x / 9223372036854775808 := shr_lit (by decide)
theorem shl1 : (2 : Int) ^ min (Int.toNat 1) IntKind.u64.bits = 2 := by decide
theorem shl63 : (2 : Int) ^ min (Int.toNat 63) IntKind.u64.bits = 9223372036854775808 := by decide
theorem shl32 : (2 : Int) ^ min (Int.toNat 32) IntKind.u64.bits = 4294967296 := by decide

/-- the product of two words -/
theorem mul64 {x y : Int} (hx : 0 ≤ x) (hx' : x < 18446744073709551616) (hy : 0 ≤ y) (hy' : y < 18446744073709551616) {x0 x1 y0 y1 w0 t w1 w2 w1' hi : Int}
    (h1 : x0 = x % 4294967296) (h2 : x1 = x / 4294967296) (h3 : y0 = y % 4294967296) (h4 : y1 = y / 4294967296) (h5 : w0 = x0 * y0 % 18446744073709551616)
    (h6 : t = (x1 * y0 % 18446744073709551616 + w0 / 4294967296) % 18446744073709551616) (h7 : w1 = t % 4294967296) (h8 : w2 = t / 4294967296)
    (h9 : w1' = (w1 + x0 * y1 % 18446744073709551616) % 18446744073709551616)
    (h10 : hi = ((x1 * y1 % 18446744073709551616 + w2) % 18446744073709551616 + w1' / 4294967296) % 18446744073709551616) : hi = x * y / 18446744073709551616 := by
  have b : ∀ {a b : Int}, 0 ≤ a → a < 4294967296 → 0 ≤ b → b < 4294967296 → 0 ≤ a * b ∧ a * b ≤ 18446744065119617025 := by
    intro a b ha ha' hb hb'
    refine ⟨Int.mul_nonneg ha hb, ?_⟩
    have := Int.mul_le_mul (show a ≤ 4294967295 by omega) (show b ≤ 4294967295 by omega) hb (by omega)
    omega
  have e00 := b (a := x0) (b := y0) (by omega) (by omega) (by omega) (by omega)
  have e10 := b (a := x1) (b := y0) (by omega) (by omega) (by omega) (by omega)
  have e01 := b (a := x0) (b := y1) (by omega) (by omega) (by omega) (by omega)
  have e11 := b (a := x1) (b := y1) (by omega) (by omega) (by omega) (by omega)
  have ex : x = x1 * 4294967296 + x0 := by omega
  have ey : y = y1 * 4294967296 + y0 := by omega
  have exy : x * y = x1 * y1 * 18446744073709551616 + (x1 * y0 + x0 * y1) * 4294967296 + x0 * y0 := by
    rw [ex, ey]
    grind
  rw [exy]
  generalize x0 * y0 = p00 at *
  generalize x1 * y0 = p10 at *
  generalize x0 * y1 = p01 at *
  generalize x1 * y1 = p11 at *
  clear exy ex ey h1 h2 h3 h4
  omega

/-! ### how long a word is -/
def blen (x : Int) : Int := if x ≤ 0 then 0 else (Nat.log2 x.toNat : Int) + 1

theorem blen_iff {x : Int} (hx : 0 < x) (n : Nat) : blen x = (n : Int) + 1 ↔ (2 : Int) ^ n ≤ x ∧ x < 2 ^ (n + 1) := by
  unfold blen
  rw [if_neg (by omega)]
  have h := Nat.log2_eq_iff (n := x.toNat) (k := n) (by omega)
  have e1 : ((2 ^ n : Nat) : Int) = (2 : Int) ^ n := by push_cast; rfl
  have e2 : ((2 ^ (n + 1) : Nat) : Int) = (2 : Int) ^ (n + 1) := by push_cast; rfl
  rw [← e1, ← e2]
  constructor
  · intro h1
    have := h.1 (by omega)
    omega
  · rintro ⟨h1, h2⟩
    have := h.2 ⟨by omega, by omega⟩
    omega

theorem blen_pos {x : Int} (hx : 0 < x) : ∃ n : Nat, blen x = (n : Int) + 1 ∧ (2 : Int) ^ n ≤ x ∧ x < 2 ^ (n + 1) := by
  refine ⟨Nat.log2 x.toNat, ?_, ?_⟩
  · unfold blen; rw [if_neg (by omega)]
  · exact (blen_iff hx _).1 (by unfold blen; rw [if_neg (by omega)])

theorem blen_zero : blen 0 = 0 := rfl

theorem blen_div {x : Int} (k : Nat) (h : (2 : Int) ^ k ≤ x) : blen (x / 2 ^ k) = blen x - k := by
  have hk : (0 : Int) < 2 ^ k := Int.pow_pos (by omega)
  obtain ⟨n, h1, h2, h3⟩ := blen_pos (x := x) (by omega)
  have hkn : k ≤ n := by
    rcases Nat.lt_or_ge n k with h4 | h4
    · exfalso
      have : (2 : Int) ^ (n + 1) ≤ 2 ^ k := by
        have := Nat.pow_le_pow_right (n := 2) (by omega) h4
        exact_mod_cast this
      omega
    · exact h4
  have hq : 0 < x / 2 ^ k := by
    have := Int.le_ediv_of_mul_le hk (show 1 * 2 ^ k ≤ x by omega)
    omega
  have : blen (x / 2 ^ k) = ((n - k : Nat) : Int) + 1 := by
    rw [blen_iff hq]
    have e1 : (2 : Int) ^ n = 2 ^ (n - k) * 2 ^ k := by rw [← Int.pow_add]; congr 1; omega
    have e2 : (2 : Int) ^ (n + 1) = 2 ^ (n - k + 1) * 2 ^ k := by rw [← Int.pow_add]; congr 1; omega
    constructor
    · exact (Int.le_ediv_iff_mul_le hk).2 (by rw [← e1]; exact h2)
    · exact (Int.ediv_lt_iff_lt_mul hk).2 (by rw [← e2]; exact h3)
  omega

theorem blen_le {x : Int} (k : Nat) (h : x < 2 ^ k) : blen x ≤ k := by
  by_cases hx : x ≤ 0
  · unfold blen; rw [if_pos hx]; omega
  · obtain ⟨n, h1, h2, h3⟩ := blen_pos (x := x) (by omega)
    have : n < k := by
      rcases Nat.lt_or_ge n k with h4 | h4
      · exact h4
      · exfalso
        have : (2 : Int) ^ k ≤ 2 ^ n := by
          have := Nat.pow_le_pow_right (n := 2) (by omega) h4
          exact_mod_cast this
        omega
    omega
theorem blen_nonneg (x : Int) : 0 ≤ blen x := by
  unfold blen; split <;> omega

theorem len8_all : (List.range 256).all (fun i => (([0, 1, 2, 2, 3, 3, 3, 3, 4, 4, 4, 4, 4, 4, 4, 4, 5, 5, 5, 5, 5, 5, 5, 5, 5, 5, 5, 5, 5, 5, 5, 5, 6, 6, 6, 6, 6, 6, 6, 6, 6, 6, 6, 6, 6, 6, 6, 6, 6, 6, 6, 6, 6, 6, 6, 6, 6, 6, 6, 6, 6, 6, 6, 6, 7, 7, 7, 7, 7, 7, 7, 7, 7, 7, 7, 7, 7, 7, 7, 7, 7, 7, 7, 7, 7, 7, 7, 7, 7, 7, 7, 7, 7, 7, 7, 7, 7, 7, 7, 7, 7, 7, 7, 7, 7, 7, 7, 7, 7, 7, 7, 7, 7, 7, 7, 7, 7, 7, 7, 7, 7, 7, 7, 7, 7, 7, 7, 7, 8, 8, 8, 8, 8, 8, 8, 8, 8, 8, 8, 8, 8, 8, 8, 8, 8, 8, 8, 8, 8, 8, 8, 8, 8, 8, 8, 8, 8, 8, 8, 8, 8, 8, 8, 8, 8, 8, 8, 8, 8, 8, 8, 8, 8, 8, 8, 8, 8, 8, 8, 8, 8, 8, 8, 8, 8, 8, 8, 8, 8, 8, 8, 8, 8, 8, 8, 8, 8, 8, 8, 8, 8, 8, 8, 8, 8, 8, 8, 8, 8, 8, 8, 8, 8, 8, 8, 8, 8, 8, 8, 8, 8, 8, 8, 8, 8, 8, 8, 8, 8, 8, 8, 8, 8, 8, 8, 8, 8, 8, 8, 8, 8, 8, 8, 8, 8, 8, 8, 8, 8, 8, 8, 8, 8, 8, 8, 8] : List UInt8).getD i 0).toNat == (blen i).toNat) = true := by decide +kernel
theorem len8_at (i : Int) (h0 : 0 ≤ i) (h1 : i < 256) : (((([0, 1, 2, 2, 3, 3, 3, 3, 4, 4, 4, 4, 4, 4, 4, 4, 5, 5, 5, 5, 5, 5, 5, 5, 5, 5, 5, 5, 5, 5, 5, 5, 6, 6, 6, 6, 6, 6, 6, 6, 6, 6, 6, 6, 6, 6, 6, 6, 6, 6, 6, 6, 6, 6, 6, 6, 6, 6, 6, 6, 6, 6, 6, 6, 7, 7, 7, 7, 7, 7, 7, 7, 7, 7, 7, 7, 7, 7, 7, 7, 7, 7, 7, 7, 7, 7, 7, 7, 7, 7, 7, 7, 7, 7, 7, 7, 7, 7, 7, 7, 7, 7, 7, 7, 7, 7, 7, 7, 7, 7, 7, 7, 7, 7, 7, 7, 7, 7, 7, 7, 7, 7, 7, 7, 7, 7, 7, 7, 8, 8, 8, 8, 8, 8, 8, 8, 8, 8, 8, 8, 8, 8, 8, 8, 8, 8, 8, 8, 8, 8, 8, 8, 8, 8, 8, 8, 8, 8, 8, 8, 8, 8, 8, 8, 8, 8, 8, 8, 8, 8, 8, 8, 8, 8, 8, 8, 8, 8, 8, 8, 8, 8, 8, 8, 8, 8, 8, 8, 8, 8, 8, 8, 8, 8, 8, 8, 8, 8, 8, 8, 8, 8, 8, 8, 8, 8, 8, 8, 8, 8, 8, 8, 8, 8, 8, 8, 8, 8, 8, 8, 8, 8, 8, 8, 8, 8, 8, 8, 8, 8, 8, 8, 8, 8, 8, 8, 8, 8, 8, 8, 8, 8, 8, 8, 8, 8, 8, 8, 8, 8, 8, 8, 8, 8, 8, 8] : List UInt8).getD i.toNat 0).toNat : Nat) : Int) = blen i := by
  have := List.all_eq_true.1 len8_all i.toNat (List.mem_range.2 (by omega))
  have h2 := blen_nonneg i
  rw [beq_iff_eq] at this
  rw [this, Int.toNat_of_nonneg h0]
  omega

theorem getD_lit (l : List UInt8) (n : Nat) : (⟨⟨l⟩⟩ : ByteArray).data.getD n 0 = l.getD n 0 := by
  simp only [Array.getD_eq_getD_getElem?, List.getElem?_toArray, List.getD_eq_getElem?_getD]

theorem len8_str {L : ByteArray} (h : (⟨⟨[0, 1, 2, 2, 3, 3, 3, 3, 4, 4, 4, 4, 4, 4, 4, 4, 5, 5, 5, 5, 5, 5, 5, 5, 5, 5, 5, 5, 5, 5, 5, 5, 6, 6, 6, 6, 6, 6, 6, 6, 6, 6, 6, 6, 6, 6, 6, 6, 6, 6, 6, 6, 6, 6, 6, 6, 6, 6, 6, 6, 6, 6, 6, 6, 7, 7, 7, 7, 7, 7, 7, 7, 7, 7, 7, 7, 7, 7, 7, 7, 7, 7, 7, 7, 7, 7, 7, 7, 7, 7, 7, 7, 7, 7, 7, 7, 7, 7, 7, 7, 7, 7, 7, 7, 7, 7, 7, 7, 7, 7, 7, 7, 7, 7, 7, 7, 7, 7, 7, 7, 7, 7, 7, 7, 7, 7, 7, 7, 8, 8, 8, 8, 8, 8, 8, 8, 8, 8, 8, 8, 8, 8, 8, 8, 8, 8, 8, 8, 8, 8, 8, 8, 8, 8, 8, 8, 8, 8, 8, 8, 8, 8, 8, 8, 8, 8, 8, 8, 8, 8, 8, 8, 8, 8, 8, 8, 8, 8, 8, 8, 8, 8, 8, 8, 8, 8, 8, 8, 8, 8, 8, 8, 8, 8, 8, 8, 8, 8, 8, 8, 8, 8, 8, 8, 8, 8, 8, 8, 8, 8, 8, 8, 8, 8, 8, 8, 8, 8, 8, 8, 8, 8, 8, 8, 8, 8, 8, 8, 8, 8, 8, 8, 8, 8, 8, 8, 8, 8, 8, 8, 8, 8, 8, 8, 8, 8, 8, 8, 8, 8, 8, 8, 8, 8, 8, 8]⟩⟩ : ByteArray) = L) : L.size = 256 ∧ ∀ i : Int, 0 ≤ i → i < 256 → (((L.data.getD (i % 256).toNat 0).toNat : Nat) : Int) = blen i := by
  subst h
  refine ⟨by decide +kernel, fun i h0 h1 => ?_⟩
  rw [Int.emod_eq_of_lt h0 h1, ← len8_at i h0 h1, getD_lit]

theorem len32 {x y : Int} (h : 4294967296 ≤ x) (hy : y = x / 4294967296) : blen y = blen x - 32 := by subst hy; exact blen_div 32 h
theorem len16 {x y : Int} (h : 65536 ≤ x) (hy : y = x / 65536) : blen y = blen x - 16 := by subst hy; exact blen_div 16 h
theorem len8 {x y : Int} (h : 256 ≤ x) (hy : y = x / 256) : blen y = blen x - 8 := by subst hy; exact blen_div 8 h
end Go.Proofs.Ytincnfjihffllaa.Ev
