/- Texts of the proof, joined: Bn9 Br2 Br3 Br4 Pu6 Pu8 Pu9 Pu11 Pu7 Pu12 Pu13 Pu10 Pu14 Pu15 Pu16 Pu17 Br5 Br8 W1 N4 C3 C4 C5 C6 C7 C8 C22 N5 N6 Bn10 -/
import Derived.Test.YtaiillbjhdoikaaB3
set_option linter.unusedVariables false
set_option linter.unusedSimpArgs false

/- The guess of a limb, as the words of the program reckon it. -/
namespace Go.Proofs.Ytaiillbjhdoikaa.Ev
open Go

/-- the greatest limb that is not too great -/
def guessQ (r2 r1 r0 d1 d0 : Int) : Int := min (((r2 * 4294967296 + r1) * 4294967296 + r0) / (d1 * 4294967296 + d0)) 4294967295

theorem GuessOK.eq {r2 r1 r0 d1 d0 q : Int} (I : GuessIn r2 r1 r0 d1 d0) (h : GuessOK r2 r1 r0 d1 d0 q) : q = guessQ r2 r1 r0 d1 d0 := by
  have hD : 0 < d1 * 4294967296 + d0 := by have := I.d1b; have := I.d0b; omega
  have h1 := h.q1
  have h2 : q ≤ ((r2 * 4294967296 + r1) * 4294967296 + r0) / (d1 * 4294967296 + d0) := (Int.le_ediv_iff_mul_le hD).2 h.le
  have h3 := h.up (guessQ r2 r1 r0 d1 d0) ((Int.le_ediv_iff_mul_le hD).1 (by unfold guessQ; omega)) (by unfold guessQ; omega)
  unfold guessQ at h3 ⊢
  omega

theorem guessQ_ok {r2 r1 r0 d1 d0 : Int} (I : GuessIn r2 r1 r0 d1 d0) : GuessOK r2 r1 r0 d1 d0 (guessQ r2 r1 r0 d1 d0) := by
  have hD : 0 < d1 * 4294967296 + d0 := by have := I.d1b; have := I.d0b; omega
  have h0 : 0 ≤ ((r2 * 4294967296 + r1) * 4294967296 + r0) / (d1 * 4294967296 + d0) := Int.ediv_nonneg (by have := I.r2b; have := I.r1b; have := I.r0b; omega) (by omega)
  refine ⟨by unfold guessQ; omega, by unfold guessQ; omega, (Int.le_ediv_iff_mul_le hD).1 (by unfold guessQ; omega), fun k hk hk' => ?_⟩
  have := (Int.le_ediv_iff_mul_le hD).2 hk
  unfold guessQ; omega

theorem shl_u64 {x : Int} (h0 : 0 ≤ x) (h1 : x < 4294967296) : intBinR .shl .u64 x 32 = x * 4294967296 := by
  show IntKind.u64.wrap (x * 2 ^ min (Int.toNat 32) IntKind.u64.bits) = _
  rw [shl32, wu64]; omega
theorem wu64_id {x : Int} (h0 : 0 ≤ x) (h1 : x < 18446744073709551616) : IntKind.u64.wrap x = x := by rw [wu64]; exact Int.emod_eq_of_lt h0 h1

theorem guess_top {r2 r1 r0 d1 d0 t : Int} (I : GuessIn r2 r1 r0 d1 d0) (et : t = intBinR .or .u64 (intBinR .shl .u64 (IntKind.u64.wrap r2) 32) (IntKind.u64.wrap r1)) : t = r2 * 4294967296 + r1 := by
  have h2 := I.r2b
  have h1 := I.r1b
  rw [et, wu64_id h2.1 (by omega), wu64_id h1.1 (by omega), shl_u64 h2.1 h2.2]
  exact or64' h1.1 h1.2 h2.1 h2.2

theorem guess_start {r2 r1 r0 d1 d0 t q left : Int} (I : GuessIn r2 r1 r0 d1 d0) (et : t = intBinR .or .u64 (intBinR .shl .u64 (IntKind.u64.wrap r2) 32) (IntKind.u64.wrap r1))
    (eq : q = intBinR .quo .u64 t (IntKind.u64.wrap d1)) (el : left = intBinR .rem .u64 t (IntKind.u64.wrap d1)) : GuessInv r2 r1 r0 d1 d0 q left := by
  have h2 := I.r2b
  have h1 := I.r1b
  have hd := I.d1b
  have ht := guess_top I et
  have t0 : 0 ≤ t := by omega
  have eq' : q = (r2 * 4294967296 + r1) / d1 := by
    rw [eq]
    show IntKind.u64.wrap (t.tdiv (IntKind.u64.wrap d1)) = _
    rw [wu64_id (x := d1) (by omega) (by omega), Int.tdiv_eq_ediv_of_nonneg t0, ht, wu64_id]
    · exact Int.ediv_nonneg (by omega) (by omega)
    · exact Int.lt_of_le_of_lt (Int.ediv_le_self _ (by omega)) (by omega)
  have el' : left = (r2 * 4294967296 + r1) % d1 := by
    rw [el]
    show t.tmod (IntKind.u64.wrap d1) = _
    rw [wu64_id (x := d1) (by omega) (by omega), Int.tmod_eq_emod_of_nonneg t0, ht]
  rw [eq', el']
  exact GuessInv.start I

theorem guess_lt {r2 r1 r0 d1 d0 q left : Int} (I : GuessIn r2 r1 r0 d1 d0) (h : GuessInv r2 r1 r0 d1 d0 q left) : q < 18446744073709551616 := by
  have h2 := I.r2b
  have h1 := I.r1b
  have hd := I.d1b
  have e := h.eq
  have l0 := h.l0
  have q0 := h.q0
  have : q * 1 ≤ q * d1 := Int.mul_le_mul_of_nonneg_left (by omega) q0
  omega

theorem guess_cmp {r2 r1 r0 d1 d0 q left : Int} (I : GuessIn r2 r1 r0 d1 d0) (h : GuessInv r2 r1 r0 d1 d0 q left) (hq : ¬ 4294967295 < q) :
    (intBinR .or .u64 (intBinR .shl .u64 left 32) (IntKind.u64.wrap r0) < intBinR .mul .u64 q (IntKind.u64.wrap d0)) ↔ left * 4294967296 + r0 < q * d0 := by
  have h0 := I.r0b
  have hd := I.d0b
  have q0 := h.q0
  have l0 := h.l0
  have l1 := h.l1
  have m := guess_mul q0 (by omega) hd
  rw [shl_u64 l0 l1, wu64_id h0.1 (by omega), wu64_id hd.1 (by omega)]
  have e1 : intBinR .or .u64 (left * 4294967296) r0 = left * 4294967296 + r0 := or64' h0.1 h0.2 l0 l1
  have e2 : intBinR .mul .u64 q d0 = q * d0 := wu64_id m.1 (by omega)
  rw [e1, e2]

theorem guess_done {r2 r1 r0 d1 d0 q left : Int} (I : GuessIn r2 r1 r0 d1 d0) (h : GuessInv r2 r1 r0 d1 d0 q left) (hq : ¬ 4294967295 < q)
    (hc : ¬ intBinR .or .u64 (intBinR .shl .u64 left 32) (IntKind.u64.wrap r0) < intBinR .mul .u64 q (IntKind.u64.wrap d0)) : IntKind.u32.wrap q = guessQ r2 r1 r0 d1 d0 := by
  rw [guess_cmp I h hq] at hc
  have ok := h.done (by omega) (by omega)
  have := ok.q0
  rw [wu32, Int.emod_eq_of_lt (by omega) (by omega)]
  exact ok.eq I

theorem guess_cond {r2 r1 r0 d1 d0 q left : Int} (I : GuessIn r2 r1 r0 d1 d0) (h : GuessInv r2 r1 r0 d1 d0 q left)
    (hc : 4294967295 < q ∨ (¬ 4294967295 < q ∧ intBinR .or .u64 (intBinR .shl .u64 left 32) (IntKind.u64.wrap r0) < intBinR .mul .u64 q (IntKind.u64.wrap d0))) : 4294967295 < q ∨ left * 4294967296 + r0 < q * d0 := by
  rcases hc with hc | ⟨hq, hc⟩
  · exact .inl hc
  · exact .inr ((guess_cmp I h hq).1 hc)

theorem guess_next {r2 r1 r0 d1 d0 q left q' left' : Int} (I : GuessIn r2 r1 r0 d1 d0) (h : GuessInv r2 r1 r0 d1 d0 q left)
    (hc : 4294967295 < q ∨ (¬ 4294967295 < q ∧ intBinR .or .u64 (intBinR .shl .u64 left 32) (IntKind.u64.wrap r0) < intBinR .mul .u64 q (IntKind.u64.wrap d0)))
    (eq : q' = intBinR .sub .u64 q 1) (el : left' = intBinR .add .u64 left (IntKind.u64.wrap d1)) :
    q' = q - 1 ∧ left' = left + d1 ∧ 1 ≤ q := by
  have hc' := guess_cond I h hc
  have p := h.pos I hc'
  have lt := guess_lt I h
  have hd := I.d1b
  have l0 := h.l0
  have l1 := h.l1
  refine ⟨?_, ?_, p⟩
  · rw [eq]; exact wu64_id (by omega) (by omega)
  · rw [el, wu64_id (x := d1) (by omega) (by omega)]; exact wu64_id (by omega) (by omega)
theorem guess_step {r2 r1 r0 d1 d0 q left q' left' : Int} (I : GuessIn r2 r1 r0 d1 d0) (h : GuessInv r2 r1 r0 d1 d0 q left)
    (hc : 4294967295 < q ∨ (¬ 4294967295 < q ∧ intBinR .or .u64 (intBinR .shl .u64 left 32) (IntKind.u64.wrap r0) < intBinR .mul .u64 q (IntKind.u64.wrap d0)))
    (eq : q' = intBinR .sub .u64 q 1) (el : left' = intBinR .add .u64 left (IntKind.u64.wrap d1)) (hl : ¬ 4294967295 < left') : q'.toNat < q.toNat ∧ GuessInv r2 r1 r0 d1 d0 q' left' := by
  obtain ⟨e1, e2, p⟩ := guess_next I h hc eq el
  have hc' := guess_cond I h hc
  subst e1 e2
  exact ⟨by omega, h.step I hc' (by omega)⟩
theorem guess_brk {r2 r1 r0 d1 d0 q left q' left' : Int} (I : GuessIn r2 r1 r0 d1 d0) (h : GuessInv r2 r1 r0 d1 d0 q left)
    (hc : 4294967295 < q ∨ (¬ 4294967295 < q ∧ intBinR .or .u64 (intBinR .shl .u64 left 32) (IntKind.u64.wrap r0) < intBinR .mul .u64 q (IntKind.u64.wrap d0)))
    (eq : q' = intBinR .sub .u64 q 1) (el : left' = intBinR .add .u64 left (IntKind.u64.wrap d1)) (hl : 4294967295 < left') : IntKind.u32.wrap q' = guessQ r2 r1 r0 d1 d0 := by
  obtain ⟨e1, e2, p⟩ := guess_next I h hc eq el
  have hc' := guess_cond I h hc
  subst e1 e2
  have ok := h.brk I hc' (by omega)
  have := ok.q0
  have := ok.q1
  rw [wu32, Int.emod_eq_of_lt (by omega) (by omega)]
  exact ok.eq I
end Go.Proofs.Ytaiillbjhdoikaa.Ev

/- The reference's shifts and its division bit by bit: plain Lean. -/
namespace Go.Proofs.Ytaiillbjhdoikaa.Ev
open Go

end Go.Proofs.Ytaiillbjhdoikaa.Ev

/- How often a number is even, and its odd part: plain Lean. -/
namespace Go.Proofs.Ytaiillbjhdoikaa.Ev
open Go

def v2 (n : Nat) : Nat := if h : 0 < n ∧ n % 2 = 0 then v2 (n / 2) + 1 else 0
termination_by n
decreasing_by omega
/-- a number times a power of two, told by its odd part -/
def dyMake (neg : Bool) (k : Nat) (e : Int) : Bool × Nat × Int :=
  if k = 0 ∨ e < -4194304 ∨ 4194304 < e then (false, 0, 0) else if 4194304 < e + v2 k then (false, 0, 0) else (neg, k / 2 ^ v2 k, e + v2 k)
end Go.Proofs.Ytaiillbjhdoikaa.Ev

/- The reference's rounding, as a function of values: plain Lean. -/
namespace Go.Proofs.Ytaiillbjhdoikaa.Ev
open Go

theorem blen_rng {k : Nat} (h : 0 < k) : ∃ n : Nat, blen (k : Int) = n + 1 ∧ 2 ^ n ≤ k ∧ k < 2 ^ (n + 1) := by
  obtain ⟨n, h1, h2, h3⟩ := blen_pos (x := (k : Int)) (by omega)
  rw [pow2_cast] at h2 h3
  exact ⟨n, h1, by omega, by omega⟩
/-! ### the reference's operations, by value -/
def dyL (p : Bool × Nat × Int) : Bool × List Int × Int := (p.1, lim p.2.1, p.2.2)
/-- an exact number, and whether there is one -/
def Num.exact (n : Num) : (Bool × Nat × Int) × Bool :=
  if n.may = false ∨ n.kind = 2 then ((false, 0, 0), false) else if n.kind = 0 then ((false, 0, 0), true) else (dyMake n.neg n.m.toNat n.e, true)
end Go.Proofs.Ytaiillbjhdoikaa.Ev

/- Is one of these intervals empty, or none at all? Plain Lean. -/
namespace Go.Proofs.Ytaiillbjhdoikaa.Ev
open Go

def Iv.cells (x : Iv) : List AV := [.bool (.s x.empty), .int .i64 (.s x.lo.kind), .bool (.s x.lo.neg), .int .u64 (.s x.lo.m), .int .i64 (.s x.lo.e),
  .int .i64 (.s x.hi.kind), .bool (.s x.hi.neg), .int .u64 (.s x.hi.m), .int .i64 (.s x.hi.e)]
def Iv.bad (x : Iv) : Bool := x.empty || !x.may
def Iv.anyBad (l : List Iv) : Bool := l.any Iv.bad
end Go.Proofs.Ytaiillbjhdoikaa.Ev

/- The value of a number, scaled to a whole number; the order; what rounding does: plain Lean. -/
namespace Go.Proofs.Ytaiillbjhdoikaa.Ev
open Go

def pw (e : Int) : Int := 2 ^ (e + 8388608).toNat
theorem pw_pos (e : Int) : 0 < pw e := Int.pow_pos (by decide)
theorem pw_add {e f : Int} (h : -8388608 ≤ e) (h2 : 0 ≤ f) : pw (e + f) = pw e * 2 ^ f.toNat := by
  unfold pw; rw [show (e + f + 8388608).toNat = (e + 8388608).toNat + f.toNat by omega, Int.pow_add]
theorem pw_succ {e : Int} (h : -8388608 ≤ e) : pw (e + 1) = pw e * 2 := pw_add h (by decide)
theorem pw_64 {e : Int} (h : -8388608 ≤ e) : pw (e + 64) = pw e * 18446744073709551616 := pw_add h (by decide)
theorem pw_63 {e : Int} (h : -8388608 ≤ e) : pw (e + 63) = pw e * 9223372036854775808 := pw_add h (by decide)
theorem pw_mul {e f : Int} (h : -8388608 ≤ e) (h2 : -8388608 ≤ f) (h3 : -8388608 ≤ e + f) : pw e * pw f = pw 0 * pw (e + f) := by
  unfold pw; rw [← Int.pow_add, ← Int.pow_add, show (e + 8388608).toNat + (f + 8388608).toNat = ((0 : Int) + 8388608).toNat + (e + f + 8388608).toNat by omega]
theorem pw_mono {e f : Int} (h : -8388608 ≤ e) (h2 : e ≤ f) : pw e ≤ pw f := by
  have e1 := pw_add h (show 0 ≤ f - e by omega)
  rw [show e + (f - e) = f by omega] at e1
  rw [e1]
  have p := pw_pos e
  have q : (0 : Int) < 2 ^ (f - e).toNat := Int.pow_pos (by decide)
  have := Int.mul_le_mul_of_nonneg_left (show (1 : Int) ≤ 2 ^ (f - e).toNat by omega) (Int.le_of_lt p)
  omega
theorem pw_lt {e f : Int} (h : -8388608 ≤ e) (h2 : e < f) : pw e * 2 ≤ pw f := by
  rw [← pw_succ h]; exact pw_mono (by omega) (by omega)

def Num.W (n : Num) : Int := if n.kind = 0 then 0 else if n.kind = 1 then n.m * pw n.e else pw 1048640
def Num.val (n : Num) : Int := if n.neg then -n.W else n.W

/-- finite -/
structure Num.Fin (n : Num) : Prop where
  kind : n.kind = 1
  lo : 9223372036854775808 ≤ n.m
  hi : n.m < 18446744073709551616
  elo : -1048576 ≤ n.e
  ehi : n.e ≤ 1048576

theorem Num.may3 {n : Num} (h : n.may = true) (ho : n.ok) : n = Num.zero ∨ n.Fin ∨ n = Num.inf n.neg := by
  rcases Num.may_cases h with h | h | h
  · exact .inl h
  · exact .inr (.inl ⟨h.1, h.2.1, ho.2, h.2.2.1, h.2.2.2⟩)
  · exact .inr (.inr h)

theorem Num.Fin.may {n : Num} (h : n.Fin) : n.may = true := by
  unfold Num.may; rw [if_neg (by rw [h.kind]; decide), if_pos h.kind]
  simp [h.lo, h.elo, h.ehi]
theorem Num.Fin.ok {n : Num} (h : n.Fin) : n.ok := ⟨by have := h.lo; omega, h.hi⟩
theorem Num.Fin.W {n : Num} (h : n.Fin) : n.W = n.m * pw n.e := by
  unfold Num.W; rw [if_neg (by rw [h.kind]; decide), if_pos h.kind]

theorem Num.Fin.lt {n : Num} (h : n.Fin) : 0 < n.W ∧ n.W < pw 1048640 := by
  rw [h.W]
  have p := pw_pos n.e
  have l := h.lo
  have u := h.hi
  have e1 := pw_64 (e := n.e) (by have := h.elo; omega)
  have e2 := pw_mono (e := n.e + 64) (f := 1048640) (by have := h.elo; omega) (by have := h.ehi; omega)
  have e3 : n.m * pw n.e < 18446744073709551616 * pw n.e := Int.mul_lt_mul_of_pos_right u p
  have e4 : 0 < n.m * pw n.e := Int.mul_pos (by omega) p
  omega

theorem Num.zero_W : Num.zero.W = 0 := rfl
theorem Num.inf_W (b : Bool) : (Num.inf b).W = pw 1048640 := rfl
theorem Num.zero_may : Num.zero.may = true := by decide
theorem Num.inf_may (b : Bool) : (Num.inf b).may = true := by cases b <;> decide

/-- the greater exponent makes the greater number -/
theorem lex_lt {m e m' e' : Int} (h1 : 9223372036854775808 ≤ m') (h2 : m < 18446744073709551616) (he : -8388608 ≤ e) (h : e < e') : m * pw e < m' * pw e' := by
  have p := pw_pos e
  have e1 := pw_lt he h
  have e2 : m * pw e < 18446744073709551616 * pw e := Int.mul_lt_mul_of_pos_right h2 p
  have e3 : 9223372036854775808 * pw e' ≤ m' * pw e' := Int.mul_le_mul_of_nonneg_right h1 (by omega)
  omega

theorem Num.farther_iff {a b : Num} (ha : a.may = true) (hb : b.may = true) (oa : a.ok) (ob : b.ok) : a.farther b = true ↔ b.W < a.W := by
  rcases Num.may3 ha oa with h | h | h <;> rcases Num.may3 hb ob with k | k | k
  · rw [h, k]; simp [Num.farther]
  · rw [h]; have := k.lt; simp [Num.farther, k.kind, Num.zero, Num.W]; rw [← k.W]; omega
  · rw [h, k]; have := pw_pos 1048640; simp [Num.farther, Num.zero, Num.inf, Num.W]; omega
  · rw [k]; have := h.lt; simp [Num.farther, h.kind, Num.zero, Num.W]; rw [← h.W]; omega
  · unfold Num.farther
    rw [if_neg (by simp [h.kind, k.kind]), h.W, k.W]
    have := h.lo; have := h.hi; have := h.elo; have := h.ehi
    have := k.lo; have := k.hi; have := k.elo; have := k.ehi
    by_cases he : a.e = b.e
    · rw [if_neg (by simp [he]), he, decide_eq_true_eq]
      have p := pw_pos b.e
      exact (Int.mul_lt_mul_right p).symm
    · rw [if_pos he, decide_eq_true_eq]
      constructor
      · intro g; exact lex_lt h.lo k.hi (by omega) g
      · intro g
        rcases Int.lt_or_le b.e a.e with g' | g'
        · exact g'
        · have := lex_lt k.lo h.hi (by omega) (show a.e < b.e by omega)
          omega
  · rw [k]; have := h.lt; simp [Num.farther, h.kind, Num.inf, Num.W]; rw [← h.W]; omega
  · rw [h, k]; have := pw_pos 1048640; simp [Num.farther, Num.zero, Num.inf, Num.W]; omega
  · rw [h]; have := k.lt; simp [Num.farther, k.kind, Num.inf, Num.W]; rw [← k.W]; omega
  · rw [h, k]; simp [Num.farther, Num.inf, Num.W]

theorem Num.sign_of {n : Num} (h : n.may = true) (o : n.ok) : (n.sign = 0 ∧ n.val = 0 ∧ n.W = 0 ∧ n = Num.zero) ∨ (n.sign = 1 ∧ n.val = n.W ∧ 0 < n.W ∧ n.neg = false ∧ n.kind ≠ 0) ∨ (n.sign = -1 ∧ n.val = -n.W ∧ 0 < n.W ∧ n.neg = true ∧ n.kind ≠ 0) := by
  unfold Num.sign Num.val
  rw [Num.fair_of_may h]
  rcases Num.may3 h o with k | k | k
  · left; rw [k]; simp [Num.zero, Num.W]
  · right
    have := k.lt
    rw [if_neg (by rw [k.kind]; decide)]
    cases hn : n.neg
    · left; simp [k.kind]; omega
    · right; simp [k.kind]; omega
  · right
    have := pw_pos 1048640
    rw [k]
    cases hn : n.neg
    · left; simp [Num.inf, Num.W]; exact this
    · right; simp [Num.inf, Num.W]; exact this

theorem Num.cmp_spec {a b : Num} (oa : a.ok) (ob : b.ok) :
    (a.cmp b = -1 ∧ a.fair.val < b.fair.val) ∨ (a.cmp b = 0 ∧ a.fair.val = b.fair.val) ∨ (a.cmp b = 1 ∧ b.fair.val < a.fair.val) := by
  have ma := a.fair_may
  have mb := b.fair_may
  replace oa := Num.fair_ok oa
  replace ob := Num.fair_ok ob
  unfold Num.cmp
  generalize a.fair = A at *
  generalize b.fair = B at *
  have f1 := Num.farther_iff ma mb oa ob
  have f2 := Num.farther_iff mb ma ob oa
  have w0 : IntKind.i64.wrap (0 - 0) = 0 := by decide
  have w1 : IntKind.i64.wrap (0 - 1) = -1 := by decide
  have w2 : IntKind.i64.wrap (0 - -1) = 1 := by decide
  rcases Num.sign_of ma oa with h | h | h <;> rcases Num.sign_of mb ob with k | k | k <;> rw [h.1, k.1] <;> simp only [f1, f2, w0, w1, w2] <;> repeat' split <;> omega

theorem Num.cmp_le {a b : Num} (oa : a.ok) (ob : b.ok) : a.cmp b ≤ 0 ↔ a.fair.val ≤ b.fair.val := by
  rcases Num.cmp_spec oa ob with h | h | h <;> omega
theorem Num.cmp_lt {a b : Num} (oa : a.ok) (ob : b.ok) : a.cmp b < 0 ↔ a.fair.val < b.fair.val := by
  rcases Num.cmp_spec oa ob with h | h | h <;> omega
theorem Num.cmp_gt {a b : Num} (oa : a.ok) (ob : b.ok) : 0 < a.cmp b ↔ b.fair.val < a.fair.val := by
  rcases Num.cmp_spec oa ob with h | h | h <;> omega

theorem Num.val_inf (b : Bool) : (Num.inf b).val = if b then -pw 1048640 else pw 1048640 := rfl
theorem Num.val_zero : Num.zero.val = 0 := rfl
theorem Num.val_le {n : Num} (h : n.may = true) (o : n.ok) : -pw 1048640 ≤ n.val ∧ n.val ≤ pw 1048640 := by
  have p := pw_pos 1048640
  rcases Num.may3 h o with k | k | k
  · rw [k, Num.val_zero]; omega
  · have := k.lt; unfold Num.val; split <;> omega
  · rw [k, Num.val_inf]; split <;> omega

theorem Num.val_inj {a b : Num} (ha : a.may = true) (hb : b.may = true) (oa : a.ok) (ob : b.ok) (h : a.val = b.val) : a = b := by
  have f1 := Num.farther_iff ha hb oa ob
  have f2 := Num.farther_iff hb ha ob oa
  have key : a.neg = b.neg ∧ a.W = b.W := by
    rcases Num.sign_of ha oa with h | h | h <;> rcases Num.sign_of hb ob with k | k | k <;> first | (exfalso; omega) | (refine ⟨?_, by omega⟩; first | rw [h.2.2.2, k.2.2.2] | rw [h.2.2.2.1, k.2.2.2.1])
  rw [key.2] at f1 f2
  have g1 : a.farther b = false := by
    cases hh : a.farther b
    · rfl
    · have := f1.1 hh; omega
  have g2 : b.farther a = false := by
    cases hh : b.farther a
    · rfl
    · have := f2.1 hh; omega
  unfold Num.farther at g1 g2
  by_cases hk : a.kind = b.kind
  · rw [if_neg (by simp [hk])] at g1 g2
    by_cases he : a.e = b.e
    · rw [if_neg (by simp [he]), decide_eq_false_iff_not] at g1 g2
      exact (Num.eq_iff a b).2 ⟨hk, key.1, by omega, he⟩
    · rw [if_pos he, decide_eq_false_iff_not] at g1
      rw [if_pos (fun h => he h.symm), decide_eq_false_iff_not] at g2
      omega
  · rw [if_pos hk, decide_eq_false_iff_not] at g1
    rw [if_pos (fun h => hk h.symm), decide_eq_false_iff_not] at g2
    omega

theorem Num.ne_inf {n : Num} (h : n.may = true) (o : n.ok) : (n ≠ Num.inf false ↔ n.val < pw 1048640) ∧ (n ≠ Num.inf true ↔ -pw 1048640 < n.val) := by
  have b := Num.val_le h o
  constructor
  · constructor
    · intro g
      rcases Int.lt_or_le n.val (pw 1048640) with k | k
      · exact k
      · exact absurd (Num.val_inj h (Num.inf_may _) o (Num.inf_ok _) (by rw [Num.val_inf]; simp; omega)) g
    · rintro g rfl
      rw [Num.val_inf] at g; simp at g
  · constructor
    · intro g
      rcases Int.lt_or_le (-pw 1048640) n.val with k | k
      · exact k
      · exact absurd (Num.val_inj h (Num.inf_may _) o (Num.inf_ok _) (by rw [Num.val_inf]; simp; omega)) g
    · rintro g rfl
      rw [Num.val_inf] at g; simp at g

/-- finite, or nought: its value is no infinity's -/
theorem Num.fin_val {n : Num} (h : n.may = true) (o : n.ok) : n.kind ≠ 2 ↔ (-pw 1048640 < n.val ∧ n.val < pw 1048640) := by
  have p := pw_pos 1048640
  rcases Num.may3 h o with k | k | k
  · rw [k, Num.val_zero]; simp [Num.zero]; omega
  · have := k.lt; unfold Num.val; simp [k.kind]; split <;> omega
  · rw [k, Num.val_inf]; simp [Num.inf]; split <;> omega

/-! the opposite, and what is made of two ends -/
theorem Num.opp_may (n : Num) : n.opp.may = true := by
  have h := n.fair_may
  unfold Num.opp
  unfold Num.may at h ⊢
  dsimp only
  generalize n.fair = A at *
  split
  · rename_i h0; rw [if_pos h0] at h
    simp only [decide_eq_true_eq] at h ⊢
    rw [h]; rfl
  · rename_i h0; rw [if_neg h0] at h
    exact h
theorem Num.opp_ok {n : Num} (h : n.ok) : n.opp.ok := Num.fair_ok h
theorem Num.opp_opp (n : Num) : n.opp.opp = n.fair := by
  have e := Num.fair_of_may n.opp_may
  rw [Num.eq_iff]
  show n.opp.fair.kind = _ ∧ (decide (n.opp.fair.kind ≠ 0) && !n.opp.fair.neg) = _ ∧ n.opp.fair.m = _ ∧ n.opp.fair.e = _
  rw [e]
  refine ⟨rfl, ?_, rfl, rfl⟩
  show (decide (n.fair.kind ≠ 0) && !(decide (n.fair.kind ≠ 0) && !n.fair.neg)) = n.fair.neg
  rcases Num.may_cases n.fair_may with h | h | h
  · rw [h]; rfl
  · simp [h.1]
  · rw [h]; cases n.fair.neg <;> rfl
theorem Num.opp_val {n : Num} : n.opp.val = -n.fair.val := by
  unfold Num.opp Num.val
  dsimp only
  by_cases h : n.fair.kind = 0
  · have e : n.fair = Num.zero := by
      rcases Num.may_cases n.fair_may with k | k | k
      · exact k
      · omega
      · rw [k] at h; simp [Num.inf] at h
    rw [e]; rfl
  · have e : (decide (n.fair.kind ≠ 0) && !n.fair.neg) = !n.fair.neg := by simp [h]
    rw [e]
    have e2 : (Num.mk n.fair.kind (!n.fair.neg) n.fair.m n.fair.e).W = n.fair.W := rfl
    rw [e2]
    cases n.fair.neg <;> simp

/-- an interval that may be, and is not empty -/
structure Iv.Real (x : Iv) : Prop where
  some : x.empty = false
  lom : x.lo.may = true
  him : x.hi.may = true
  loo : x.lo.ok
  hio : x.hi.ok
  le : x.lo.val ≤ x.hi.val
  lt : x.lo.val < pw 1048640
  gt : -pw 1048640 < x.hi.val

theorem Iv.Real.may {x : Iv} (h : x.Real) : x.may = true := by
  unfold Iv.may
  rw [if_neg (by simp [h.some]), h.lom, h.him]
  have e1 := (Num.cmp_le h.loo h.hio).2 (by rw [Num.fair_of_may h.lom, Num.fair_of_may h.him]; exact h.le)
  have e2 := (Num.ne_inf h.lom h.loo).1.2 h.lt
  have e3 := (Num.ne_inf h.him h.hio).2.2 h.gt
  simp [e1, e2, e3]
theorem Iv.Real.fair {x : Iv} (h : x.Real) : x.fair = x := by unfold Iv.fair; rw [if_pos h.may]
theorem Iv.Real.good {x : Iv} (h : x.Real) : x.bad = false := by simp [Iv.bad, h.some, h.may]
theorem Iv.real_of {x : Iv} (h : x.may = true) (hs : x.empty = false) (o1 : x.lo.ok) (o2 : x.hi.ok) : x.Real := by
  unfold Iv.may at h
  rw [if_neg (by simp [hs])] at h
  simp only [Bool.and_eq_true, decide_eq_true_eq] at h
  obtain ⟨⟨⟨⟨h1, h2⟩, h3⟩, h4⟩, h5⟩ := h
  have e1 := (Num.cmp_le o1 o2).1 h3
  rw [Num.fair_of_may h1, Num.fair_of_may h2] at e1
  exact ⟨hs, h1, h2, o1, o2, e1, (Num.ne_inf h1 o1).1.1 h4, (Num.ne_inf h2 o2).2.1 h5⟩
theorem Iv.empty_may {x : Iv} (h : x.may = true) (hs : x.empty = true) : x = Iv.none := by
  unfold Iv.may at h
  rw [if_pos hs] at h
  simpa using h

theorem Iv.make_eq (lo hi : Num) : Iv.make lo hi = Iv.fair ⟨false, lo.fair, hi.fair⟩ := by unfold Iv.make; rw [Num.opp_opp, Num.opp_opp]
theorem Iv.make_real {lo hi : Num} (h : (Iv.mk false lo.fair hi.fair).Real) : Iv.make lo hi = ⟨false, lo.fair, hi.fair⟩ := by rw [Iv.make_eq, h.fair]
/-- what is made of two ends is none, or just these -/
theorem Iv.make_cases {lo hi : Num} (o1 : lo.ok) (o2 : hi.ok) : (Iv.make lo hi = Iv.none ∧ ¬ (Iv.mk false lo.fair hi.fair).Real) ∨ (Iv.make lo hi = ⟨false, lo.fair, hi.fair⟩ ∧ (Iv.mk false lo.fair hi.fair).Real) := by
  by_cases h : (Iv.mk false lo.fair hi.fair).Real
  · exact .inr ⟨Iv.make_real h, h⟩
  · refine .inl ⟨?_, h⟩
    rw [Iv.make_eq]
    unfold Iv.fair
    split
    · rename_i k
      exact absurd (Iv.real_of k rfl (Num.fair_ok o1) (Num.fair_ok o2)) h
    · rfl

/-! the least and the greatest -/
theorem Num.least_go (l : List Num) : ∀ (o : Num), o.may = true → o.ok → (∀ x ∈ l, x.ok) →
    (l.foldl Num.lesser o).may = true ∧ (l.foldl Num.lesser o).ok ∧ (l.foldl Num.lesser o).val ≤ o.val ∧ (∀ x ∈ l, (l.foldl Num.lesser o).val ≤ x.fair.val) ∧ (l.foldl Num.lesser o = o ∨ ∃ x ∈ l, l.foldl Num.lesser o = x.fair) := by
  induction l with
  | nil => intro o m k _; exact ⟨m, k, Int.le_refl _, by simp, .inl rfl⟩
  | cons a l ih =>
    intro o m k hl
    have ha := hl a (List.mem_cons_self ..)
    have hs := Num.cmp_lt ha k
    rw [Num.fair_of_may m] at hs
    have key : (Num.lesser o a).may = true ∧ (Num.lesser o a).ok ∧ (Num.lesser o a).val ≤ o.val ∧ (Num.lesser o a).val ≤ a.fair.val ∧ (Num.lesser o a = o ∨ Num.lesser o a = a.fair) := by
      unfold Num.lesser
      split
      · exact ⟨a.fair_may, Num.fair_ok ha, by omega, Int.le_refl _, .inr rfl⟩
      · exact ⟨m, k, Int.le_refl _, by omega, .inl rfl⟩
    obtain ⟨k1, k2, k3, k4, k5⟩ := key
    obtain ⟨i1, i2, i3, i4, i5⟩ := ih _ k1 k2 (fun x hx => hl x (List.mem_cons_of_mem _ hx))
    rw [List.foldl_cons]
    refine ⟨i1, i2, by omega, ?_, ?_⟩
    · intro x hx
      rcases List.mem_cons.1 hx with rfl | hx
      · omega
      · exact i4 x hx
    · rcases i5 with i5 | ⟨x, hx, i5⟩
      · rcases k5 with k5 | k5
        · exact .inl (by rw [i5, k5])
        · exact .inr ⟨a, List.mem_cons_self .., by rw [i5, k5]⟩
      · exact .inr ⟨x, List.mem_cons_of_mem _ hx, i5⟩
theorem Num.least_spec (l : List Num) (hl : ∀ x ∈ l, x.ok) : (Num.least l).may = true ∧ (Num.least l).ok ∧ (∀ x ∈ l, (Num.least l).val ≤ x.fair.val) ∧ (Num.least l = Num.inf false ∨ ∃ x ∈ l, Num.least l = x.fair) := by
  obtain ⟨h1, h2, _, h4, h5⟩ := Num.least_go l (Num.inf false) (Num.inf_may _) (Num.inf_ok _) hl
  exact ⟨h1, h2, h4, h5⟩
theorem Num.most_go (l : List Num) : ∀ (o : Num), o.may = true → o.ok → (∀ x ∈ l, x.ok) →
    (l.foldl Num.greater o).may = true ∧ (l.foldl Num.greater o).ok ∧ o.val ≤ (l.foldl Num.greater o).val ∧ (∀ x ∈ l, x.fair.val ≤ (l.foldl Num.greater o).val) ∧ (l.foldl Num.greater o = o ∨ ∃ x ∈ l, l.foldl Num.greater o = x.fair) := by
  induction l with
  | nil => intro o m k _; exact ⟨m, k, Int.le_refl _, by simp, .inl rfl⟩
  | cons a l ih =>
    intro o m k hl
    have ha := hl a (List.mem_cons_self ..)
    have hs := Num.cmp_gt ha k
    rw [Num.fair_of_may m] at hs
    have key : (Num.greater o a).may = true ∧ (Num.greater o a).ok ∧ o.val ≤ (Num.greater o a).val ∧ a.fair.val ≤ (Num.greater o a).val ∧ (Num.greater o a = o ∨ Num.greater o a = a.fair) := by
      unfold Num.greater
      split
      · exact ⟨a.fair_may, Num.fair_ok ha, by omega, Int.le_refl _, .inr rfl⟩
      · exact ⟨m, k, Int.le_refl _, by omega, .inl rfl⟩
    obtain ⟨k1, k2, k3, k4, k5⟩ := key
    obtain ⟨i1, i2, i3, i4, i5⟩ := ih _ k1 k2 (fun x hx => hl x (List.mem_cons_of_mem _ hx))
    rw [List.foldl_cons]
    refine ⟨i1, i2, by omega, ?_, ?_⟩
    · intro x hx
      rcases List.mem_cons.1 hx with rfl | hx
      · omega
      · exact i4 x hx
    · rcases i5 with i5 | ⟨x, hx, i5⟩
      · rcases k5 with k5 | k5
        · exact .inl (by rw [i5, k5])
        · exact .inr ⟨a, List.mem_cons_self .., by rw [i5, k5]⟩
      · exact .inr ⟨x, List.mem_cons_of_mem _ hx, i5⟩
theorem Num.most_spec (l : List Num) (hl : ∀ x ∈ l, x.ok) : (Num.most l).may = true ∧ (Num.most l).ok ∧ (∀ x ∈ l, x.fair.val ≤ (Num.most l).val) ∧ (Num.most l = Num.inf true ∨ ∃ x ∈ l, Num.most l = x.fair) := by
  obtain ⟨h1, h2, _, h4, h5⟩ := Num.most_go l (Num.inf true) (Num.inf_may _) (Num.inf_ok _) hl
  exact ⟨h1, h2, h4, h5⟩

/-! rounding -/
/-- r is a magnitude's q * 2^e, to nought or away -/
structure Rnd (r : Num) (neg away : Bool) (q q' e : Int) : Prop where
  may : r.may = true
  ok : r.ok
  neg : r.kind = 0 ∨ r.neg = neg
  down : away = false → r.kind ≠ 2 ∧ r.W ≤ q * pw e
  up : away = true → r.kind ≠ 0 ∧ (r.kind = 2 ∨ q' * pw e ≤ r.W)

theorem bound_rnd {neg away : Bool} {m e : Int} (hm : 9223372036854775808 ≤ m) (hm' : m < 18446744073709551616) (he : -4194304 ≤ e) (he' : e ≤ 4194304) :
    Rnd (Num.bound neg m e away) neg away m m e := by
  unfold Num.bound
  by_cases h1 : 1048576 < e
  · rw [if_pos h1]
    cases away
    · rw [if_neg (by decide)]
      refine ⟨by cases neg <;> decide, by constructor <;> simp [Num.huge], .inr rfl, fun _ => ⟨by simp [Num.huge], ?_⟩, by simp⟩
      show 18446744073709551615 * pw 1048576 ≤ _
      have := lex_lt (m := 18446744073709551615) hm (by decide) (by decide) h1
      omega
    · rw [if_pos rfl]
      exact ⟨Num.inf_may _, Num.inf_ok _, .inr rfl, by simp, fun _ => ⟨by simp [Num.inf], .inl rfl⟩⟩
  · rw [if_neg h1]
    by_cases h2 : e < -1048576
    · rw [if_pos h2]
      cases away
      · rw [if_neg (by decide)]
        refine ⟨Num.zero_may, Num.zero_ok, .inl rfl, fun _ => ⟨by simp [Num.zero], ?_⟩, by simp⟩
        rw [Num.zero_W]; exact Int.mul_nonneg (by omega) (Int.le_of_lt (pw_pos _))
      · rw [if_pos rfl]
        refine ⟨by cases neg <;> decide, by constructor <;> simp [Num.tiny, Num.top], .inr rfl, by simp, fun _ => ⟨by simp [Num.tiny], .inr ?_⟩⟩
        show _ ≤ 9223372036854775808 * pw (-1048576)
        have := lex_lt (m' := 9223372036854775808) (by decide) hm' (by omega) h2
        omega
    · rw [if_neg h2]
      have f : (Num.mk 1 neg m e).Fin := ⟨rfl, hm, hm', by show -1048576 ≤ e; omega, by show e ≤ 1048576; omega⟩
      exact ⟨f.may, f.ok, .inr rfl, fun _ => ⟨by simp, by rw [f.W]; exact Int.le_refl _⟩, fun _ => ⟨by simp, .inr (by rw [f.W]; exact Int.le_refl _)⟩⟩

theorem grow_rnd {neg cut away : Bool} {m e : Int} (hm : 9223372036854775808 ≤ m) (hm' : m < 18446744073709551616) (he : -4194303 ≤ e) (he' : e ≤ 4194303) :
    Rnd (Num.grow neg m e cut away) neg away m (if cut then m + 1 else m) e := by
  unfold Num.grow
  by_cases hc : (cut && away) = true
  · rw [if_pos hc]
    simp only [Bool.and_eq_true] at hc
    obtain ⟨h1, h2⟩ := hc
    subst h1; subst h2
    rw [if_pos rfl]
    by_cases h0 : IntKind.u64.wrap (m + 1) = 0
    · rw [if_pos h0]
      have em : m + 1 = 18446744073709551616 := by rw [wu64] at h0; omega
      have ee : IntKind.i64.wrap (e + 1) = e + 1 := by rw [wi64]; omega
      rw [ee, em]
      have b := bound_rnd (neg := neg) (away := true) (m := Num.top) (e := e + 1) (by decide) (by decide) (by omega) (by omega)
      have e2 : Num.top * pw (e + 1) = 18446744073709551616 * pw e := by
        rw [pw_succ (by omega)]; show 9223372036854775808 * (pw e * 2) = _; omega
      exact ⟨b.may, b.ok, b.neg, by simp, fun h => ⟨(b.up h).1, by rw [← e2]; exact (b.up h).2⟩⟩
    · rw [if_neg h0]
      have em : IntKind.u64.wrap (m + 1) = m + 1 := by rw [wu64] at h0 ⊢; omega
      have hlt : m + 1 < 18446744073709551616 := by rw [wu64] at h0; omega
      rw [em]
      have b := bound_rnd (neg := neg) (away := true) (m := m + 1) (e := e) (by omega) hlt (by omega) (by omega)
      exact ⟨b.may, b.ok, b.neg, by simp, b.up⟩
  · rw [if_neg hc]
    have b := bound_rnd (neg := neg) (away := away) hm hm' (e := e) (by omega) (by omega)
    refine ⟨b.may, b.ok, b.neg, b.down, ?_⟩
    intro ha
    subst ha
    simp only [Bool.and_true, Bool.not_eq_true] at hc
    rw [if_neg (by simp [hc])]
    exact b.up rfl

/-- what a rounded one's value is to the exact one, t / c -/
structure Side (r : Num) (up : Bool) (t c : Int) : Prop where
  may : r.may = true
  ok : r.ok
  down : up = false → r ≠ Num.inf false ∧ (r = Num.inf true ∨ r.val * c ≤ t)
  up : up = true → r ≠ Num.inf true ∧ (r = Num.inf false ∨ t ≤ r.val * c)

theorem Num.inf_of {r : Num} (h : r.may = true) (o : r.ok) (hk : r.kind = 2) : r = Num.inf r.neg := by
  rcases Num.may3 h o with k | k | k
  · rw [k] at hk; simp [Num.zero] at hk
  · have := k.kind; omega
  · exact k

theorem Rnd.side {r : Num} {neg up : Bool} {q q' e T c : Int} (R : Rnd r neg (up != neg) q q' e) (h1 : q * pw e * c ≤ T) (h2 : T ≤ q' * pw e * c) (hT : 0 ≤ T) (hc : 0 ≤ c) : Side r up (if neg then -T else T) c := by
  have hv : r.val * c = if r.neg then -(r.W * c) else r.W * c := by
    unfold Num.val; cases r.neg <;> simp [Int.neg_mul]
  have down : (up != neg) = false → r.kind ≠ 2 ∧ r.W * c ≤ T := fun h => ⟨(R.down h).1, Int.le_trans (Int.mul_le_mul_of_nonneg_right (R.down h).2 hc) h1⟩
  have upw : (up != neg) = true → r.kind ≠ 0 ∧ (r.kind = 2 ∨ T ≤ r.W * c) := by
    intro h
    refine ⟨(R.up h).1, ?_⟩
    rcases (R.up h).2 with k | k
    · exact .inl k
    · exact .inr (Int.le_trans h2 (Int.mul_le_mul_of_nonneg_right k hc))
  have w0 : r.kind = 0 → r.W = 0 := fun h => by unfold Num.W; rw [if_pos h]
  have n0 : ∀ b, r.kind ≠ 2 → r ≠ Num.inf b := fun b h g => h (by rw [g]; rfl)
  refine ⟨R.may, R.ok, ?_, ?_⟩
  · intro hu
    subst hu
    cases neg
    · obtain ⟨d1, d2⟩ := down rfl
      refine ⟨n0 _ d1, .inr ?_⟩
      rw [hv]
      rcases R.neg with h | h
      · rw [w0 h]; simp; exact hT
      · rw [h]; simpa using d2
    · obtain ⟨d1, d2⟩ := upw rfl
      have hn : r.neg = true := by rcases R.neg with h | h <;> simp_all
      refine ⟨fun g => by rw [g] at hn; simp [Num.inf] at hn, ?_⟩
      rcases d2 with d2 | d2
      · left; rw [Num.inf_of R.may R.ok d2, hn]
      · right; rw [hv, hn]; simp; exact d2
  · intro hu
    subst hu
    cases neg
    · obtain ⟨d1, d2⟩ := upw rfl
      have hn : r.neg = false := by rcases R.neg with h | h <;> simp_all
      refine ⟨fun g => by rw [g] at hn; simp [Num.inf] at hn, ?_⟩
      rcases d2 with d2 | d2
      · left; rw [Num.inf_of R.may R.ok d2, hn]
      · right; rw [hv, hn]; simpa using d2
    · obtain ⟨d1, d2⟩ := down rfl
      refine ⟨n0 _ d1, .inr ?_⟩
      rw [hv]
      rcases R.neg with h | h
      · rw [w0 h]; simp; exact hT
      · rw [h]; simpa using d2

theorem Num.Fin.val_mul {a b : Num} : a.val * b.val = if (a.neg != b.neg) then -(a.W * b.W) else a.W * b.W := by
  unfold Num.val
  cases a.neg <;> cases b.neg <;> simp [Int.neg_mul, Int.mul_neg]

/-- the product, rounded -/
theorem mulF_side {a b : Num} (ha : a.Fin) (hb : b.Fin) (up : Bool) : Side (Num.mulF a b up) up (a.val * b.val) (pw 0) := by
  rw [Num.Fin.val_mul]
  have := ha.lo; have := ha.hi; have := ha.elo; have := ha.ehi
  have := hb.lo; have := hb.hi; have := hb.elo; have := hb.ehi
  have m1 : 9223372036854775808 * 9223372036854775808 ≤ a.m * b.m := Int.mul_le_mul ha.lo hb.lo (by decide) (by omega)
  have m2 : a.m * b.m ≤ 18446744073709551615 * 18446744073709551615 := Int.mul_le_mul (by omega) (by omega) (by omega) (by decide)
  have eW : a.W * b.W = a.m * b.m * pw (a.e + b.e) * pw 0 := by
    rw [ha.W, hb.W]
    have e := pw_mul (e := a.e) (f := b.e) (by omega) (by omega) (by omega)
    have e1 : a.m * pw a.e * (b.m * pw b.e) = a.m * b.m * (pw a.e * pw b.e) := by grind
    rw [e1, e]; grind
  have p := pw_pos (a.e + b.e)
  have p0 := pw_pos 0
  have hT : 0 ≤ a.W * b.W := Int.mul_nonneg (Int.le_of_lt ha.lt.1) (Int.le_of_lt hb.lt.1)
  unfold Num.mulF
  rw [eW] at hT ⊢
  generalize a.m * b.m = p' at *
  split
  · rename_i h
    have R := grow_rnd (neg := a.neg != b.neg) (cut := decide (p' % 9223372036854775808 ≠ 0)) (away := up != (a.neg != b.neg)) (m := p' / 9223372036854775808) (e := a.e + b.e + 63) (by omega) (by omega) (by omega) (by omega)
    refine R.side ?_ ?_ hT (Int.le_of_lt p0)
    · refine Int.mul_le_mul_of_nonneg_right ?_ (Int.le_of_lt p0)
      rw [pw_63 (by omega)]
      have : p' / 9223372036854775808 * (pw (a.e + b.e) * 9223372036854775808) = p' / 9223372036854775808 * 9223372036854775808 * pw (a.e + b.e) := by grind
      rw [this]
      exact Int.mul_le_mul_of_nonneg_right (by omega) (by omega)
    · refine Int.mul_le_mul_of_nonneg_right ?_ (Int.le_of_lt p0)
      rw [pw_63 (by omega)]
      have : ∀ q : Int, q * (pw (a.e + b.e) * 9223372036854775808) = q * 9223372036854775808 * pw (a.e + b.e) := fun q => by grind
      rw [this]
      refine Int.mul_le_mul_of_nonneg_right ?_ (by omega)
      split
      · omega
      · rename_i h; simp only [decide_eq_true_eq] at h; omega
  · rename_i h
    have R := grow_rnd (neg := a.neg != b.neg) (cut := decide (p' % 18446744073709551616 ≠ 0)) (away := up != (a.neg != b.neg)) (m := p' / 18446744073709551616) (e := a.e + b.e + 64) (by omega) (by omega) (by omega) (by omega)
    refine R.side ?_ ?_ hT (Int.le_of_lt p0)
    · refine Int.mul_le_mul_of_nonneg_right ?_ (Int.le_of_lt p0)
      rw [pw_64 (by omega)]
      have : p' / 18446744073709551616 * (pw (a.e + b.e) * 18446744073709551616) = p' / 18446744073709551616 * 18446744073709551616 * pw (a.e + b.e) := by grind
      rw [this]
      exact Int.mul_le_mul_of_nonneg_right (by omega) (by omega)
    · refine Int.mul_le_mul_of_nonneg_right ?_ (Int.le_of_lt p0)
      rw [pw_64 (by omega)]
      have : ∀ q : Int, q * (pw (a.e + b.e) * 18446744073709551616) = q * 18446744073709551616 * pw (a.e + b.e) := fun q => by grind
      rw [this]
      refine Int.mul_le_mul_of_nonneg_right ?_ (by omega)
      split
      · omega
      · rename_i h; simp only [decide_eq_true_eq] at h; omega
end Go.Proofs.Ytaiillbjhdoikaa.Ev

/- The quotient of two numbers; products and quotients of intervals hold what they ought to: plain Lean. -/
namespace Go.Proofs.Ytaiillbjhdoikaa.Ev
open Go

def Num.divF (a b : Num) (up : Bool) : Num :=
  if b.m ≤ a.m then Num.grow (a.neg != b.neg) (a.m * 9223372036854775808 / b.m) (a.e - b.e - 63) (decide (a.m * 9223372036854775808 % b.m ≠ 0)) (up != (a.neg != b.neg))
  else Num.grow (a.neg != b.neg) (a.m * 18446744073709551616 / b.m) (a.e - b.e - 64) (decide (a.m * 18446744073709551616 % b.m ≠ 0)) (up != (a.neg != b.neg))
def Num.div (a b : Num) (up : Bool) : Num :=
  if b.fair.kind = 0 then Num.inf (!up) else if a.fair.kind = 0 ∨ b.fair.kind = 2 then Num.zero else if a.fair.kind = 2 then Num.inf (a.fair.neg != b.fair.neg) else Num.divF a.fair b.fair up

def Iv.corners (F : Num → Num → Bool → Num) (a b : Iv) : Iv :=
  Iv.make (Num.least [F a.lo b.lo false, F a.lo b.hi false, F a.hi b.lo false, F a.hi b.hi false]) (Num.most [F a.lo b.lo true, F a.lo b.hi true, F a.hi b.lo true, F a.hi b.hi true])
def Iv.mul (a b : Iv) : Iv := if Iv.anyBad [a, b] then Iv.none else Iv.corners Num.mul a b

def Iv.half (near fin : Num) : Iv :=
  if near.sign = fin.sign then Iv.make (Num.div near fin false) (Num.inf false) else Iv.make (Num.inf true) (Num.div near fin true)
def Iv.div (a b : Iv) : Iv :=
  if Iv.anyBad [a, b] ∨ (b.lo.sign = 0 ∧ b.hi.sign = 0) then Iv.none
  else if 0 < b.lo.sign ∨ b.hi.sign < 0 then Iv.corners Num.div a b
  else if (b.lo.sign < 0 ∧ 0 < b.hi.sign) ∨ Iv.has a Num.zero then Iv.all
  else Iv.half (if a.lo.sign < 0 then a.hi else a.lo) (if b.hi.sign = 0 then b.lo else b.hi)

theorem divF_side {a b : Num} (ha : a.Fin) (hb : b.Fin) (up : Bool) : Side (Num.divF a b up) up (if (a.neg != b.neg) then -(a.W * pw 0) else a.W * pw 0) b.W := by
  have := ha.lo; have := ha.hi; have := ha.elo; have := ha.ehi
  have := hb.lo; have := hb.hi; have := hb.elo; have := hb.ehi
  have p0 := pw_pos 0
  have hT : 0 ≤ a.W * pw 0 := Int.mul_nonneg (Int.le_of_lt ha.lt.1) (Int.le_of_lt p0)
  have hb0 : 0 < b.m := by omega
  unfold Num.divF
  split
  · rename_i h
    have e1 := Int.mul_ediv_add_emod (a.m * 9223372036854775808) b.m
    have e2 := Int.emod_nonneg (a.m * 9223372036854775808) (show b.m ≠ 0 by omega)
    have e3 := Int.emod_lt_of_pos (a.m * 9223372036854775808) hb0
    generalize hq : a.m * 9223372036854775808 / b.m = q at *
    generalize hr : a.m * 9223372036854775808 % b.m = r at *
    have q1 : 9223372036854775808 ≤ q := by
      rcases Int.lt_or_le q 9223372036854775808 with g | g
      · exfalso
        have : b.m * q ≤ b.m * 9223372036854775807 := Int.mul_le_mul_of_nonneg_left (by omega) (by omega)
        omega
      · exact g
    have q2 : q < 18446744073709551616 := by
      rcases Int.lt_or_le q 18446744073709551616 with g | g
      · exact g
      · exfalso
        have : b.m * 18446744073709551616 ≤ b.m * q := Int.mul_le_mul_of_nonneg_left g (by omega)
        omega
    have R := grow_rnd (neg := a.neg != b.neg) (cut := decide (r ≠ 0)) (away := up != (a.neg != b.neg)) (m := q) (e := a.e - b.e - 63) q1 q2 (by omega) (by omega)
    have E : ∀ k : Int, k * pw (a.e - b.e - 63) * b.W = (b.m * k) * (pw (a.e - 63) * pw 0) := by
      intro k
      rw [hb.W]
      have e := pw_mul (e := b.e) (f := a.e - b.e - 63) (by omega) (by omega) (by omega)
      rw [show b.e + (a.e - b.e - 63) = a.e - 63 by omega] at e
      have e' : k * pw (a.e - b.e - 63) * (b.m * pw b.e) = b.m * k * (pw b.e * pw (a.e - b.e - 63)) := by grind
      rw [e', e]; grind
    have ET : a.W * pw 0 = (a.m * 9223372036854775808) * (pw (a.e - 63) * pw 0) := by
      rw [ha.W]
      have e := pw_63 (e := a.e - 63) (by omega)
      rw [show a.e - 63 + 63 = a.e by omega] at e
      rw [e]; grind
    have pp : 0 ≤ pw (a.e - 63) * pw 0 := Int.le_of_lt (Int.mul_pos (pw_pos _) p0)
    refine R.side ?_ ?_ hT (Int.le_of_lt hb.lt.1)
    · rw [E, ET]; exact Int.mul_le_mul_of_nonneg_right (by omega) pp
    · rw [E, ET]
      refine Int.mul_le_mul_of_nonneg_right ?_ pp
      split
      · have : b.m * (q + 1) = b.m * q + b.m := by grind
        omega
      · rename_i h; simp only [decide_eq_true_eq] at h; omega
  · rename_i h
    have e1 := Int.mul_ediv_add_emod (a.m * 18446744073709551616) b.m
    have e2 := Int.emod_nonneg (a.m * 18446744073709551616) (show b.m ≠ 0 by omega)
    have e3 := Int.emod_lt_of_pos (a.m * 18446744073709551616) hb0
    generalize hq : a.m * 18446744073709551616 / b.m = q at *
    generalize hr : a.m * 18446744073709551616 % b.m = r at *
    have q1 : 9223372036854775808 ≤ q := by
      rcases Int.lt_or_le q 9223372036854775808 with g | g
      · exfalso
        have : b.m * q ≤ b.m * 9223372036854775807 := Int.mul_le_mul_of_nonneg_left (by omega) (by omega)
        omega
      · exact g
    have q2 : q < 18446744073709551616 := by
      rcases Int.lt_or_le q 18446744073709551616 with g | g
      · exact g
      · exfalso
        have : b.m * 18446744073709551616 ≤ b.m * q := Int.mul_le_mul_of_nonneg_left g (by omega)
        omega
    have R := grow_rnd (neg := a.neg != b.neg) (cut := decide (r ≠ 0)) (away := up != (a.neg != b.neg)) (m := q) (e := a.e - b.e - 64) q1 q2 (by omega) (by omega)
    have E : ∀ k : Int, k * pw (a.e - b.e - 64) * b.W = (b.m * k) * (pw (a.e - 64) * pw 0) := by
      intro k
      rw [hb.W]
      have e := pw_mul (e := b.e) (f := a.e - b.e - 64) (by omega) (by omega) (by omega)
      rw [show b.e + (a.e - b.e - 64) = a.e - 64 by omega] at e
      have e' : k * pw (a.e - b.e - 64) * (b.m * pw b.e) = b.m * k * (pw b.e * pw (a.e - b.e - 64)) := by grind
      rw [e', e]; grind
    have ET : a.W * pw 0 = (a.m * 18446744073709551616) * (pw (a.e - 64) * pw 0) := by
      rw [ha.W]
      have e := pw_64 (e := a.e - 64) (by omega)
      rw [show a.e - 64 + 64 = a.e by omega] at e
      rw [e]; grind
    have pp : 0 ≤ pw (a.e - 64) * pw 0 := Int.le_of_lt (Int.mul_pos (pw_pos _) p0)
    refine R.side ?_ ?_ hT (Int.le_of_lt hb.lt.1)
    · rw [E, ET]; exact Int.mul_le_mul_of_nonneg_right (by omega) pp
    · rw [E, ET]
      refine Int.mul_le_mul_of_nonneg_right ?_ pp
      split
      · have : b.m * (q + 1) = b.m * q + b.m := by grind
        omega
      · rename_i h; simp only [decide_eq_true_eq] at h; omega

theorem zero_side (up : Bool) (c : Int) : Side Num.zero up 0 c :=
  ⟨Num.zero_may, Num.zero_ok, fun _ => ⟨by decide, .inr (by rw [Num.val_zero]; simp)⟩, fun _ => ⟨by decide, .inr (by rw [Num.val_zero]; simp)⟩⟩

/-- the product of two that are finite -/
theorem mul_side {a b : Num} (ma : a.may = true) (mb : b.may = true) (oa : a.ok) (ob : b.ok) (ka : a.kind ≠ 2) (kb : b.kind ≠ 2) (up : Bool) : Side (Num.mul a b up) up (a.val * b.val) (pw 0) := by
  unfold Num.mul
  rw [Num.fair_of_may ma, Num.fair_of_may mb]
  rcases Num.may3 ma oa with h | h | h
  · rw [if_pos (.inl (by rw [h]; rfl)), h, Num.val_zero, Int.zero_mul]; exact zero_side _ _
  · rcases Num.may3 mb ob with k | k | k
    · rw [if_pos (.inr (by rw [k]; rfl)), k, Num.val_zero, Int.mul_zero]; exact zero_side _ _
    · rw [if_neg (by rw [h.kind, k.kind]; decide), if_neg (by rw [h.kind, k.kind]; decide)]
      exact mulF_side h k up
    · rw [k] at kb; exact absurd rfl kb
  · rw [h] at ka; exact absurd rfl ka

theorem div_core {a b : Num} (ma : a.may = true) (mb : b.may = true) (oa : a.ok) (ob : b.ok) (hb : b.val ≠ 0) (up : Bool) :
    (b.kind = 2 ∧ Num.div a b up = Num.zero) ∨ (b.Fin ∧ a.kind = 2 ∧ Num.div a b up = Num.inf (a.neg != b.neg)) ∨
      (b.Fin ∧ a.kind ≠ 2 ∧ Side (Num.div a b up) up (if b.neg then -(a.val * pw 0) else a.val * pw 0) b.W) := by
  unfold Num.div
  rw [Num.fair_of_may ma, Num.fair_of_may mb]
  rcases Num.may3 mb ob with k | k | k
  · rw [k] at hb; exact absurd rfl hb
  · right
    rw [if_neg (by rw [k.kind]; decide)]
    rcases Num.may3 ma oa with h | h | h
    · right
      refine ⟨k, by rw [h]; decide, ?_⟩
      rw [if_pos (.inl (by rw [h]; rfl)), h, Num.val_zero]
      have : (if b.neg = true then -(0 * pw 0) else 0 * pw 0) = 0 := by split <;> simp
      rw [this]; exact zero_side _ _
    · right
      refine ⟨k, by rw [h.kind]; decide, ?_⟩
      rw [if_neg (by rw [h.kind, k.kind]; decide), if_neg (by rw [h.kind]; decide)]
      have e : (if b.neg = true then -(a.val * pw 0) else a.val * pw 0) = if (a.neg != b.neg) then -(a.W * pw 0) else a.W * pw 0 := by
        unfold Num.val; cases a.neg <;> cases b.neg <;> simp [Int.neg_mul]
      rw [e]
      exact divF_side h k up
    · left
      have ha : a.kind = 2 := by rw [h]; rfl
      refine ⟨k, ha, ?_⟩
      rw [if_neg (by rw [ha, k.kind]; decide), if_pos ha]
  · left
    have hk : b.kind = 2 := by rw [k]; rfl
    exact ⟨hk, by rw [if_neg (by rw [hk]; decide), if_pos (.inr hk)]⟩

theorem div_may {a b : Num} (ma : a.may = true) (mb : b.may = true) (oa : a.ok) (ob : b.ok) (hb : b.val ≠ 0) (up : Bool) : (Num.div a b up).may = true ∧ (Num.div a b up).ok := by
  rcases div_core ma mb oa ob hb up with h | h | h
  · rw [h.2]; exact ⟨Num.zero_may, Num.zero_ok⟩
  · rw [h.2.2]; exact ⟨Num.inf_may _, Num.inf_ok _⟩
  · exact ⟨h.2.2.may, h.2.2.ok⟩

/-- the quotient to below is not above v, which is v * w / w -/
theorem div_dn {a b : Num} {v w : Int} (ma : a.may = true) (mb : b.may = true) (oa : a.ok) (ob : b.ok) (hb : b.val ≠ 0) (hw : 0 < w) (hw' : w < pw 1048640) (hv : -pw 1048640 ≤ v)
    (hA : (a.kind = 2 ∧ a.neg ≠ b.neg) ∨ (a.kind ≠ 2 ∧ (if b.neg then -(a.val * pw 0) else a.val * pw 0) ≤ v * w))
    (h : (0 ≤ v ∧ w ≤ b.W) ∨ (v ≤ 0 ∧ b.W ≤ w)) : (Num.div a b false).val ≤ v := by
  rcases div_core ma mb oa ob hb false with ⟨k1, k2⟩ | ⟨k1, k2, k3⟩ | ⟨k1, k2, k3⟩
  · rw [k2, Num.val_zero]
    rcases h with h | h
    · exact h.1
    · have : b.W = pw 1048640 := by unfold Num.W; rw [k1]; rfl
      omega
  · rcases hA with hA | hA
    · rw [k3, Num.val_inf]
      have : (a.neg != b.neg) = true := by simpa using hA.2
      rw [this]; simpa using hv
    · exact absurd k2 hA.1
  · rcases hA with hA | hA
    · exact absurd hA.1 k2
    · rcases (k3.down rfl).2 with g | g
      · rw [g, Num.val_inf]; simpa using hv
      · have e1 : v * w ≤ v * b.W := by
          rcases h with h | h
          · exact Int.mul_le_mul_of_nonneg_left h.2 h.1
          · have := Int.mul_le_mul_of_nonneg_left h.2 (show 0 ≤ -v by omega)
            rw [Int.neg_mul, Int.neg_mul] at this; omega
        have := Int.le_trans g (Int.le_trans hA.2 e1)
        exact Int.le_of_mul_le_mul_right this k1.lt.1

theorem div_up {a b : Num} {v w : Int} (ma : a.may = true) (mb : b.may = true) (oa : a.ok) (ob : b.ok) (hb : b.val ≠ 0) (hw : 0 < w) (hw' : w < pw 1048640) (hv : v ≤ pw 1048640)
    (hA : (a.kind = 2 ∧ a.neg = b.neg) ∨ (a.kind ≠ 2 ∧ v * w ≤ (if b.neg then -(a.val * pw 0) else a.val * pw 0)))
    (h : (0 ≤ v ∧ b.W ≤ w) ∨ (v ≤ 0 ∧ w ≤ b.W)) : v ≤ (Num.div a b true).val := by
  rcases div_core ma mb oa ob hb true with ⟨k1, k2⟩ | ⟨k1, k2, k3⟩ | ⟨k1, k2, k3⟩
  · rw [k2, Num.val_zero]
    rcases h with h | h
    · have : b.W = pw 1048640 := by unfold Num.W; rw [k1]; rfl
      omega
    · exact h.1
  · rcases hA with hA | hA
    · rw [k3, Num.val_inf, hA.2]; simpa using hv
    · exact absurd k2 hA.1
  · rcases hA with hA | hA
    · exact absurd hA.1 k2
    · rcases (k3.up rfl).2 with g | g
      · rw [g, Num.val_inf]; simpa using hv
      · have e1 : v * b.W ≤ v * w := by
          rcases h with h | h
          · exact Int.mul_le_mul_of_nonneg_left h.2 h.1
          · have := Int.mul_le_mul_of_nonneg_left h.2 (show 0 ≤ -v by omega)
            rw [Int.neg_mul, Int.neg_mul] at this; omega
        have := Int.le_trans e1 (Int.le_trans hA.2 g)
        exact Int.le_of_mul_le_mul_right this k1.lt.1

/-- v is between what four corners make, if it is not below one to below and not above one to above -/
theorem corners_has {F : Num → Num → Bool → Num} {a b : Iv} {v : Int} (hF : ∀ x ∈ [a.lo, a.hi], ∀ y ∈ [b.lo, b.hi], ∀ up, (F x y up).may = true ∧ (F x y up).ok) (h1 : -pw 1048640 < v) (h2 : v < pw 1048640)
    (hd : ∃ x ∈ [a.lo, a.hi], ∃ y ∈ [b.lo, b.hi], (F x y false).val ≤ v) (hu : ∃ x ∈ [a.lo, a.hi], ∃ y ∈ [b.lo, b.hi], v ≤ (F x y true).val) :
    (Iv.corners F a b).Real ∧ (Iv.corners F a b).lo.val ≤ v ∧ v ≤ (Iv.corners F a b).hi.val := by
  have all : ∀ up, ∀ x ∈ [F a.lo b.lo up, F a.lo b.hi up, F a.hi b.lo up, F a.hi b.hi up], x.may = true ∧ x.ok := by
    intro up x hx
    simp only [List.mem_cons, List.not_mem_nil, or_false] at hx
    rcases hx with rfl | rfl | rfl | rfl <;> exact hF _ (by simp) _ (by simp) up
  have inl : ∀ up, ∀ x ∈ [a.lo, a.hi], ∀ y ∈ [b.lo, b.hi], F x y up ∈ [F a.lo b.lo up, F a.lo b.hi up, F a.hi b.lo up, F a.hi b.hi up] := by
    intro up x hx y hy
    simp only [List.mem_cons, List.not_mem_nil, or_false] at hx hy ⊢
    rcases hx with rfl | rfl <;> rcases hy with rfl | rfl <;> simp
  obtain ⟨l1, l2, l3, _⟩ := Num.least_spec _ (fun x hx => (all false x hx).2)
  obtain ⟨m1, m2, m3, _⟩ := Num.most_spec _ (fun x hx => (all true x hx).2)
  unfold Iv.corners
  obtain ⟨x, hx, y, hy, hd⟩ := hd
  obtain ⟨x', hx', y', hy', hu⟩ := hu
  have d := l3 _ (inl false x hx y hy)
  rw [Num.fair_of_may (hF x hx y hy false).1] at d
  have u := m3 _ (inl true x' hx' y' hy')
  rw [Num.fair_of_may (hF x' hx' y' hy' true).1] at u
  generalize Num.least _ = L at *
  generalize Num.most _ = M at *
  have R : (Iv.mk false L.fair M.fair).Real := by
    rw [Num.fair_of_may l1, Num.fair_of_may m1]
    exact ⟨rfl, l1, m1, l2, m2, by show L.val ≤ M.val; omega, by show L.val < _; omega, by show _ < M.val; omega⟩
  rw [Iv.make_real R]
  refine ⟨R, ?_, ?_⟩
  · show L.fair.val ≤ v; rw [Num.fair_of_may l1]; omega
  · show v ≤ M.fair.val; rw [Num.fair_of_may m1]; omega

theorem Iv.anyBad2 {a b : Iv} (ha : a.Real) (hb : b.Real) : Iv.anyBad [a, b] = false := by
  simp [Iv.anyBad, ha.good, hb.good]

theorem Iv.has_iff {x : Iv} {n : Num} (hn : n.ok) (o1 : x.lo.ok) (o2 : x.hi.ok) :
    Iv.has x n = true ↔ (n.fair.kind ≠ 2 ∧ x.Real ∧ x.lo.val ≤ n.fair.val ∧ n.fair.val ≤ x.hi.val) := by
  have mn := n.fair_may
  have on := Num.fair_ok hn
  have fv := Num.fin_val mn on
  unfold Iv.has Iv.point
  rcases Iv.make_cases hn hn with ⟨e, h⟩ | ⟨e, h⟩
  · rw [e]
    constructor
    · intro g; simp [Iv.none] at g
    · rintro ⟨k, _⟩
      have k' := fv.1 k
      exact absurd ⟨rfl, mn, mn, on, on, Int.le_refl _, k'.2, k'.1⟩ h
  · rw [e]
    have k : n.fair.kind ≠ 2 := fv.2 ⟨h.gt, h.lt⟩
    unfold Iv.within
    rw [h.fair]
    by_cases hx : x.Real
    · rw [hx.fair]
      simp only [hx.some, Bool.not_false, Bool.true_and, Bool.false_or, Bool.and_eq_true, decide_eq_true_eq]
      rw [Num.cmp_le hx.loo on, Num.cmp_le on hx.hio, Num.fair_of_may hx.lom, Num.fair_of_may hx.him, Num.fair_fair]
      exact ⟨fun g => ⟨k, hx, g⟩, fun g => g.2.2⟩
    · constructor
      · intro g
        exfalso
        apply hx
        have hm : x.may = true := by
          cases hh : x.may
          · rw [show x.fair = Iv.none by unfold Iv.fair; rw [if_neg (by simp [hh])]] at g
            simp [Iv.none] at g
          · rfl
        have he : x.empty = false := by
          cases hh : x.empty
          · rfl
          · rw [show x.fair = Iv.none by rw [Iv.empty_may hm hh]; rfl] at g
            simp [Iv.none] at g
        exact Iv.real_of hm he o1 o2
      · exact fun g => absurd g.2.1 hx

theorem Num.val_pos {n : Num} (m : n.may = true) (o : n.ok) : (0 < n.val → n.neg = false ∧ n.W = n.val ∧ n.sign = 1) ∧ (n.val < 0 → n.neg = true ∧ n.W = -n.val ∧ n.sign = -1) ∧ (n.val = 0 → n.sign = 0 ∧ n = Num.zero) := by
  rcases Num.sign_of m o with h | h | h
  · refine ⟨fun g => by omega, fun g => by omega, fun _ => ⟨h.1, h.2.2.2⟩⟩
  · refine ⟨fun g => ⟨h.2.2.2.1, by omega, h.1⟩, fun g => by omega, fun g => by omega⟩
  · refine ⟨fun g => by omega, fun g => ⟨h.2.2.2.1, by omega, h.1⟩, fun g => by omega⟩

theorem Num.inf_val {n : Num} (m : n.may = true) (o : n.ok) (k : n.kind = 2) : (n.neg = true ∧ n.val = -pw 1048640) ∨ (n.neg = false ∧ n.val = pw 1048640) := by
  have e := Num.inf_of m o k
  cases hn : n.neg
  · right; rw [e, hn]; exact ⟨rfl, rfl⟩
  · left; rw [e, hn]; exact ⟨rfl, rfl⟩

/-- what may be below, and above, an exact number -/
def Num.below (n : Num) (x : Int) : Prop := n = Num.inf true ∨ (n.kind ≠ 2 ∧ n.val * pw 0 ≤ x)
def Num.above (n : Num) (x : Int) : Prop := n = Num.inf false ∨ (n.kind ≠ 2 ∧ x ≤ n.val * pw 0)

theorem Num.below_neg {n : Num} {x : Int} (h : n.below x) (g : n.kind = 2) : n.neg = true := by
  rcases h with h | h
  · rw [h]; rfl
  · exact absurd g h.1
theorem Num.above_pos {n : Num} {x : Int} (h : n.above x) (g : n.kind = 2) : n.neg = false := by
  rcases h with h | h
  · rw [h]; rfl
  · exact absurd g h.1
theorem Num.below_le {n : Num} {x : Int} (h : n.below x) (g : n.kind ≠ 2) : n.val * pw 0 ≤ x := by
  rcases h with h | h
  · rw [h] at g; exact absurd rfl g
  · exact h.2
theorem Num.above_le {n : Num} {x : Int} (h : n.above x) (g : n.kind ≠ 2) : x ≤ n.val * pw 0 := by
  rcases h with h | h
  · rw [h] at g; exact absurd rfl g
  · exact h.2

theorem Iv.div_has {a b : Iv} {v w : Int} (ha : a.Real) (hb : b.Real) (hw : w ≠ 0) (b1 : b.lo.val ≤ w) (b2 : w ≤ b.hi.val) (w1 : -pw 1048640 < w) (w2 : w < pw 1048640)
    (v1 : -pw 1048640 < v) (v2 : v < pw 1048640) (a1 : a.lo.below (v * w)) (a2 : a.hi.above (v * w)) :
    (Iv.div a b).Real ∧ (Iv.div a b).lo.val ≤ v ∧ v ≤ (Iv.div a b).hi.val := by
  have pl := Num.val_pos hb.lom hb.loo
  have ph := Num.val_pos hb.him hb.hio
  have ql := Num.val_pos ha.lom ha.loo
  have qh := Num.val_pos ha.him ha.hio
  have P := pw_pos 1048640
  have kl := hb.lt
  have kh := hb.gt
  have em : (-v) * (-w) = v * w := by rw [Int.neg_mul_neg]
  have em2 : v * (-w) = -(v * w) := by rw [Int.mul_neg]
  unfold Iv.div
  rw [Iv.anyBad2 ha hb]
  rw [if_neg (by
    rintro (h | ⟨h, h'⟩)
    · cases h
    · have e1 : b.lo.val = 0 := by
        rcases Int.lt_trichotomy b.lo.val 0 with g | g | g
        · have := (pl.2.1 g).2.2; omega
        · exact g
        · have := (pl.1 g).2.2; omega
      have e2 : b.hi.val = 0 := by
        rcases Int.lt_trichotomy b.hi.val 0 with g | g | g
        · have := (ph.2.1 g).2.2; omega
        · exact g
        · have := (ph.1 g).2.2; omega
      omega)]
  by_cases c1 : 0 < b.lo.val
  · rw [if_pos (.inl (by rw [(pl.1 c1).2.2]; decide))]
    have c2 : 0 < b.hi.val := by omega
    have hw0 : 0 < w := by omega
    obtain ⟨l1, l2, l3⟩ := pl.1 c1
    obtain ⟨h1, h2, h3⟩ := ph.1 c2
    refine corners_has ?_ v1 v2 ?_ ?_
    · intro x hx y hy up
      simp only [List.mem_cons, List.not_mem_nil, or_false] at hx hy
      rcases hx with rfl | rfl <;> rcases hy with rfl | rfl <;> first | exact div_may ha.lom hb.lom ha.loo hb.loo (by omega) up | exact div_may ha.lom hb.him ha.loo hb.hio (by omega) up | exact div_may ha.him hb.lom ha.hio hb.loo (by omega) up | exact div_may ha.him hb.him ha.hio hb.hio (by omega) up
    · have hA : ∀ y : Num, y.neg = false → (a.lo.kind = 2 ∧ a.lo.neg ≠ y.neg) ∨ (a.lo.kind ≠ 2 ∧ (if y.neg then -(a.lo.val * pw 0) else a.lo.val * pw 0) ≤ v * w) := by
        intro y hy
        by_cases g : a.lo.kind = 2
        · exact .inl ⟨g, by rw [Num.below_neg a1 g, hy]; decide⟩
        · exact .inr ⟨g, by rw [hy]; exact Num.below_le a1 g⟩
      by_cases hv : 0 ≤ v
      · exact ⟨a.lo, by simp, b.hi, by simp, div_dn ha.lom hb.him ha.loo hb.hio (by omega) hw0 w2 (by omega) (hA _ h1) (.inl ⟨hv, by omega⟩)⟩
      · exact ⟨a.lo, by simp, b.lo, by simp, div_dn ha.lom hb.lom ha.loo hb.loo (by omega) hw0 w2 (by omega) (hA _ l1) (.inr ⟨by omega, by omega⟩)⟩
    · have hA : ∀ y : Num, y.neg = false → (a.hi.kind = 2 ∧ a.hi.neg = y.neg) ∨ (a.hi.kind ≠ 2 ∧ v * w ≤ (if y.neg then -(a.hi.val * pw 0) else a.hi.val * pw 0)) := by
        intro y hy
        by_cases g : a.hi.kind = 2
        · exact .inl ⟨g, by rw [Num.above_pos a2 g, hy]⟩
        · exact .inr ⟨g, by rw [hy]; exact Num.above_le a2 g⟩
      by_cases hv : 0 ≤ v
      · exact ⟨a.hi, by simp, b.lo, by simp, div_up ha.him hb.lom ha.hio hb.loo (by omega) hw0 w2 (by omega) (hA _ l1) (.inl ⟨hv, by omega⟩)⟩
      · exact ⟨a.hi, by simp, b.hi, by simp, div_up ha.him hb.him ha.hio hb.hio (by omega) hw0 w2 (by omega) (hA _ h1) (.inr ⟨by omega, by omega⟩)⟩
  by_cases c2 : b.hi.val < 0
  · rw [if_pos (.inr (by rw [(ph.2.1 c2).2.2]; decide))]
    have c3 : b.lo.val < 0 := by omega
    have hw0 : 0 < -w := by omega
    obtain ⟨l1, l2, l3⟩ := pl.2.1 c3
    obtain ⟨h1, h2, h3⟩ := ph.2.1 c2
    refine corners_has ?_ v1 v2 ?_ ?_
    · intro x hx y hy up
      simp only [List.mem_cons, List.not_mem_nil, or_false] at hx hy
      rcases hx with rfl | rfl <;> rcases hy with rfl | rfl <;> first | exact div_may ha.lom hb.lom ha.loo hb.loo (by omega) up | exact div_may ha.lom hb.him ha.loo hb.hio (by omega) up | exact div_may ha.him hb.lom ha.hio hb.loo (by omega) up | exact div_may ha.him hb.him ha.hio hb.hio (by omega) up
    · have hA : ∀ y : Num, y.neg = true → (a.hi.kind = 2 ∧ a.hi.neg ≠ y.neg) ∨ (a.hi.kind ≠ 2 ∧ (if y.neg then -(a.hi.val * pw 0) else a.hi.val * pw 0) ≤ v * (-w)) := by
        intro y hy
        by_cases g : a.hi.kind = 2
        · exact .inl ⟨g, by rw [Num.above_pos a2 g, hy]; decide⟩
        · exact .inr ⟨g, by rw [hy, em2]; have := Num.above_le a2 g; simp; omega⟩
      by_cases hv : 0 ≤ v
      · exact ⟨a.hi, by simp, b.lo, by simp, div_dn ha.him hb.lom ha.hio hb.loo (by omega) hw0 (by omega) (by omega) (hA _ l1) (.inl ⟨hv, by omega⟩)⟩
      · exact ⟨a.hi, by simp, b.hi, by simp, div_dn ha.him hb.him ha.hio hb.hio (by omega) hw0 (by omega) (by omega) (hA _ h1) (.inr ⟨by omega, by omega⟩)⟩
    · have hA : ∀ y : Num, y.neg = true → (a.lo.kind = 2 ∧ a.lo.neg = y.neg) ∨ (a.lo.kind ≠ 2 ∧ v * (-w) ≤ (if y.neg then -(a.lo.val * pw 0) else a.lo.val * pw 0)) := by
        intro y hy
        by_cases g : a.lo.kind = 2
        · exact .inl ⟨g, by rw [Num.below_neg a1 g, hy]⟩
        · exact .inr ⟨g, by rw [hy, em2]; have := Num.below_le a1 g; simp; omega⟩
      by_cases hv : 0 ≤ v
      · exact ⟨a.lo, by simp, b.hi, by simp, div_up ha.lom hb.him ha.loo hb.hio (by omega) hw0 (by omega) (by omega) (hA _ h1) (.inl ⟨hv, by omega⟩)⟩
      · exact ⟨a.lo, by simp, b.lo, by simp, div_up ha.lom hb.lom ha.loo hb.loo (by omega) hw0 (by omega) (by omega) (hA _ l1) (.inr ⟨by omega, by omega⟩)⟩
  have s1 : ¬ (0 < b.lo.sign ∨ b.hi.sign < 0) := by
    rintro (h | h)
    · rcases Int.lt_trichotomy b.lo.val 0 with g | g | g
      · have := (pl.2.1 g).2.2; omega
      · have := (pl.2.2 g).1; omega
      · exact c1 g
    · rcases Int.lt_trichotomy b.hi.val 0 with g | g | g
      · exact c2 g
      · have := (ph.2.2 g).1; omega
      · have := (ph.1 g).2.2; omega
  rw [if_neg s1]
  by_cases c3 : (b.lo.sign < 0 ∧ 0 < b.hi.sign) ∨ Iv.has a Num.zero = true
  · rw [if_pos c3]
    refine ⟨⟨rfl, Num.inf_may _, Num.inf_may _, Num.inf_ok _, Num.inf_ok _, ?_, ?_, ?_⟩, ?_, ?_⟩ <;> simp only [Iv.all, Num.val_inf] <;> simp <;> omega
  rw [if_neg c3]
  have c4 : ¬ (b.lo.sign < 0 ∧ 0 < b.hi.sign) := fun h => c3 (.inl h)
  have c5 : ¬ (a.lo.val ≤ 0 ∧ 0 ≤ a.hi.val) := fun h => c3 (.inr ((Iv.has_iff Num.zero_ok ha.loo ha.hio).2 ⟨by decide, ha, h.1, h.2⟩))
  have c6 : ¬ (b.lo.val < 0 ∧ 0 < b.hi.val) := fun h => c4 ⟨by rw [(pl.2.1 h.1).2.2]; decide, by rw [(ph.1 h.2).2.2]; decide⟩
  -- the nearest end of the dividend, the farthest one of the divisor
  have near : ∃ n, (if a.lo.sign < 0 then a.hi else a.lo) = n ∧ n.may = true ∧ n.ok ∧ n.kind ≠ 2 ∧ ((0 < n.val ∧ n.val * pw 0 ≤ v * w) ∨ (n.val < 0 ∧ v * w ≤ n.val * pw 0)) := by
    have := ha.lt; have := ha.gt; have := ha.le
    by_cases g : 0 < a.lo.val
    · have k := (Num.fin_val ha.lom ha.loo).2 ⟨by omega, by omega⟩
      exact ⟨a.lo, by rw [if_neg (by rw [(ql.1 g).2.2]; decide)], ha.lom, ha.loo, k, .inl ⟨g, Num.below_le a1 k⟩⟩
    · have g' : a.hi.val < 0 := by omega
      have k := (Num.fin_val ha.him ha.hio).2 ⟨by omega, by omega⟩
      exact ⟨a.hi, by rw [if_pos (by rw [(ql.2.1 (by omega)).2.2]; decide)], ha.him, ha.hio, k, .inr ⟨g', Num.above_le a2 k⟩⟩
  have far : ∃ f, (if b.hi.sign = 0 then b.lo else b.hi) = f ∧ f.may = true ∧ f.ok ∧ ((0 < f.val ∧ w ≤ f.val ∧ 0 < w) ∨ (f.val < 0 ∧ f.val ≤ w ∧ w < 0)) := by
    by_cases g : b.hi.val = 0
    · exact ⟨b.lo, by rw [if_pos (ph.2.2 g).1], hb.lom, hb.loo, .inr ⟨by omega, by omega, by omega⟩⟩
    · have g' : 0 < b.hi.val := by omega
      exact ⟨b.hi, by rw [if_neg (by rw [(ph.1 g').2.2]; decide)], hb.him, hb.hio, .inl ⟨by omega, by omega, by omega⟩⟩
  obtain ⟨n, en, nm, no, nk, n1⟩ := near
  obtain ⟨f, ef, fm, fo, f1⟩ := far
  rw [en, ef]
  have p0 := pw_pos 0
  have pn := Num.val_pos nm no
  have pf := Num.val_pos fm fo
  have vs : (0 < v * w → (0 < w → 0 < v) ∧ (w < 0 → v < 0)) ∧ (v * w < 0 → (0 < w → v < 0) ∧ (w < 0 → 0 < v)) := by
    refine ⟨fun h => ⟨fun g => ?_, fun g => ?_⟩, fun h => ⟨fun g => ?_, fun g => ?_⟩⟩
    · rcases Int.lt_or_le 0 v with k | k
      · exact k
      · have := Int.mul_nonneg (show 0 ≤ -v by omega) (show 0 ≤ w by omega); rw [Int.neg_mul] at this; omega
    · rcases Int.lt_or_le v 0 with k | k
      · exact k
      · have := Int.mul_nonneg k (show 0 ≤ -w by omega); rw [Int.mul_neg] at this; omega
    · rcases Int.lt_or_le v 0 with k | k
      · exact k
      · have := Int.mul_nonneg k (show 0 ≤ w by omega); omega
    · rcases Int.lt_or_le 0 v with k | k
      · exact k
      · have := Int.mul_nonneg (show 0 ≤ -v by omega) (show 0 ≤ -w by omega); rw [em] at this; omega
  have xs : (0 < n.val → 0 < v * w) ∧ (n.val < 0 → v * w < 0) := by
    constructor
    · intro g
      have := Int.mul_pos g p0
      rcases n1 with h | h <;> omega
    · intro g
      have := Int.mul_neg_of_neg_of_pos g p0
      rcases n1 with h | h <;> omega
  have fin : ∀ r : Num, r.may = true → r.ok → r.val ≤ v → (Iv.make r (Num.inf false)).Real ∧ (Iv.make r (Num.inf false)).lo.val ≤ v ∧ v ≤ (Iv.make r (Num.inf false)).hi.val := by
    intro r m o h
    have R : (Iv.mk false r.fair (Num.inf false).fair).Real := by
      rw [Num.fair_of_may m, Num.fair_of_may (Num.inf_may _)]
      refine ⟨rfl, m, Num.inf_may _, o, Num.inf_ok _, ?_, ?_, ?_⟩ <;> (try simp only [Num.val_inf]) <;> (try simp) <;> omega
    rw [Iv.make_real R]
    refine ⟨R, by show r.fair.val ≤ v; rw [Num.fair_of_may m]; exact h, ?_⟩
    show v ≤ (Num.inf false).fair.val
    rw [Num.fair_of_may (Num.inf_may _)]; show v ≤ pw 1048640; omega
  have fin' : ∀ r : Num, r.may = true → r.ok → v ≤ r.val → (Iv.make (Num.inf true) r).Real ∧ (Iv.make (Num.inf true) r).lo.val ≤ v ∧ v ≤ (Iv.make (Num.inf true) r).hi.val := by
    intro r m o h
    have R : (Iv.mk false (Num.inf true).fair r.fair).Real := by
      rw [Num.fair_of_may m, Num.fair_of_may (Num.inf_may _)]
      refine ⟨rfl, Num.inf_may _, m, Num.inf_ok _, o, ?_, ?_, ?_⟩ <;> (try simp only [Num.val_inf]) <;> (try simp) <;> omega
    rw [Iv.make_real R]
    refine ⟨R, ?_, by show v ≤ r.fair.val; rw [Num.fair_of_may m]; exact h⟩
    show (Num.inf true).fair.val ≤ v
    rw [Num.fair_of_may (Num.inf_may _)]; show -pw 1048640 ≤ v; omega
  unfold Iv.half
  rcases n1 with ⟨g1, g2⟩ | ⟨g1, g2⟩ <;> rcases f1 with ⟨k1, k2, k3⟩ | ⟨k1, k2, k3⟩
  · obtain ⟨t1, t2, t3⟩ := pn.1 g1
    obtain ⟨u1, u2, u3⟩ := pf.1 k1
    rw [if_pos (by omega)]
    have m := div_may nm fm no fo (show f.val ≠ 0 by omega) false
    have vp := (vs.1 (xs.1 g1)).1 k3
    exact fin _ m.1 m.2 (div_dn nm fm no fo (by omega) k3 w2 (by omega) (.inr ⟨nk, by rw [u1]; exact g2⟩) (.inl ⟨by omega, by omega⟩))
  · obtain ⟨t1, t2, t3⟩ := pn.1 g1
    obtain ⟨u1, u2, u3⟩ := pf.2.1 k1
    rw [if_neg (by omega)]
    have m := div_may nm fm no fo (show f.val ≠ 0 by omega) true
    have vp := (vs.1 (xs.1 g1)).2 k3
    exact fin' _ m.1 m.2 (div_up (w := -w) nm fm no fo (by omega) (by omega) (by omega) (by omega) (.inr ⟨nk, by rw [u1, em2]; simp; omega⟩) (.inr ⟨by omega, by omega⟩))
  · obtain ⟨t1, t2, t3⟩ := pn.2.1 g1
    obtain ⟨u1, u2, u3⟩ := pf.1 k1
    rw [if_neg (by omega)]
    have m := div_may nm fm no fo (show f.val ≠ 0 by omega) true
    have vp := (vs.2 (xs.2 g1)).1 k3
    exact fin' _ m.1 m.2 (div_up nm fm no fo (by omega) k3 w2 (by omega) (.inr ⟨nk, by rw [u1]; exact g2⟩) (.inr ⟨by omega, by omega⟩))
  · obtain ⟨t1, t2, t3⟩ := pn.2.1 g1
    obtain ⟨u1, u2, u3⟩ := pf.2.1 k1
    rw [if_pos (by omega)]
    have m := div_may nm fm no fo (show f.val ≠ 0 by omega) false
    have vp := (vs.2 (xs.2 g1)).2 k3
    exact fin _ m.1 m.2 (div_dn (w := -w) nm fm no fo (by omega) (by omega) (by omega) (by omega) (.inr ⟨nk, by rw [u1, em2]; simp; omega⟩) (.inl ⟨by omega, by omega⟩))

theorem Iv.point_real {n : Num} (m : n.may = true) (o : n.ok) (k : n.kind ≠ 2) : Iv.point n = ⟨false, n, n⟩ ∧ (Iv.mk false n n).Real := by
  have k' := (Num.fin_val m o).1 k
  have R : (Iv.mk false n n).Real := ⟨rfl, m, m, o, o, Int.le_refl _, k'.2, k'.1⟩
  refine ⟨?_, R⟩
  unfold Iv.point
  rw [Iv.make_real (by rw [Num.fair_of_may m]; exact R), Num.fair_of_may m]

theorem Iv.mul_points {y z : Num} (my : y.may = true) (mz : z.may = true) (oy : y.ok) (oz : z.ok) (ky : y.kind ≠ 2) (kz : z.kind ≠ 2) :
    (Iv.mul (Iv.point y) (Iv.point z)).Real ∧ (Iv.mul (Iv.point y) (Iv.point z)).lo.below (y.val * z.val) ∧ (Iv.mul (Iv.point y) (Iv.point z)).hi.above (y.val * z.val) := by
  obtain ⟨ey, ry⟩ := Iv.point_real my oy ky
  obtain ⟨ez, rz⟩ := Iv.point_real mz oz kz
  rw [ey, ez]
  unfold Iv.mul
  rw [Iv.anyBad2 ry rz, if_neg (by decide)]
  unfold Iv.corners
  dsimp only
  have d := mul_side my mz oy oz ky kz false
  have u := mul_side my mz oy oz ky kz true
  generalize Num.mul y z false = p at *
  generalize Num.mul y z true = q at *
  obtain ⟨d1, d2⟩ := d.down rfl
  obtain ⟨u1, u2⟩ := u.up rfl
  have p0 := pw_pos 0
  have P := pw_pos 1048640
  obtain ⟨l1, l2, l3, l4⟩ := Num.least_spec [p, p, p, p] (by simp [d.ok])
  obtain ⟨m1, m2, m3, m4⟩ := Num.most_spec [q, q, q, q] (by simp [u.ok])
  have dv := (Num.ne_inf d.may d.ok).1.1 d1
  have uv := (Num.ne_inf u.may u.ok).2.1 u1
  have el : Num.least [p, p, p, p] = p := by
    have a := l3 p (by simp)
    rw [Num.fair_of_may d.may] at a
    rcases l4 with l4 | ⟨x, hx, l4⟩
    · rw [l4, Num.val_inf] at a; simp at a; omega
    · have : x = p := by simpa using hx
      rw [l4, this, Num.fair_of_may d.may]
  have em : Num.most [q, q, q, q] = q := by
    have a := m3 q (by simp)
    rw [Num.fair_of_may u.may] at a
    rcases m4 with m4 | ⟨x, hx, m4⟩
    · rw [m4, Num.val_inf] at a; simp at a; omega
    · have : x = q := by simpa using hx
      rw [m4, this, Num.fair_of_may u.may]
  rw [el, em]
  have pk : p = Num.inf true ∨ (p.kind ≠ 2 ∧ p.val * pw 0 ≤ y.val * z.val) := by
    rcases d2 with h | h
    · exact .inl h
    · by_cases hk : p.kind = 2
      · rcases Num.inf_val d.may d.ok hk with g | g
        · exact .inl (by rw [Num.inf_of d.may d.ok hk, g.1])
        · exact absurd (by rw [Num.inf_of d.may d.ok hk, g.1]) d1
      · exact .inr ⟨hk, h⟩
  have qk : q = Num.inf false ∨ (q.kind ≠ 2 ∧ y.val * z.val ≤ q.val * pw 0) := by
    rcases u2 with h | h
    · exact .inl h
    · by_cases hk : q.kind = 2
      · rcases Num.inf_val u.may u.ok hk with g | g
        · exact absurd (by rw [Num.inf_of u.may u.ok hk, g.1]) u1
        · exact .inl (by rw [Num.inf_of u.may u.ok hk, g.1])
      · exact .inr ⟨hk, h⟩
  have le : p.val ≤ q.val := by
    rcases pk with h | h
    · rw [h, Num.val_inf]; have := Num.val_le u.may u.ok; simp; omega
    · rcases qk with k | k
      · rw [k, Num.val_inf]; have := Num.val_le d.may d.ok; simp; omega
      · exact Int.le_of_mul_le_mul_right (Int.le_trans h.2 k.2) p0
  have R : (Iv.mk false p.fair q.fair).Real := by
    rw [Num.fair_of_may d.may, Num.fair_of_may u.may]
    exact ⟨rfl, d.may, u.may, d.ok, u.ok, le, dv, uv⟩
  rw [Iv.make_real R]
  refine ⟨R, ?_, ?_⟩
  · show p.fair.below _; rw [Num.fair_of_may d.may]; exact pk
  · show q.fair.above _; rw [Num.fair_of_may u.may]; exact qk

/-- a number times a divisor, divided by it, is within the quotient -/
theorem quotients {b : Iv} {y z : Num} (oy : y.ok) (oz : z.ok) (o1 : b.lo.ok) (o2 : b.hi.ok) (h1 : Iv.has b y = true) (h2 : y.sign ≠ 0) (h3 : z.kind ≠ 2) (h4 : z.may = true) :
    Iv.has (Iv.div (Iv.mul (Iv.point y) (Iv.point z)) b) z = true := by
  obtain ⟨k, R, l, u⟩ := (Iv.has_iff oy o1 o2).1 h1
  have my : y.may = true := by
    cases hh : y.may
    · exfalso; apply h2
      have e : y.fair = Num.zero := by unfold Num.fair; rw [if_neg (by simp [hh])]
      unfold Num.sign; rw [e]; rfl
    · rfl
  rw [Num.fair_of_may my] at k l u
  obtain ⟨r1, r2, r3⟩ := Iv.mul_points my h4 oy oz k h3
  have vy := (Num.fin_val my oy).1 k
  have vz := (Num.fin_val h4 oz).1 h3
  have hy : y.val ≠ 0 := fun g => h2 ((Num.val_pos my oy).2.2 g).1
  rw [Int.mul_comm] at r2 r3
  obtain ⟨q1, q2, q3⟩ := Iv.div_has r1 R hy l u vy.1 vy.2 vz.1 vz.2 r2 r3
  exact (Iv.has_iff oz q1.loo q1.hio).2 ⟨by rw [Num.fair_of_may h4]; exact h3, q1, by rw [Num.fair_of_may h4]; exact q2, by rw [Num.fair_of_may h4]; exact q3⟩
end Go.Proofs.Ytaiillbjhdoikaa.Ev

/- Sums and differences of two numbers, the parts: plain Lean. -/
namespace Go.Proofs.Ytaiillbjhdoikaa.Ev
open Go

structure Dbl where
  hi : Int
  lo : Int
  cut : Bool
def Dbl.av (d : Dbl) : AV := .agg [.int .u64 (.s d.hi), .int .u64 (.s d.lo), .bool (.s d.cut)]
theorem Dbl.fin {t r : Dbl} (h : t = r) : t.hi = r.hi ∧ t.lo = r.lo ∧ t.cut = r.cut ∧ True := by subst h; exact ⟨rfl, rfl, rfl, trivial⟩

/-- 64 bits moved down by some: 128 bits, and was something cut off? -/
def lowerP (m k : Int) : Dbl := ⟨m * 18446744073709551616 / 2 ^ k.toNat / 18446744073709551616, m * 18446744073709551616 / 2 ^ k.toNat % 18446744073709551616, decide (m * 18446744073709551616 % 2 ^ k.toNat ≠ 0)⟩

theorem two_pos (n : Nat) : (0 : Int) < 2 ^ n := Int.pow_pos (by decide)
theorem two_64 {k : Int} (h : 0 ≤ k) (h' : k ≤ 64) : (18446744073709551616 : Int) = 2 ^ (64 - k).toNat * 2 ^ k.toNat := by
  rw [← Int.pow_add, show (64 - k).toNat + k.toNat = 64 by omega]; rfl
/-- the sum of two of one sign: 128 bits, or one more -/
def plusX (a b : Num) : Int := a.m * 18446744073709551616 + b.m * 18446744073709551616 / 2 ^ (a.e - b.e).toNat
def plusC (a b : Num) : Bool := decide (b.m * 18446744073709551616 % 2 ^ (a.e - b.e).toNat ≠ 0)
def plusP (a b : Num) (up : Bool) : Num :=
  if plusX a b < 340282366920938463463374607431768211456 then Num.grow a.neg (plusX a b / 18446744073709551616) a.e (plusC a b || decide (plusX a b % 18446744073709551616 ≠ 0)) (up != a.neg)
  else Num.grow a.neg (plusX a b / 36893488147419103232) (a.e + 1) (plusC a b || decide (plusX a b % 36893488147419103232 ≠ 0)) (up != a.neg)

section
variable {a b : Num} {up : Bool} {D : Dbl}
end
end Go.Proofs.Ytaiillbjhdoikaa.Ev

/- Division of two words by one: plain Lean. -/
namespace Go.Proofs.Ytaiillbjhdoikaa.Ev
open Go

/-- a digit of the quotient, told too great at first: what holds of it -/
structure Dig (y u un q r : Int) : Prop where
  lt : u * 4294967296 + un < (q + 1) * y
  rest : r = u - q * (y / 4294967296)
  pos : 0 ≤ r
  small : r < 4294967296
  top : q ≤ 4294967297
  nn : 0 ≤ q

section
variable {y u un q r : Int}

theorem dig_start (h1 : 9223372036854775808 ≤ y) (h2 : y < 18446744073709551616) (hu : 0 ≤ u) (hu' : u < y) (hn : 0 ≤ un) (hn' : un < 4294967296) :
    Dig y u un (u / (y / 4294967296)) (u - u / (y / 4294967296) * (y / 4294967296)) := by
  generalize hy : y / 4294967296 = a
  have ha : 2147483648 ≤ a ∧ a < 4294967296 := by omega
  have e1 := Int.mul_ediv_add_emod u a
  have e2 := Int.emod_nonneg u (show a ≠ 0 by omega)
  have e3 := Int.emod_lt_of_pos u (show 0 < a by omega)
  have hq0 : 0 ≤ u / a := Int.ediv_nonneg hu (by omega)
  generalize u / a = q at *
  have e4 : q * a = u - u % a := by rw [Int.mul_comm]; omega
  refine ⟨?_, by rw [hy], by omega, by omega, ?_, hq0⟩
  · have e5 : (q + 1) * (a * 4294967296) ≤ (q + 1) * y := Int.mul_le_mul_of_nonneg_left (by omega) (by omega)
    have e6 : (q + 1) * (a * 4294967296) = (q * a + a) * 4294967296 := by grind
    omega
  · rcases Int.lt_or_le 4294967297 q with h | h
    · exfalso
      have e5 : 4294967298 * a ≤ q * a := Int.mul_le_mul_of_nonneg_right (by omega) (by omega)
      omega
    · exact h

/-- it is too great: one less -/
theorem dig_less (h1 : 9223372036854775808 ≤ y) (h2 : y < 18446744073709551616) (hu : 0 ≤ u) (hu' : u < y) (hn : 0 ≤ un) (hn' : un < 4294967296) (D : Dig y u un q r)
    (hc : 4294967296 ≤ q ∨ r * 4294967296 + un < q * (y % 4294967296)) : u * 4294967296 + un < (q - 1 + 1) * y ∧ r + y / 4294967296 = u - (q - 1) * (y / 4294967296) ∧ 1 ≤ q := by
  obtain ⟨d1, d2, d3, d4, d5, d6⟩ := D
  have hy : y = (y / 4294967296) * 4294967296 + y % 4294967296 := by omega
  generalize ha : y / 4294967296 = a at *
  generalize hb : y % 4294967296 = b at *
  have e1 : (q - 1 + 1) * y = q * a * 4294967296 + q * b := by rw [hy]; grind
  have e2 : (q - 1) * a = q * a - a := by grind
  have hq1 : 1 ≤ q := by
    rcases hc with hc | hc
    · omega
    · rcases Int.lt_or_le 0 q with h | h
      · omega
      · have : q = 0 := by omega
        subst this
        omega
  refine ⟨?_, by omega, hq1⟩
  rcases hc with hc | hc
  · have e3 : 4294967296 * y ≤ q * y := Int.mul_le_mul_of_nonneg_right hc (by omega)
    have e4 : (q - 1 + 1) * y = q * y := by grind
    omega
  · omega

/-- it is right -/
theorem dig_right (h1 : 9223372036854775808 ≤ y) (h2 : y < 18446744073709551616) (hr : r = u - q * (y / 4294967296)) (hc : q * (y % 4294967296) ≤ r * 4294967296 + un) : q * y ≤ u * 4294967296 + un := by
  have hy : y = (y / 4294967296) * 4294967296 + y % 4294967296 := by omega
  generalize ha : y / 4294967296 = a at *
  generalize hb : y % 4294967296 = b at *
  have e1 : q * y = q * a * 4294967296 + q * b := by rw [hy]; grind
  omega

theorem dig_break (h2 : y < 18446744073709551616) (hn : 0 ≤ un) (hq : q ≤ 4294967296) (hq0 : 0 ≤ q) (hr : 4294967296 ≤ r) : q * (y % 4294967296) ≤ r * 4294967296 + un := by
  have : q * (y % 4294967296) ≤ 4294967296 * (y % 4294967296) := Int.mul_le_mul_of_nonneg_right hq (by omega)
  omega

theorem blen_top {y : Int} (h1 : 9223372036854775808 ≤ y) (h2 : y < 18446744073709551616) : blen y = 64 := by
  have := (blen_iff (x := y) (by omega) 63).2 ⟨by simpa using h1, by simpa using h2⟩
  omega

theorem shl0 (x : Int) (h0 : 0 ≤ x) (h1 : x < 18446744073709551616) : IntKind.u64.wrap (x * 2 ^ min (Int.toNat 0) IntKind.u64.bits) = x := by
  rw [show (2 : Int) ^ min (Int.toNat 0) IntKind.u64.bits = 1 by decide, wu64]; omega
theorem shr64 (x : Int) (h0 : 0 ≤ x) (h1 : x < 18446744073709551616) : x.fdiv (2 ^ min (Int.toNat 64) IntKind.u64.bits) = 0 := by
  rw [show (2 : Int) ^ min (Int.toNat 64) IntKind.u64.bits = 18446744073709551616 by decide, shr_lit (by omega)]; omega
theorem or_0 (x : Int) (h0 : 0 ≤ x) (h1 : x < 18446744073709551616) : IntKind.u64.wrap ((BitVec.ofInt IntKind.u64.bits x ||| BitVec.ofInt IntKind.u64.bits 0).toNat : Int) = x := by
  show IntKind.u64.wrap ((BitVec.ofInt 64 x ||| BitVec.ofInt 64 0).toNat : Int) = x
  have e : BitVec.ofInt 64 x ||| BitVec.ofInt 64 0 = BitVec.ofInt 64 x := by
    rw [show BitVec.ofInt 64 0 = 0#64 by rfl]
    exact BitVec.or_zero
  rw [e, ofInt_toNat, wu64]; omega

/-- what the round sees: its words do not wrap -/
theorem dig_words (h1 : 9223372036854775808 ≤ y) (h2 : y < 18446744073709551616) (hn : 0 ≤ un) (hn' : un < 4294967296) (D : Dig y u un q r) :
    (q < 4294967296 → IntKind.u64.wrap (q * (y % 4294967296)) = q * (y % 4294967296)) ∧ IntKind.u64.wrap (IntKind.u64.wrap (4294967296 * r) + un) = r * 4294967296 + un ∧ IntKind.u64.wrap (r + y / 4294967296) = r + y / 4294967296 := by
  obtain ⟨d1, d2, d3, d4, d5, d6⟩ := D
  refine ⟨fun hq => ?_, ?_, ?_⟩
  · have e1 := Int.mul_nonneg d6 (show (0 : Int) ≤ y % 4294967296 by omega)
    have e2 : q * (y % 4294967296) ≤ 4294967295 * (y % 4294967296) := Int.mul_le_mul_of_nonneg_right (by omega) (by omega)
    rw [wu64]
    generalize q * (y % 4294967296) = p at *
    omega
  · rw [wu64, wu64]; omega
  · rw [wu64]; omega

/-- the digit, and what is left -/
structure Right (y u un q : Int) : Prop where
  le : q * y ≤ u * 4294967296 + un
  lt : u * 4294967296 + un < (q + 1) * y
  nn : 0 ≤ q
  small : q < 4294967296

theorem right_of (h1 : 9223372036854775808 ≤ y) (hu' : u < y) (hn' : un < 4294967296) (h3 : q * y ≤ u * 4294967296 + un) (h4 : u * 4294967296 + un < (q + 1) * y) (h5 : 0 ≤ q) : Right y u un q := by
  refine ⟨h3, h4, h5, ?_⟩
  rcases Int.lt_or_le q 4294967296 with h | h
  · exact h
  · exfalso
    have : 4294967296 * y ≤ q * y := Int.mul_le_mul_of_nonneg_right h (by omega)
    omega

theorem right_left (R : Right y u un q) : 0 ≤ u * 4294967296 + un - q * y ∧ u * 4294967296 + un - q * y < y := by
  have := R.lt
  have := R.le
  have e : (q + 1) * y = q * y + y := by grind
  omega

theorem right_wrap (h2 : y < 18446744073709551616) (R : Right y u un q) : IntKind.u64.wrap (IntKind.u64.wrap (IntKind.u64.wrap (u * 4294967296) + un) - IntKind.u64.wrap (q * y)) = u * 4294967296 + un - q * y := by
  have := right_left R
  rw [wu64, wu64, wu64, wu64]
  generalize q * y = p at *
  omega

theorem two_digits {u' un' q' : Int} (h0 : 0 < y) (hu : u' = u * 4294967296 + un - q * y) (R : Right y u un q) (R' : Right y u' un' q') :
    (u * 18446744073709551616 + (un * 4294967296 + un')) / y = q * 4294967296 + q' ∧ (u * 18446744073709551616 + (un * 4294967296 + un')) % y = u' * 4294967296 + un' - q' * y := by
  have l := right_left R'
  have e : u * 18446744073709551616 + (un * 4294967296 + un') = (u' * 4294967296 + un' - q' * y) + (q * 4294967296 + q') * y := by
    rw [hu]; grind
  rw [e]
  constructor
  · rw [Int.add_mul_ediv_right _ _ (by omega), Int.ediv_eq_zero_of_lt l.1 l.2]; omega
  · rw [Int.add_mul_emod_self_right, Int.emod_eq_of_lt l.1 l.2]
end
end Go.Proofs.Ytaiillbjhdoikaa.Ev

/- The difference of two numbers: plain Lean. -/
namespace Go.Proofs.Ytaiillbjhdoikaa.Ev
open Go

def minusZ (a b : Num) : Int := a.m * 18446744073709551616 - b.m * 18446744073709551616 / 2 ^ (a.e - b.e).toNat - (if plusC a b then 1 else 0)
def minusP (a b : Num) (up : Bool) : Num :=
  Num.grow a.neg (minusZ a b * 2 ^ (128 - blen (minusZ a b)).toNat / 18446744073709551616) (a.e - (128 - blen (minusZ a b))) (plusC a b || decide (minusZ a b * 2 ^ (128 - blen (minusZ a b)).toNat % 18446744073709551616 ≠ 0)) (up != a.neg)

section
variable {a b : Num} {up : Bool} {D : Dbl}
theorem minus_parts (ha : a.Fin) (hb : b.Fin) (hk : b.e ≤ a.e) (hgt : b.e < a.e ∨ b.m < a.m) (hD : D = lowerP b.m (a.e - b.e)) {c lo br hi : Int} (hc : c = if D.cut then 1 else 0)
    (hlo : lo = (0 - D.lo - c) % 18446744073709551616) (hbr : br = if 0 < D.lo + c then 1 else 0) (hhi : hi = (a.m - D.hi - br) % 18446744073709551616) :
    0 < minusZ a b ∧ minusZ a b < 340282366920938463463374607431768211456 ∧ hi = minusZ a b / 18446744073709551616 ∧ lo = minusZ a b % 18446744073709551616 ∧ D.cut = plusC a b := by
  have := ha.lo; have := ha.hi; have := hb.lo; have := hb.hi
  have p := two_pos (a.e - b.e).toNat
  have n := Int.ediv_nonneg (show 0 ≤ b.m * 18446744073709551616 by omega) (Int.le_of_lt p)
  have l := Int.ediv_mul_le (b.m * 18446744073709551616) (show (2 : Int) ^ (a.e - b.e).toNat ≠ 0 by omega)
  have hcut : D.cut = plusC a b := by rw [hD]; rfl
  have hcc : c = if plusC a b then 1 else 0 := by rw [hc, hcut]
  have key : b.m * 18446744073709551616 / 2 ^ (a.e - b.e).toNat + c < a.m * 18446744073709551616 := by
    by_cases he : a.e = b.e
    · have e0 : (2 : Int) ^ (a.e - b.e).toNat = 1 := by rw [show (a.e - b.e).toNat = 0 by omega]; rfl
      have : plusC a b = false := by unfold plusC; rw [e0]; simp
      rw [this] at hcc
      rw [e0]
      simp at hcc ⊢
      omega
    · have two : (2 : Int) ≤ 2 ^ (a.e - b.e).toNat := by
        have := Nat.pow_le_pow_right (n := 2) (by omega) (show 1 ≤ (a.e - b.e).toNat by omega)
        exact_mod_cast this
      have := Int.mul_le_mul_of_nonneg_left two n
      have c1 : c ≤ 1 := by rw [hc]; split <;> decide
      omega
  have z : minusZ a b = a.m * 18446744073709551616 - b.m * 18446744073709551616 / 2 ^ (a.e - b.e).toNat - c := by unfold minusZ; rw [hcc]
  have h1 : D.hi = b.m * 18446744073709551616 / 2 ^ (a.e - b.e).toNat / 18446744073709551616 := by rw [hD]; rfl
  have h2 : D.lo = b.m * 18446744073709551616 / 2 ^ (a.e - b.e).toNat % 18446744073709551616 := by rw [hD]; rfl
  rw [z]
  have c0 : c = 0 ∨ c = 1 := by rw [hc]; split <;> simp
  generalize b.m * 18446744073709551616 / 2 ^ (a.e - b.e).toNat = L at *
  refine ⟨by omega, by omega, ?_, ?_, hcut⟩
  · rw [hhi, hbr, h1, h2]; split <;> omega
  · rw [hlo, h2]; omega

theorem min_64 {s : Int} (h : s ≤ 64) : min s.toNat IntKind.u64.bits = s.toNat := by show min s.toNat 64 = _; omega
end
end Go.Proofs.Ytaiillbjhdoikaa.Ev

/- The sum of two numbers: plain Lean. -/
namespace Go.Proofs.Ytaiillbjhdoikaa.Ev
open Go

def Num.addS (a b : Num) (up : Bool) : Num := if a.neg = b.neg then plusP a b up else if a.e = b.e ∧ a.m = b.m then Num.zero else minusP a b up
def Num.addF (a b : Num) (up : Bool) : Num := if a.e < b.e ∨ (a.e = b.e ∧ a.m < b.m) then Num.addS b a up else Num.addS a b up
def Num.add (a b : Num) (up : Bool) : Num :=
  if a.fair.kind = 2 ∧ b.fair.kind = 2 ∧ a.fair.neg ≠ b.fair.neg then Num.inf (!up)
  else if a.fair.kind = 2 ∨ b.fair.kind = 0 then a.fair else if b.fair.kind = 2 ∨ a.fair.kind = 0 then b.fair else Num.addF a.fair b.fair up
end Go.Proofs.Ytaiillbjhdoikaa.Ev

/- Whole numbers as numbers, the opposite, how far from nought, the square: plain Lean. -/
namespace Go.Proofs.Ytaiillbjhdoikaa.Ev
open Go

theorem E_br_t {P : Program} {E : Env} (hE : E = realE P) {c : Bool} {t f : Unit → Prop} (h : c = true) (ht : t ()) : E.br c t f := by
  subst hE; exact ⟨fun _ => ht, fun h' => (by rw [h] at h'; cases h')⟩
theorem E_br_f {P : Program} {E : Env} (hE : E = realE P) {c : Bool} {t f : Unit → Prop} (h : c = false) (hf : f ()) : E.br c t f := by
  subst hE; exact ⟨fun h' => (by rw [h] at h'; cases h'), fun _ => hf⟩

def Num.ofInt (n : Int) : Num :=
  if n = 0 then Num.zero else ⟨1, decide (n < 0), IntKind.u64.wrap ((n.natAbs : Int) * 2 ^ min (Int.toNat (64 - blen n.natAbs)) IntKind.u64.bits), IntKind.i64.wrap (0 - (64 - blen n.natAbs))⟩
def Iv.neg (a : Iv) : Iv := if Iv.anyBad [a] then Iv.none else Iv.make a.hi.opp a.lo.opp
theorem wabs_neg {n : Int} (h0 : -9223372036854775808 ≤ n) (h : n < 0) : IntKind.u64.wrap (0 - IntKind.u64.wrap n) = (n.natAbs : Int) := by
  simp only [wu64]; omega
theorem wabs_pos {n : Int} (h0 : 0 ≤ n) (h : n < 9223372036854775808) : IntKind.u64.wrap n = (n.natAbs : Int) := by
  simp only [wu64]; omega
theorem Num.ofInt_ok (n : Int) : (Num.ofInt n).ok := by
  unfold Num.ofInt
  split
  · exact Num.zero_ok
  · constructor <;> (simp only [wu64]; omega)

theorem Iv.make_ok {lo hi : Num} (h1 : lo.ok) (h2 : hi.ok) : (Iv.make lo hi).lo.ok ∧ (Iv.make lo hi).hi.ok := by
  rcases Iv.make_cases h1 h2 with ⟨e, _⟩ | ⟨e, R⟩
  · rw [e]; exact ⟨Num.zero_ok, Num.zero_ok⟩
  · rw [e]; exact ⟨R.loo, R.hio⟩
theorem Iv.corners_ok {F : Num → Num → Bool → Num} {a b : Iv} (h : ∀ x ∈ [a.lo, a.hi], ∀ y ∈ [b.lo, b.hi], ∀ up, (F x y up).ok) : (Iv.corners F a b).lo.ok ∧ (Iv.corners F a b).hi.ok := by
  refine Iv.make_ok (Num.least_spec _ ?_).2.1 (Num.most_spec _ ?_).2.1 <;>
  · intro x hx
    simp only [List.mem_cons, List.not_mem_nil, or_false] at hx
    rcases hx with rfl | rfl | rfl | rfl <;> exact h _ (by simp) _ (by simp) _
theorem Num.mul_ok {a b : Num} (ha : a.ok) (hb : b.ok) (up : Bool) : (Num.mul a b up).ok := by
  unfold Num.mul
  split
  · exact Num.zero_ok
  · split
    · exact Num.inf_ok _
    · have fa := Num.fin_of (n := a) (by omega) (by omega)
      have fb := Num.fin_of (n := b) (by omega) (by omega)
      have oa := Num.fair_ok ha
      have ob := Num.fair_ok hb
      exact (mulF_side ⟨fa.1, fa.2.1, oa.2, fa.2.2.1, fa.2.2.2⟩ ⟨fb.1, fb.2.1, ob.2, fb.2.2.1, fb.2.2.2⟩ up).ok
theorem Iv.mul_ok {a b : Iv} (h1 : a.lo.ok) (h2 : a.hi.ok) (h3 : b.lo.ok) (h4 : b.hi.ok) : (Iv.mul a b).lo.ok ∧ (Iv.mul a b).hi.ok := by
  unfold Iv.mul
  split
  · exact ⟨Num.zero_ok, Num.zero_ok⟩
  · refine Iv.corners_ok ?_
    intro x hx y hy up
    simp only [List.mem_cons, List.not_mem_nil, or_false] at hx hy
    rcases hx with rfl | rfl <;> rcases hy with rfl | rfl <;> exact Num.mul_ok (by assumption) (by assumption) up

theorem Num.div_lo {A B : Num} {up : Bool} (hA : A.ok) (fA : -1048576 ≤ A.e ∧ A.e ≤ 1048576) (fB : -1048576 ≤ B.e ∧ B.e ≤ 1048576) (h : ¬ B.m ≤ A.m) :
    Num.grow (A.neg != B.neg) ((A.m * 18446744073709551616 + 0) / B.m) (IntKind.i64.wrap (IntKind.i64.wrap (A.e - B.e) - 64)) (decide ((A.m * 18446744073709551616 + 0) % B.m ≠ 0)) (up != (A.neg != B.neg)) = Num.divF A B up := by
  unfold Num.divF
  rw [if_neg h, Int.add_zero, show IntKind.i64.wrap (IntKind.i64.wrap (A.e - B.e) - 64) = A.e - B.e - 64 by simp only [wi64]; omega]
theorem Num.div_hi {A B : Num} {up : Bool} (hA : A.ok) (fA : -1048576 ≤ A.e ∧ A.e ≤ 1048576) (fB : -1048576 ≤ B.e ∧ B.e ≤ 1048576) (h : B.m ≤ A.m) :
    Num.grow (A.neg != B.neg) ((A.m / 2 * 18446744073709551616 + IntKind.u64.wrap (A.m * 9223372036854775808)) / B.m) (IntKind.i64.wrap (IntKind.i64.wrap (IntKind.i64.wrap (A.e - B.e) - 64) + 1))
      (decide ((A.m / 2 * 18446744073709551616 + IntKind.u64.wrap (A.m * 9223372036854775808)) % B.m ≠ 0)) (up != (A.neg != B.neg)) = Num.divF A B up := by
  unfold Num.divF
  have := hA.1
  have := hA.2
  rw [if_pos h, show A.m / 2 * 18446744073709551616 + IntKind.u64.wrap (A.m * 9223372036854775808) = A.m * 9223372036854775808 by rw [wu64]; omega,
    show IntKind.i64.wrap (IntKind.i64.wrap (IntKind.i64.wrap (A.e - B.e) - 64) + 1) = A.e - B.e - 63 by simp only [wi64]; omega]
end Go.Proofs.Ytaiillbjhdoikaa.Ev

/- The sum of intervals: plain Lean. -/
namespace Go.Proofs.Ytaiillbjhdoikaa.Ev
open Go

def Iv.addStep (p : Num × Num) (x : Iv) : Num × Num := (Num.add p.1 x.lo false, Num.add p.2 x.hi true)
def Iv.addEnds : List Iv → Num × Num
  | [] => (Num.zero, Num.zero)
  | x :: r => r.foldl Iv.addStep (x.lo, x.hi)
def Iv.add (l : List Iv) : Iv := if Iv.anyBad l then Iv.none else Iv.make (Iv.addEnds l).1 (Iv.addEnds l).2
end Go.Proofs.Ytaiillbjhdoikaa.Ev

/- Whole numbers as numbers are exact: plain Lean. -/
namespace Go.Proofs.Ytaiillbjhdoikaa.Ev
open Go

theorem norm_64 {x : Int} (h : 0 < x) (h' : x < 18446744073709551616) : 0 ≤ 64 - blen x ∧ 64 - blen x < 64 ∧ 9223372036854775808 ≤ x * 2 ^ (64 - blen x).toNat ∧ x * 2 ^ (64 - blen x).toNat < 18446744073709551616 := by
  obtain ⟨n, n1, n2, n3⟩ := blen_pos h
  have bl := blen_le 64 (x := x) (by omega)
  have q := two_pos (64 - blen x).toNat
  refine ⟨by omega, by omega, ?_, ?_⟩
  · have g : (9223372036854775808 : Int) = 2 ^ n * 2 ^ (64 - blen x).toNat := by
      rw [← Int.pow_add, show n + (64 - blen x).toNat = 63 by omega]; rfl
    rw [g]
    exact Int.mul_le_mul_of_nonneg_right n2 (Int.le_of_lt q)
  · have g : (18446744073709551616 : Int) = 2 ^ (n + 1) * 2 ^ (64 - blen x).toNat := by
      rw [← Int.pow_add, show n + 1 + (64 - blen x).toNat = 64 by omega]; rfl
    rw [g]
    exact Int.mul_lt_mul_of_pos_right n3 q
theorem ofInt_fin {n : Int} (h : n ≠ 0) (h' : n.natAbs < 18446744073709551616) : (Num.ofInt n).Fin ∧ (Num.ofInt n).W = n.natAbs * pw 0 ∧ (Num.ofInt n).neg = decide (n < 0) := by
  obtain ⟨a1, a2, a3, a4⟩ := norm_64 (x := (n.natAbs : Int)) (by omega) (by omega)
  have e : Num.ofInt n = ⟨1, decide (n < 0), (n.natAbs : Int) * 2 ^ (64 - blen n.natAbs).toNat, -(64 - blen n.natAbs)⟩ := by
    unfold Num.ofInt
    rw [if_neg h, min_64 (by omega), show IntKind.u64.wrap ((n.natAbs : Int) * 2 ^ (64 - blen n.natAbs).toNat) = (n.natAbs : Int) * 2 ^ (64 - blen n.natAbs).toNat by (rw [wu64]; omega),
      show IntKind.i64.wrap (0 - (64 - blen n.natAbs)) = -(64 - blen n.natAbs) by (rw [wi64]; omega)]
  rw [e]
  have f : (Num.mk 1 (decide (n < 0)) ((n.natAbs : Int) * 2 ^ (64 - blen n.natAbs).toNat) (-(64 - blen n.natAbs))).Fin := ⟨rfl, a3, a4, by show -1048576 ≤ -(64 - blen n.natAbs); omega, by show -(64 - blen n.natAbs) ≤ 1048576; omega⟩
  refine ⟨f, ?_, rfl⟩
  rw [f.W]
  show (n.natAbs : Int) * 2 ^ (64 - blen n.natAbs).toNat * pw (-(64 - blen n.natAbs)) = _
  have p := pw_add (e := -(64 - blen n.natAbs)) (f := 64 - blen n.natAbs) (by omega) a1
  rw [show -(64 - blen (n.natAbs : Int)) + (64 - blen n.natAbs) = 0 by omega] at p
  rw [p]; grind
/-- nothing is cut off, and the exponent is within the bounds -/
theorem grow_plain {neg away : Bool} {m e : Int} (h : -1048576 ≤ e) (h' : e ≤ 1048576) : Num.grow neg m e false away = ⟨1, neg, m, e⟩ := by
  unfold Num.grow Num.bound
  rw [if_neg (by simp), if_neg (by omega), if_neg (by omega)]
end Go.Proofs.Ytaiillbjhdoikaa.Ev

/- What a rounded number is: of all numbers on its side of the exact one the nearest. Plain Lean. -/
namespace Go.Proofs.Ytaiillbjhdoikaa.Ev
open Go

/-- the nearest one on a side of t / c -/
structure Best (r : Num) (up : Bool) (t c : Int) : Prop where
  may : r.may = true
  ok : r.ok
  down : up = false → r ≠ Num.inf false ∧ (r = Num.inf true ∨ r.val * c ≤ t)
  dopt : up = false → ∀ s : Num, s.may = true → s.ok → s ≠ Num.inf false → s.val * c ≤ t → s.val ≤ r.val
  uopt : up = true → ∀ s : Num, s.may = true → s.ok → s ≠ Num.inf true → t ≤ s.val * c → r.val ≤ s.val
  hi : up = true → r ≠ Num.inf true ∧ (r = Num.inf false ∨ t ≤ r.val * c)

theorem Best.side {r : Num} {up : Bool} {t c : Int} (h : Best r up t c) : Side r up t c := ⟨h.may, h.ok, h.down, h.hi⟩

theorem Best.mono {r r' : Num} {up : Bool} {t c t' c' : Int} (h : Best r up t c) (h' : Best r' up t' c') (hc : 0 < c) (hc' : 0 < c') (ht : t * c' ≤ t' * c) : r.val ≤ r'.val := by
  have key : ∀ v : Int, v * c ≤ t → v * c' ≤ t' := by
    intro v hv
    have h1 : v * c * c' ≤ t * c' := Int.mul_le_mul_of_nonneg_right hv (Int.le_of_lt hc')
    refine Int.le_of_mul_le_mul_right (a := c) ?_ hc
    have : v * c' * c = v * c * c' := by grind
    omega
  have key2 : ∀ v : Int, t' ≤ v * c' → t ≤ v * c := by
    intro v hv
    have h1 : t' * c ≤ v * c' * c := Int.mul_le_mul_of_nonneg_right hv (Int.le_of_lt hc)
    refine Int.le_of_mul_le_mul_right (a := c') ?_ hc'
    have : v * c' * c = v * c * c' := by grind
    omega
  cases up with
  | false =>
    obtain ⟨d1, d2⟩ := h.down rfl
    rcases d2 with d2 | d2
    · have := (Num.val_le h'.may h'.ok).1
      rw [d2, Num.val_inf]
      simpa using this
    · exact h'.dopt rfl r h.may h.ok d1 (key _ d2)
  | true =>
    obtain ⟨d1, d2⟩ := h'.hi rfl
    rcases d2 with d2 | d2
    · have := (Num.val_le h.may h.ok).2
      rw [d2, Num.val_inf]
      simpa using this
    · exact h.uopt rfl r' h'.may h'.ok d1 (key2 _ d2)

theorem Best.uniq {r r' : Num} {up : Bool} {t c t' c' : Int} (h : Best r up t c) (h' : Best r' up t' c') (hc : 0 < c) (hc' : 0 < c') (ht : t * c' = t' * c) : r = r' :=
  Num.val_inj h.may h'.may h.ok h'.ok (Int.le_antisymm (h.mono h' hc hc' (by omega)) (h'.mono h hc' hc (by omega)))

/-- what is a number is not rounded -/
theorem Best.exact {r s : Num} {up : Bool} {t c : Int} (h : Best r up t c) (hc : 0 < c) (ms : s.may = true) (os : s.ok) (ks : s.kind ≠ 2) (ht : s.val * c = t) : r = s := by
  have n : ∀ b, s ≠ Num.inf b := fun b g => ks (by rw [g]; rfl)
  refine h.uniq (t' := s.val) (c' := 1) ⟨ms, os, fun _ => ⟨n _, .inr (by omega)⟩, fun _ x _ _ _ hx => by omega, fun _ x _ _ _ hx => by omega, fun _ => ⟨n _, .inr (by omega)⟩⟩ hc (by decide) (by omega)

/-- down is not above up -/
theorem Best.le {r r' : Num} {t c : Int} (h : Best r false t c) (h' : Best r' true t c) (hc : 0 < c) : r.val ≤ r'.val := by
  obtain ⟨d1, d2⟩ := h.down rfl
  obtain ⟨e1, e2⟩ := h'.hi rfl
  rcases d2 with d2 | d2
  · have := (Num.val_le h'.may h'.ok).1
    rw [d2, Num.val_inf]
    simpa using this
  · rcases e2 with e2 | e2
    · have := (Num.val_le h.may h.ok).2
      rw [e2, Num.val_inf]
      simpa using this
    · exact Int.le_of_mul_le_mul_right (a := c) (by omega) hc

/-! ### the grid of numbers of 64 bits -/
theorem pw_split {e f : Int} (h : -8388608 ≤ e) (h2 : e ≤ f) : pw f = 2 ^ (f - e).toNat * pw e := by
  have := pw_add (e := e) (f := f - e) h (by omega)
  rw [show e + (f - e) = f by omega] at this
  rw [this, Int.mul_comm]

theorem grid_dn {s : Num} (ms : s.may = true) (os : s.ok) (ks : s.kind ≠ 2) {m e : Int} (hm : 9223372036854775808 ≤ m) (he : -4194303 ≤ e) (h : s.W < (m + 1) * pw e) : s.W ≤ m * pw e := by
  have p := pw_pos e
  rcases Num.may3 ms os with k | k | k
  · rw [k, Num.zero_W]; exact Int.mul_nonneg (by omega) (Int.le_of_lt p)
  · rw [k.W] at h ⊢
    have := k.hi; have := k.elo
    rcases Int.lt_or_le s.e e with g | g
    · exact Int.le_of_lt (lex_lt hm k.hi (by omega) g)
    · rw [pw_split (by omega) g, ← Int.mul_assoc] at h ⊢
      have := Int.lt_of_mul_lt_mul_right h (Int.le_of_lt p)
      exact Int.mul_le_mul_of_nonneg_right (by omega) (Int.le_of_lt p)
  · rw [k] at ks; simp [Num.inf] at ks

theorem grid_up {s : Num} (ms : s.may = true) (os : s.ok) {m e : Int} (hm : 9223372036854775808 ≤ m) (he : -4194303 ≤ e) (h : m * pw e < s.W) : (m + 1) * pw e ≤ s.W := by
  have p := pw_pos e
  have up : ∀ (N f : Int), e ≤ f → m * pw e < N * pw f → (m + 1) * pw e ≤ N * pw f := by
    intro N f hf hN
    rw [pw_split (by omega) hf, ← Int.mul_assoc] at hN ⊢
    have := Int.lt_of_mul_lt_mul_right hN (Int.le_of_lt p)
    exact Int.mul_le_mul_of_nonneg_right (by omega) (Int.le_of_lt p)
  rcases Num.may3 ms os with k | k | k
  · rw [k, Num.zero_W] at h
    have := Int.mul_nonneg (show 0 ≤ m by omega) (Int.le_of_lt p)
    omega
  · rw [k.W] at h ⊢
    have := k.hi; have := k.elo
    rcases Int.lt_or_le s.e e with g | g
    · have := lex_lt hm k.hi (by omega) g
      omega
    · exact up _ _ g h
  · rw [k, Num.inf_W] at h ⊢
    rcases Int.lt_or_le 1048640 e with g | g
    · have h1 := pw_lt (e := 1048640) (by decide) g
      have h2 : 1 * pw e ≤ m * pw e := Int.mul_le_mul_of_nonneg_right (by omega) (Int.le_of_lt p)
      have := pw_pos 1048640
      omega
    · have := up 1 1048640 g (by omega)
      omega

theorem W_nn (s : Num) (ms : s.may = true) (os : s.ok) : 0 ≤ s.W := by
  rcases Num.may3 ms os with k | k | k
  · rw [k, Num.zero_W]; exact Int.le_refl _
  · exact Int.le_of_lt k.lt.1
  · rw [k, Num.inf_W]; exact Int.le_of_lt (pw_pos _)

theorem W_huge {s : Num} (ms : s.may = true) (os : s.ok) (ks : s.kind ≠ 2) : s.W ≤ 18446744073709551615 * pw 1048576 := by
  rcases Num.may3 ms os with k | k | k
  · rw [k, Num.zero_W]; exact Int.mul_nonneg (by decide) (Int.le_of_lt (pw_pos _))
  · rw [k.W]
    have h1 := k.hi; have h2 := k.lo; have h3 := k.elo; have h4 := k.ehi
    have h5 : s.m * pw s.e ≤ 18446744073709551615 * pw s.e := Int.mul_le_mul_of_nonneg_right (by omega) (Int.le_of_lt (pw_pos _))
    have h6 : 18446744073709551615 * pw s.e ≤ 18446744073709551615 * pw 1048576 := Int.mul_le_mul_of_nonneg_left (pw_mono (by omega) h4) (by decide)
    omega
  · rw [k] at ks; simp [Num.inf] at ks

theorem W_tiny {s : Num} (ms : s.may = true) (os : s.ok) (h : 0 < s.W) : 9223372036854775808 * pw (-1048576) ≤ s.W := by
  rcases Num.may3 ms os with k | k | k
  · rw [k, Num.zero_W] at h; omega
  · rw [k.W]
    have h1 := k.hi; have h2 := k.lo; have h3 := k.elo; have h4 := k.ehi
    have h5 : 9223372036854775808 * pw s.e ≤ s.m * pw s.e := Int.mul_le_mul_of_nonneg_right h2 (Int.le_of_lt (pw_pos _))
    have h6 : 9223372036854775808 * pw (-1048576) ≤ 9223372036854775808 * pw s.e := Int.mul_le_mul_of_nonneg_left (pw_mono (by decide) h3) (by decide)
    omega
  · rw [k, Num.inf_W]
    have h6 : pw (-1048576 + 63) ≤ pw 1048640 := pw_mono (by decide) (by decide)
    rw [pw_63 (by decide)] at h6
    omega

theorem mag_dn {neg cut : Bool} {m e : Int} (hm : 9223372036854775808 ≤ m) (hm' : m < 18446744073709551616) (he : -4194303 ≤ e) {s : Num} (ms : s.may = true) (os : s.ok) (ks : s.kind ≠ 2)
    (h : s.W < (m + 1) * pw e) : s.W ≤ (Num.grow neg m e cut false).W := by
  unfold Num.grow
  rw [if_neg (by simp)]
  unfold Num.bound
  by_cases h1 : 1048576 < e
  · rw [if_pos h1, if_neg (by decide)]
    exact W_huge ms os ks
  · rw [if_neg h1]
    by_cases h2 : e < -1048576
    · rw [if_pos h2, if_neg (by decide), Num.zero_W]
      rcases Int.lt_or_le 0 s.W with h3 | h3
      · have h4 := W_tiny ms os h3
        have h5 : (m + 1) * pw e ≤ 18446744073709551616 * pw e := Int.mul_le_mul_of_nonneg_right (by omega) (Int.le_of_lt (pw_pos _))
        have h6 := pw_lt (e := e) (f := -1048576) (by omega) h2
        omega
      · exact h3
    · rw [if_neg h2]
      have f : (Num.mk 1 neg m e).Fin := ⟨rfl, hm, hm', by show -1048576 ≤ e; omega, by show e ≤ 1048576; omega⟩
      rw [f.W]
      exact grid_dn ms os ks hm he h

theorem bound_up {neg : Bool} {m e : Int} (hm : 9223372036854775808 ≤ m) (hm' : m < 18446744073709551616) (he : -4194303 ≤ e) {s : Num} (ms : s.may = true) (os : s.ok)
    (h : m * pw e ≤ s.W) : (Num.bound neg m e true).W ≤ s.W := by
  unfold Num.bound
  by_cases h1 : 1048576 < e
  · rw [if_pos h1, if_pos rfl, Num.inf_W]
    have h2 : pw (1048577 + 63) ≤ pw (e + 63) := pw_mono (by decide) (by omega)
    rw [pw_63 (e := e) (by omega), show (1048577 + 63 : Int) = 1048640 by decide] at h2
    have h3 : 9223372036854775808 * pw e ≤ m * pw e := Int.mul_le_mul_of_nonneg_right hm (Int.le_of_lt (pw_pos _))
    omega
  · rw [if_neg h1]
    by_cases h2 : e < -1048576
    · rw [if_pos h2, if_pos rfl]
      have h3 : 0 < m * pw e := Int.mul_pos (by omega) (pw_pos _)
      exact W_tiny ms os (by omega)
    · rw [if_neg h2]
      have f : (Num.mk 1 neg m e).Fin := ⟨rfl, hm, hm', by show -1048576 ≤ e; omega, by show e ≤ 1048576; omega⟩
      rw [f.W]
      exact h

theorem mag_up {neg cut : Bool} {m e : Int} (hm : 9223372036854775808 ≤ m) (hm' : m < 18446744073709551616) (he : -4194303 ≤ e) (he' : e ≤ 4194303) {s : Num} (ms : s.may = true) (os : s.ok)
    (h : if cut then m * pw e < s.W else m * pw e ≤ s.W) : (Num.grow neg m e cut true).W ≤ s.W := by
  unfold Num.grow
  cases cut with
  | false =>
    rw [if_neg (by decide)] at h
    rw [if_neg (by decide)]
    exact bound_up hm hm' he ms os h
  | true =>
    rw [if_pos rfl] at h
    rw [if_pos (by decide)]
    have h' := grid_up ms os hm he h
    by_cases h0 : IntKind.u64.wrap (m + 1) = 0
    · rw [if_pos h0]
      have em : m + 1 = 18446744073709551616 := by rw [wu64] at h0; omega
      have ee : IntKind.i64.wrap (e + 1) = e + 1 := by rw [wi64]; omega
      rw [ee]
      have et : Num.top = 9223372036854775808 := rfl
      rw [et]
      refine bound_up (by omega) (by omega) (by omega) ms os ?_
      rw [pw_succ (by omega)]
      rw [em] at h'
      omega
    · rw [if_neg h0]
      have em : IntKind.u64.wrap (m + 1) = m + 1 := by rw [wu64] at h0 ⊢; omega
      have hlt : m + 1 < 18446744073709551616 := by rw [wu64] at h0; omega
      rw [em]
      exact bound_up (by omega) hlt (by omega) ms os h'

theorem Num.val_of {s : Num} (ms : s.may = true) (os : s.ok) : (0 ≤ s.val ∧ s.val = s.W) ∨ (s.val < 0 ∧ s.val = -s.W) := by
  have := W_nn s ms os
  unfold Num.val
  by_cases h : s.neg = true
  · rw [if_pos h]
    rcases Int.lt_or_le 0 s.W with g | g
    · right; omega
    · left; omega
  · rw [if_neg h]; left; omega

/-- THE RULE OF ROUNDING. -/
theorem grow_best {neg cut up : Bool} {m e T c : Int} (hm : 9223372036854775808 ≤ m) (hm' : m < 18446744073709551616) (he : -4194303 ≤ e) (he' : e ≤ 4194303) (hc : 0 < c)
    (h : if cut then m * pw e * c < T ∧ T < (m + 1) * pw e * c else T = m * pw e * c) : Best (Num.grow neg m e cut (up != neg)) up (if neg then -T else T) c := by
  have p := pw_pos e
  have p1 : 0 < m * pw e := Int.mul_pos (by omega) p
  have p2 : 0 < m * pw e * c := Int.mul_pos p1 hc
  have p3 : m * pw e * c ≤ T ∧ T < (m + 1) * pw e * c := by
    cases cut with
    | true => exact ⟨Int.le_of_lt h.1, h.2⟩
    | false =>
      have h : T = m * pw e * c := h
      have : (m + 1) * pw e * c = m * pw e * c + pw e * c := by grind
      have : 0 < pw e * c := Int.mul_pos p hc
      omega
  have S : Side (Num.grow neg m e cut (up != neg)) up (if neg then -T else T) c := by
    refine (grow_rnd (neg := neg) (cut := cut) (away := up != neg) hm hm' (e := e) he he').side p3.1 ?_ (by omega) (Int.le_of_lt hc)
    cases cut with
    | true => rw [if_pos rfl]; exact Int.le_of_lt p3.2
    | false => rw [if_neg (by decide)]; exact Int.le_of_eq h
  have dn : ∀ s : Num, s.may = true → s.ok → s.kind ≠ 2 → s.W * c ≤ T → s.W ≤ (Num.grow neg m e cut false).W := by
    intro s ms os ks hs
    refine mag_dn hm hm' he ms os ks ?_
    exact Int.lt_of_mul_lt_mul_right (a := c) (by omega) (Int.le_of_lt hc)
  have upw : ∀ s : Num, s.may = true → s.ok → T ≤ s.W * c → (Num.grow neg m e cut true).W ≤ s.W := by
    intro s ms os hs
    refine mag_up hm hm' he he' ms os ?_
    cases cut with
    | true => exact Int.lt_of_mul_lt_mul_right (a := c) (by have := h.1; omega) (Int.le_of_lt hc)
    | false =>
      have h : T = m * pw e * c := h
      exact Int.le_of_mul_le_mul_right (a := c) (by omega) hc
  have neg_mul : ∀ s : Num, -s.W * c = -(s.W * c) := fun s => Int.neg_mul _ _
  refine ⟨S.may, S.ok, S.down, ?_, ?_, S.up⟩
  · intro hu s ms os hs hv
    subst hu
    have R := grow_rnd (neg := neg) (cut := cut) (away := false != neg) hm hm' (e := e) he he'
    cases neg with
    | false =>
      have hr : (Num.grow false m e cut (false != false)).val = (Num.grow false m e cut false).W := by
        rcases R.neg with k | k
        · have : (Num.grow false m e cut (false != false)).W = 0 := by unfold Num.W; rw [if_pos k]
          rcases Num.val_of R.may R.ok with q | q
          · exact q.2
          · show _ = (Num.grow false m e cut (false != false)).W
            omega
        · unfold Num.val; rw [if_neg (by rw [k]; decide)]; rfl
      rw [hr]
      have r0 := W_nn _ R.may R.ok
      rcases Num.val_of ms os with q | q
      · rw [q.2]
        refine dn s ms os ?_ (by rw [← q.2]; exact hv)
        intro k
        have e1 := Num.inf_of ms os k
        cases hn : s.neg with
        | false => exact hs (by rw [e1, hn])
        | true =>
          rw [e1, hn, Num.val_inf] at q
          have := pw_pos 1048640
          simp at q
          omega
      · have : 0 ≤ s.W := W_nn s ms os
        show s.val ≤ (Num.grow false m e cut (false != false)).W
        omega
    | true =>
      have hr : (Num.grow true m e cut (false != true)).val = -(Num.grow true m e cut true).W := by
        rcases R.neg with k | k
        · exact absurd k (R.up rfl).1
        · unfold Num.val; rw [if_pos k]; rfl
      rw [hr]
      simp only [if_true] at hv
      rcases Num.val_of ms os with q | q
      · exfalso
        have := Int.mul_nonneg q.1 (Int.le_of_lt hc)
        omega
      · rw [q.2] at hv ⊢
        rw [neg_mul] at hv
        have := upw s ms os (by omega)
        omega
  · intro hu s ms os hs hv
    subst hu
    have R := grow_rnd (neg := neg) (cut := cut) (away := true != neg) hm hm' (e := e) he he'
    cases neg with
    | false =>
      have hr : (Num.grow false m e cut (true != false)).val = (Num.grow false m e cut true).W := by
        rcases R.neg with k | k
        · exact absurd k (R.up rfl).1
        · unfold Num.val; rw [if_neg (by rw [k]; decide)]; rfl
      rw [hr]
      simp only [Bool.false_eq_true, if_false] at hv
      rcases Num.val_of ms os with q | q
      · rw [q.2] at hv ⊢
        exact upw s ms os hv
      · exfalso
        have := Int.mul_nonneg (W_nn s ms os) (Int.le_of_lt hc)
        rw [q.2, neg_mul] at hv
        omega
    | true =>
      have hr : (Num.grow true m e cut (true != true)).val = -(Num.grow true m e cut false).W := by
        rcases R.neg with k | k
        · have : (Num.grow true m e cut (true != true)).W = 0 := by unfold Num.W; rw [if_pos k]
          rcases Num.val_of R.may R.ok with q | q
          · show _ = -(Num.grow true m e cut (true != true)).W
            omega
          · exact q.2
        · unfold Num.val; rw [if_pos k]; rfl
      rw [hr]
      have r0 := W_nn _ R.may R.ok
      simp only [if_true] at hv
      rcases Num.val_of ms os with q | q
      · have : 0 ≤ s.W := W_nn s ms os
        show -(Num.grow true m e cut (true != true)).W ≤ s.val
        omega
      · rw [q.2] at hv ⊢
        rw [neg_mul] at hv
        have := dn s ms os (by
          intro k
          have e1 := Num.inf_of ms os k
          cases hn : s.neg with
          | true => exact hs (by rw [e1, hn])
          | false =>
            rw [e1, hn, Num.val_inf] at q
            have := pw_pos 1048640
            simp at q
            omega) (by omega)
        omega
end Go.Proofs.Ytaiillbjhdoikaa.Ev

/- Products, quotients and sums are rounded as they ought to be: plain Lean. -/
namespace Go.Proofs.Ytaiillbjhdoikaa.Ev
open Go

theorem cut_div {N d P e c : Int} (hd : 0 < d) (hP : 0 < P) (hs : pw e * c = d * P) :
    if decide (N % d ≠ 0) = true then N / d * pw e * c < N * P ∧ N * P < (N / d + 1) * pw e * c else N * P = N / d * pw e * c := by
  have e1 := Int.mul_ediv_add_emod N d
  have e2 := Int.emod_nonneg N (show d ≠ 0 by omega)
  have e3 := Int.emod_lt_of_pos N hd
  have a1 : ∀ q : Int, q * pw e * c = d * q * P := fun q => by rw [Int.mul_assoc, hs]; grind
  rw [a1, a1]
  split
  · rename_i h
    simp only [decide_eq_true_eq] at h
    constructor
    · exact Int.mul_lt_mul_of_pos_right (by omega) hP
    · refine Int.mul_lt_mul_of_pos_right ?_ hP
      have : d * (N / d + 1) = d * (N / d) + d := by grind
      omega
  · rename_i h
    simp only [decide_eq_true_eq, Classical.not_not] at h
    congr 1
    omega

/-- rounded to 64 bits: N / d, of a scale -/
theorem grow_div {neg up : Bool} {N d P e c : Int} (hd : 0 < d) (hP : 0 < P) (hs : pw e * c = d * P) (hc : 0 < c) (h1 : 9223372036854775808 ≤ N / d) (h2 : N / d < 18446744073709551616) (he : -4194303 ≤ e) (he' : e ≤ 4194303) :
    Best (Num.grow neg (N / d) e (decide (N % d ≠ 0)) (up != neg)) up (if neg then -(N * P) else N * P) c :=
  grow_best h1 h2 he he' hc (cut_div hd hP hs)

theorem mulF_best {a b : Num} (ha : a.Fin) (hb : b.Fin) (up : Bool) : Best (Num.mulF a b up) up (a.val * b.val) (pw 0) := by
  rw [Num.Fin.val_mul]
  have := ha.lo; have := ha.hi; have := ha.elo; have := ha.ehi
  have := hb.lo; have := hb.hi; have := hb.elo; have := hb.ehi
  have m1 : 9223372036854775808 * 9223372036854775808 ≤ a.m * b.m := Int.mul_le_mul ha.lo hb.lo (by decide) (by omega)
  have m2 : a.m * b.m ≤ 18446744073709551615 * 18446744073709551615 := Int.mul_le_mul (by omega) (by omega) (by omega) (by decide)
  have eW : a.W * b.W = a.m * b.m * (pw (a.e + b.e) * pw 0) := by
    rw [ha.W, hb.W]
    have e := pw_mul (e := a.e) (f := b.e) (by omega) (by omega) (by omega)
    have e1 : a.m * pw a.e * (b.m * pw b.e) = a.m * b.m * (pw a.e * pw b.e) := by grind
    rw [e1, e]; grind
  have p := pw_pos (a.e + b.e)
  have p0 := pw_pos 0
  have pp := Int.mul_pos p p0
  unfold Num.mulF
  rw [eW]
  generalize a.m * b.m = p' at *
  split
  · exact grow_div (by decide) pp (by rw [pw_63 (by omega)]; grind) p0 (by omega) (by omega) (by omega) (by omega)
  · exact grow_div (by decide) pp (by rw [pw_64 (by omega)]; grind) p0 (by omega) (by omega) (by omega) (by omega)

theorem div_bounds {N d : Int} (hd : 0 < d) {l u : Int} (h1 : d * l ≤ N) (h2 : N < d * u) : l ≤ N / d ∧ N / d < u :=
  ⟨(Int.le_ediv_iff_mul_le hd).2 (by rw [Int.mul_comm]; exact h1), Int.ediv_lt_of_lt_mul hd (by rw [Int.mul_comm]; exact h2)⟩

theorem divF_best {a b : Num} (ha : a.Fin) (hb : b.Fin) (up : Bool) : Best (Num.divF a b up) up (if (a.neg != b.neg) then -(a.W * pw 0) else a.W * pw 0) b.W := by
  have := ha.lo; have := ha.hi; have := ha.elo; have := ha.ehi
  have := hb.lo; have := hb.hi; have := hb.elo; have := hb.ehi
  have p0 := pw_pos 0
  have hb0 : 0 < b.m := by omega
  unfold Num.divF
  split
  · rename_i h
    have ET : a.W * pw 0 = (a.m * 9223372036854775808) * (pw (a.e - 63) * pw 0) := by
      rw [ha.W]
      have e := pw_63 (e := a.e - 63) (by omega)
      rw [show a.e - 63 + 63 = a.e by omega] at e
      rw [e]; grind
    have pp : 0 < pw (a.e - 63) * pw 0 := Int.mul_pos (pw_pos _) p0
    obtain ⟨q1, q2⟩ := div_bounds (N := a.m * 9223372036854775808) hb0 (l := 9223372036854775808) (u := 18446744073709551616) (by omega) (by omega)
    rw [ET]
    refine grow_div hb0 pp ?_ hb.lt.1 q1 q2 (by omega) (by omega)
    rw [hb.W]
    have e := pw_mul (e := b.e) (f := a.e - b.e - 63) (by omega) (by omega) (by omega)
    rw [show b.e + (a.e - b.e - 63) = a.e - 63 by omega] at e
    have e' : pw (a.e - b.e - 63) * (b.m * pw b.e) = b.m * (pw b.e * pw (a.e - b.e - 63)) := by grind
    rw [e', e]; grind
  · rename_i h
    have ET : a.W * pw 0 = (a.m * 18446744073709551616) * (pw (a.e - 64) * pw 0) := by
      rw [ha.W]
      have e := pw_64 (e := a.e - 64) (by omega)
      rw [show a.e - 64 + 64 = a.e by omega] at e
      rw [e]; grind
    have pp : 0 < pw (a.e - 64) * pw 0 := Int.mul_pos (pw_pos _) p0
    obtain ⟨q1, q2⟩ := div_bounds (N := a.m * 18446744073709551616) hb0 (l := 9223372036854775808) (u := 18446744073709551616) (by omega) (by omega)
    rw [ET]
    refine grow_div hb0 pp ?_ hb.lt.1 q1 q2 (by omega) (by omega)
    rw [hb.W]
    have e := pw_mul (e := b.e) (f := a.e - b.e - 64) (by omega) (by omega) (by omega)
    rw [show b.e + (a.e - b.e - 64) = a.e - 64 by omega] at e
    have e' : pw (a.e - b.e - 64) * (b.m * pw b.e) = b.m * (pw b.e * pw (a.e - b.e - 64)) := by grind
    rw [e', e]; grind

/-! ### sums -/
/-- what is cut off in two steps is what is cut off in one -/
theorem cut_two {N K D : Int} (hK : 0 < K) (hD : 0 < D) : N / K / D = N / (K * D) ∧ (decide (N % K ≠ 0) || decide (N / K % D ≠ 0)) = decide (N % (K * D) ≠ 0) := by
  have h0 : N / K / D = N / (K * D) := Int.ediv_ediv_of_nonneg (Int.le_of_lt hK)
  refine ⟨h0, ?_⟩
  have h : N % (K * D) = N % K + K * (N / K % D) := by
    have e1 := Int.mul_ediv_add_emod N K
    have e2 := Int.mul_ediv_add_emod (N / K) D
    have e3 := Int.mul_ediv_add_emod N (K * D)
    rw [h0] at e2
    have e4 : K * (D * (N / (K * D)) + N / K % D) = K * D * (N / (K * D)) + K * (N / K % D) := by rw [Int.mul_add, Int.mul_assoc]
    rw [e2] at e4
    omega
  have h1 := Int.emod_nonneg N (show K ≠ 0 by omega)
  have h2 := Int.emod_nonneg (N / K) (show D ≠ 0 by omega)
  have h3 : 0 ≤ K * (N / K % D) := Int.mul_nonneg (Int.le_of_lt hK) h2
  have h4 : N / K % D ≠ 0 → 0 < K * (N / K % D) := fun g => Int.mul_pos hK (by omega)
  rw [← Bool.decide_or, decide_eq_decide, h]
  generalize N / K % D = y at *
  by_cases g : y = 0
  · subst g; simp
  · have := h4 g
    constructor
    · intro _; omega
    · intro _; exact .inr g

theorem plus_eq {a b : Num} : plusX a b = (a.m * 2 ^ (a.e - b.e).toNat + b.m) * 18446744073709551616 / 2 ^ (a.e - b.e).toNat ∧ plusC a b = decide ((a.m * 2 ^ (a.e - b.e).toNat + b.m) * 18446744073709551616 % 2 ^ (a.e - b.e).toNat ≠ 0) := by
  have p := two_pos (a.e - b.e).toNat
  have e : (a.m * 2 ^ (a.e - b.e).toNat + b.m) * 18446744073709551616 = b.m * 18446744073709551616 + a.m * 18446744073709551616 * 2 ^ (a.e - b.e).toNat := by grind
  unfold plusX plusC
  rw [e]
  constructor
  · rw [Int.add_mul_ediv_right _ _ (by omega), Int.add_comm]
  · rw [Int.add_mul_emod_self_right]

theorem same_div {N M K D : Int} (hM : 0 < M) : N * M / (K * (M * D)) = N / (K * D) ∧ decide (N * M % (K * (M * D)) ≠ 0) = decide (N % (K * D) ≠ 0) := by
  have e : K * (M * D) = M * (K * D) := Int.mul_left_comm ..
  rw [e, Int.mul_comm N M]
  constructor
  · exact Int.mul_ediv_mul_of_pos _ _ hM
  · rw [Int.mul_emod_mul_of_pos _ _ hM, decide_eq_decide]
    constructor
    · intro h g; exact h (by rw [g]; simp)
    · intro h g
      rcases Int.mul_eq_zero.1 g with q | q
      · omega
      · exact h q

theorem plusP_best {a b : Num} (ha : a.Fin) (hb : b.Fin) (hk : b.e ≤ a.e) (hs : a.neg = b.neg) (up : Bool) : Best (plusP a b up) up (a.val + b.val) 1 := by
  have := ha.lo; have := ha.hi; have := ha.elo; have := ha.ehi
  have := hb.lo; have := hb.hi; have := hb.elo; have := hb.ehi
  have p := two_pos (a.e - b.e).toNat
  have pb := pw_pos b.e
  have ea := pw_split (e := b.e) (f := a.e) (by omega) hk
  have hv : a.val + b.val = if a.neg then -((a.m * 2 ^ (a.e - b.e).toNat + b.m) * pw b.e) else (a.m * 2 ^ (a.e - b.e).toNat + b.m) * pw b.e := by
    unfold Num.val
    rw [← hs, ha.W, hb.W, ea]
    cases a.neg <;> simp <;> grind
  rw [hv]
  unfold plusP
  rw [plus_eq.1, plus_eq.2]
  generalize hN : a.m * 2 ^ (a.e - b.e).toNat + b.m = N at *
  have b1 : 2 ^ (a.e - b.e).toNat * 9223372036854775808 ≤ N := by
    have : 9223372036854775808 * 2 ^ (a.e - b.e).toNat ≤ a.m * 2 ^ (a.e - b.e).toNat := Int.mul_le_mul_of_nonneg_right (by omega) (Int.le_of_lt p)
    omega
  have b2 : N < 2 ^ (a.e - b.e).toNat * 36893488147419103232 := by
    have h1 : a.m * 2 ^ (a.e - b.e).toNat ≤ 18446744073709551615 * 2 ^ (a.e - b.e).toNat := Int.mul_le_mul_of_nonneg_right (by omega) (Int.le_of_lt p)
    omega
  generalize (2 : Int) ^ (a.e - b.e).toNat = K at *
  obtain ⟨q1, q2⟩ := cut_two (N := N * 18446744073709551616) (K := K) (D := 18446744073709551616) p (by decide)
  obtain ⟨q3, q4⟩ := cut_two (N := N * 18446744073709551616) (K := K) (D := 36893488147419103232) p (by decide)
  obtain ⟨r1, r2⟩ := same_div (N := N) (M := 18446744073709551616) (K := K) (D := 1) (by decide)
  obtain ⟨r3, r4⟩ := same_div (N := N) (M := 18446744073709551616) (K := K) (D := 2) (by decide)
  rw [show (18446744073709551616 : Int) * 1 = 18446744073709551616 by decide] at r1 r2
  rw [show (18446744073709551616 : Int) * 2 = 36893488147419103232 by decide] at r3 r4
  rw [q2, q4, q1, q3, r1, r2, r3, r4, Int.mul_one]
  split
  · rename_i h
    have h3 : N / K < 18446744073709551616 := by
      rw [← Int.mul_one K, ← r1, ← q1]
      exact Int.ediv_lt_of_lt_mul (by decide) (by omega)
    exact grow_div p pb (by rw [ea]; grind) (by decide) (div_bounds p b1 b2).1 h3 (by omega) (by omega)
  · rename_i h
    have h3 : 9223372036854775808 ≤ N / (K * 2) := by
      rw [← r3, ← q3]
      exact (Int.le_ediv_iff_mul_le (by decide)).2 (by omega)
    exact grow_div (by omega) pb (by rw [pw_succ (by omega), ea]; grind) (by decide) h3 (Int.ediv_lt_of_lt_mul (by omega) (by omega)) (by omega) (by omega)

theorem neg_div {x K : Int} (hK : 0 < K) : (-x) / K = -(x / K) - (if decide (x % K ≠ 0) = true then 1 else 0) ∧ decide ((-x) % K ≠ 0) = decide (x % K ≠ 0) := by
  have e1 := Int.mul_ediv_add_emod x K
  have e2 := Int.emod_nonneg x (show K ≠ 0 by omega)
  have e3 := Int.emod_lt_of_pos x hK
  have f1 := Int.mul_ediv_add_emod (-x) K
  have f2 := Int.emod_nonneg (-x) (show K ≠ 0 by omega)
  have f3 := Int.emod_lt_of_pos (-x) hK
  have g : K * (x / K + (-x) / K) = -(x % K + (-x) % K) := by rw [Int.mul_add]; omega
  generalize x / K = p at *
  generalize (-x) / K = q at *
  generalize x % K = r at *
  generalize (-x) % K = s at *
  have h1 : p + q ≤ 0 := by
    rcases Int.lt_or_le 0 (p + q) with h | h
    · have := Int.mul_le_mul_of_nonneg_left (c := K) (show 1 ≤ p + q by omega) (by omega)
      omega
    · exact h
  have h2 : -1 ≤ p + q := by
    rcases Int.lt_or_le (p + q) (-1) with h | h
    · have := Int.mul_le_mul_of_nonneg_left (c := K) (show p + q ≤ -2 by omega) (by omega)
      omega
    · exact h
  rcases (show p + q = 0 ∨ p + q = -1 by omega) with h | h
  · rw [h] at g
    simp only [Int.mul_zero] at g
    have hr : r = 0 := by omega
    have hs : s = 0 := by omega
    subst hr; subst hs
    exact ⟨by simp; omega, rfl⟩
  · rw [h] at g
    have hr : r ≠ 0 := by intro hr; omega
    have hs : s ≠ 0 := by intro hs; omega
    exact ⟨by simp [hr]; omega, by simp [hr, hs]⟩

theorem minus_eq {a b : Num} : minusZ a b = (a.m * 2 ^ (a.e - b.e).toNat - b.m) * 18446744073709551616 / 2 ^ (a.e - b.e).toNat ∧
    plusC a b = decide ((a.m * 2 ^ (a.e - b.e).toNat - b.m) * 18446744073709551616 % 2 ^ (a.e - b.e).toNat ≠ 0) := by
  have p := two_pos (a.e - b.e).toNat
  have e : (a.m * 2 ^ (a.e - b.e).toNat - b.m) * 18446744073709551616 = -(b.m * 18446744073709551616) + a.m * 18446744073709551616 * 2 ^ (a.e - b.e).toNat := by grind
  obtain ⟨n1, n2⟩ := neg_div (x := b.m * 18446744073709551616) p
  unfold minusZ plusC
  rw [e]
  constructor
  · rw [Int.add_mul_ediv_right _ _ (by omega), n1]
    omega
  · rw [Int.add_mul_emod_self_right, n2]

theorem minusP_best {a b : Num} (ha : a.Fin) (hb : b.Fin) (hk : b.e ≤ a.e) (hgt : b.e < a.e ∨ b.m < a.m) (hs : a.neg ≠ b.neg) (up : Bool) : Best (minusP a b up) up (a.val + b.val) 1 := by
  have := ha.lo; have := ha.hi; have := ha.elo; have := ha.ehi
  have := hb.lo; have := hb.hi; have := hb.elo; have := hb.ehi
  have p := two_pos (a.e - b.e).toNat
  have ea := pw_split (e := b.e) (f := a.e) (by omega) hk
  have hv : a.val + b.val = if a.neg then -((a.m * 2 ^ (a.e - b.e).toNat - b.m) * 18446744073709551616 * pw (b.e - 64)) else (a.m * 2 ^ (a.e - b.e).toNat - b.m) * 18446744073709551616 * pw (b.e - 64) := by
    have e64 := pw_64 (e := b.e - 64) (by omega)
    rw [show b.e - 64 + 64 = b.e by omega] at e64
    have : (a.m * 2 ^ (a.e - b.e).toNat - b.m) * 18446744073709551616 * pw (b.e - 64) = a.m * pw a.e - b.m * pw b.e := by rw [ea, e64]; grind
    rw [this]
    unfold Num.val
    rw [ha.W, hb.W]
    have hbn : b.neg = !a.neg := by cases h : a.neg <;> cases h2 : b.neg <;> simp_all
    rw [hbn]
    cases a.neg <;> simp <;> omega
  obtain ⟨z0, z1, _, _, _⟩ := minus_parts ha hb hk hgt rfl rfl rfl rfl rfl
  obtain ⟨n, k1, k2, k3⟩ := blen_pos z0
  have bl := blen_le 128 (x := minusZ a b) (by exact z1)
  have pb := pw_pos (b.e - 64)
  rw [hv]
  unfold minusP
  obtain ⟨hZ, hC⟩ := minus_eq (a := a) (b := b)
  have hKN : a.m * 2 ^ (a.e - b.e).toNat - b.m ≥ 9223372036854775808 * 2 ^ (a.e - b.e).toNat - 18446744073709551616 := by
    have : 9223372036854775808 * 2 ^ (a.e - b.e).toNat ≤ a.m * 2 ^ (a.e - b.e).toNat := Int.mul_le_mul_of_nonneg_right (by omega) (Int.le_of_lt p)
    omega
  rw [hC]
  generalize hN : (a.m * 2 ^ (a.e - b.e).toNat - b.m) * 18446744073709551616 = N at *
  generalize minusZ a b = Z at *
  have big1 : 170141183460469231731687303715884105728 ≤ Z * 2 ^ (128 - blen Z).toNat := by
    have g : (170141183460469231731687303715884105728 : Int) = 2 ^ n * 2 ^ (128 - blen Z).toNat := by
      rw [← Int.pow_add, show n + (128 - blen Z).toNat = 127 by omega]; rfl
    rw [g]
    exact Int.mul_le_mul_of_nonneg_right k2 (Int.le_of_lt (two_pos _))
  have big2 : Z * 2 ^ (128 - blen Z).toNat < 340282366920938463463374607431768211456 := by
    have g : (340282366920938463463374607431768211456 : Int) = 2 ^ (n + 1) * 2 ^ (128 - blen Z).toNat := by
      rw [← Int.pow_add, show n + 1 + (128 - blen Z).toNat = 128 by omega]; rfl
    rw [g]
    exact Int.mul_lt_mul_of_pos_right k3 (two_pos _)
  have m1 : 9223372036854775808 ≤ Z * 2 ^ (128 - blen Z).toNat / 18446744073709551616 := by omega
  have m2 : Z * 2 ^ (128 - blen Z).toNat / 18446744073709551616 < 18446744073709551616 := by omega
  generalize hS : 128 - blen Z = s at *
  have s0 : 0 ≤ s := by omega
  by_cases h64 : s ≤ 64
  · have e64 := two_64 (k := s) s0 h64
    have q := two_pos s.toNat
    have q' := two_pos (64 - s).toNat
    obtain ⟨r1, r2⟩ := same_div (N := Z) (M := 2 ^ s.toNat) (K := 1) (D := 2 ^ (64 - s).toNat) q
    rw [Int.one_mul, Int.one_mul, Int.mul_comm (2 ^ s.toNat) (2 ^ (64 - s).toNat), ← e64] at r1 r2
    rw [r1] at m1 m2 ⊢
    rw [r2]
    obtain ⟨c1, c2⟩ := cut_two (N := N) (K := 2 ^ (a.e - b.e).toNat) (D := 2 ^ (64 - s).toNat) p q'
    rw [hZ] at m1 m2 ⊢
    rw [c1] at m1 m2
    rw [c1, c2]
    refine grow_div (Int.mul_pos p q') pb ?_ (by decide) m1 m2 (by omega) (by omega)
    rw [Int.mul_one, pw_split (e := b.e - 64) (f := a.e - s) (by omega) (by omega)]
    congr 1
    rw [← Int.pow_add]
    congr 1
    omega
  · have hz64 : Z < 18446744073709551616 := by
      have : (2 : Int) ^ (n + 1) ≤ 2 ^ 64 := by
        have := Nat.pow_le_pow_right (n := 2) (by omega) (show n + 1 ≤ 64 by omega)
        have e1 : ((2 ^ (n + 1) : Nat) : Int) = (2 : Int) ^ (n + 1) := by push_cast; rfl
        rw [← e1]; exact Int.ofNat_le.2 this
      have e2 : (2 : Int) ^ 64 = 18446744073709551616 := by decide
      omega
    have hcf : N % 2 ^ (a.e - b.e).toNat = 0 := by
      by_cases hk64 : a.e - b.e ≤ 64
      · have e64 := two_64 (k := a.e - b.e) (by omega) hk64
        rw [← hN, e64, ← Int.mul_assoc, Int.mul_emod_left]
      · exfalso
        have hK : 36893488147419103232 ≤ (2 : Int) ^ (a.e - b.e).toNat := by
          have := Nat.pow_le_pow_right (n := 2) (by omega) (show 65 ≤ (a.e - b.e).toNat by omega)
          have e1 : ((2 ^ (a.e - b.e).toNat : Nat) : Int) = (2 : Int) ^ (a.e - b.e).toNat := by push_cast; rfl
          rw [← e1]; exact Int.ofNat_le.2 this
        have : 18446744073709551616 ≤ N / 2 ^ (a.e - b.e).toNat := by
          refine (Int.le_ediv_iff_mul_le p).2 ?_
          rw [← hN]
          generalize (2 : Int) ^ (a.e - b.e).toNat = K at *
          generalize a.m * K - b.m = M at *
          omega
        omega
    have e1 : Z * 2 ^ s.toNat = Z * 2 ^ (s - 64).toNat * 18446744073709551616 := by
      rw [Int.mul_assoc]
      congr 1
      rw [show (18446744073709551616 : Int) = 2 ^ 64 by decide, ← Int.pow_add]
      congr 1
      omega
    have e2 : Z * 2 ^ s.toNat % 18446744073709551616 = 0 := by rw [e1]; exact Int.mul_emod_left _ _
    have e3 : Z * 2 ^ s.toNat / 18446744073709551616 = Z * 2 ^ (s - 64).toNat := by rw [e1]; exact Int.mul_ediv_cancel _ (by decide)
    rw [hcf, e2]
    refine grow_best (cut := _) m1 m2 (by omega) (by omega) (by decide) ?_
    simp only [ne_eq, not_true_eq_false, decide_false, Bool.or_self, Bool.false_eq_true, if_false]
    rw [e3, Int.mul_one]
    have e4 : N = Z * 2 ^ (a.e - b.e).toNat := by
      have := Int.mul_ediv_add_emod N (2 ^ (a.e - b.e).toNat)
      rw [← hZ, hcf] at this
      rw [Int.mul_comm Z]
      omega
    have e5 := pw_split (e := b.e - 64) (f := a.e - 64) (by omega) (by omega)
    rw [show a.e - 64 - (b.e - 64) = a.e - b.e by omega] at e5
    have e6 := pw_split (e := a.e - s) (f := a.e - 64) (by omega) (by omega)
    rw [show a.e - 64 - (a.e - s) = s - 64 by omega] at e6
    rw [e4, Int.mul_assoc, ← e5, e6, Int.mul_assoc]

/-! ### the operations on any numbers -/
theorem Best.self {r : Num} {up : Bool} (m : r.may = true) (o : r.ok) (k : r.kind ≠ 2) {t c : Int} (hc : 0 < c) (ht : r.val * c = t) : Best r up t c := by
  have n : ∀ b, r ≠ Num.inf b := fun b g => k (by rw [g]; rfl)
  refine ⟨m, o, fun _ => ⟨n _, .inr (by omega)⟩, fun _ x _ _ _ hx => ?_, fun _ x _ _ _ hx => ?_, fun _ => ⟨n _, .inr (by omega)⟩⟩
  · exact Int.le_of_mul_le_mul_right (a := c) (by omega) hc
  · exact Int.le_of_mul_le_mul_right (a := c) (by omega) hc

theorem Num.fair_fin {a : Num} (oa : a.ok) (k0 : a.fair.kind ≠ 0) (k2 : a.fair.kind ≠ 2) : a.fair.Fin := by
  rcases Num.may3 a.fair_may (Num.fair_ok oa) with h | h | h
  · rw [h] at k0; simp [Num.zero] at k0
  · exact h
  · rw [h] at k2; simp [Num.inf] at k2
theorem Num.fair_zero {a : Num} (oa : a.ok) (k0 : a.fair.kind = 0) : a.fair = Num.zero := by
  rcases Num.may3 a.fair_may (Num.fair_ok oa) with h | h | h
  · exact h
  · have := h.kind; omega
  · rw [h] at k0; simp [Num.inf] at k0

theorem mul_best {a b : Num} (oa : a.ok) (ob : b.ok) (ka : a.fair.kind ≠ 2) (kb : b.fair.kind ≠ 2) (up : Bool) : Best (Num.mul a b up) up (a.fair.val * b.fair.val) (pw 0) := by
  unfold Num.mul
  by_cases h : a.fair.kind = 0 ∨ b.fair.kind = 0
  · rw [if_pos h]
    refine Best.self Num.zero_may Num.zero_ok (by decide) (pw_pos 0) ?_
    rw [Num.val_zero]
    rcases h with h | h
    · rw [Num.fair_zero oa h, Num.val_zero]; simp
    · rw [Num.fair_zero ob h, Num.val_zero]; simp
  · rw [if_neg h, if_neg (by omega)]
    exact mulF_best (Num.fair_fin oa (by omega) ka) (Num.fair_fin ob (by omega) kb) up

theorem addS_best {a b : Num} (ha : a.Fin) (hb : b.Fin) (hk : b.e < a.e ∨ (b.e = a.e ∧ b.m ≤ a.m)) (up : Bool) : Best (Num.addS a b up) up (a.val + b.val) 1 := by
  unfold Num.addS
  split
  · exact plusP_best ha hb (by omega) ‹_› up
  · rename_i hn
    split
    · rename_i h
      refine Best.self Num.zero_may Num.zero_ok (by decide) (by decide) ?_
      rw [Num.val_zero]
      unfold Num.val
      rw [ha.W, hb.W, h.1, h.2]
      have hbn : b.neg = !a.neg := by cases h : a.neg <;> cases h2 : b.neg <;> simp_all
      rw [hbn]
      cases a.neg <;> simp <;> omega
    · exact minusP_best ha hb (by omega) (by omega) hn up

theorem add_best {a b : Num} (oa : a.ok) (ob : b.ok) (ka : a.fair.kind ≠ 2) (kb : b.fair.kind ≠ 2) (up : Bool) : Best (Num.add a b up) up (a.fair.val + b.fair.val) 1 := by
  unfold Num.add
  rw [if_neg (by omega)]
  split
  · rename_i h
    have h : b.fair.kind = 0 := by omega
    exact Best.self a.fair_may (Num.fair_ok oa) ka (by decide) (by rw [Num.fair_zero ob h, Num.val_zero]; omega)
  · split
    · rename_i h
      have h : a.fair.kind = 0 := by omega
      exact Best.self b.fair_may (Num.fair_ok ob) kb (by decide) (by rw [Num.fair_zero oa h, Num.val_zero]; omega)
    · have FA := Num.fair_fin oa (by omega) ka
      have FB := Num.fair_fin ob (by omega) kb
      unfold Num.addF
      split
      · rw [Int.add_comm]; exact addS_best FB FA (by omega) up
      · exact addS_best FA FB (by omega) up

theorem div_best {a b : Num} (oa : a.ok) (ob : b.ok) (ka : a.fair.kind ≠ 2) (kb : b.fair.kind = 1) (up : Bool) : Best (Num.div a b up) up (if b.fair.neg then -(a.fair.val * pw 0) else a.fair.val * pw 0) b.fair.W := by
  have FB := Num.fair_fin ob (by omega) (by omega)
  unfold Num.div
  rw [if_neg (by omega)]
  split
  · rename_i h
    have h : a.fair.kind = 0 := by omega
    refine Best.self Num.zero_may Num.zero_ok (by decide) FB.lt.1 ?_
    rw [Num.fair_zero oa h, Num.val_zero]
    split <;> simp
  · have FA := Num.fair_fin oa (by omega) ka
    have := divF_best FA FB up
    have e : (if b.fair.neg then -(a.fair.val * pw 0) else a.fair.val * pw 0) = (if (a.fair.neg != b.fair.neg) then -(a.fair.W * pw 0) else a.fair.W * pw 0) := by
      unfold Num.val
      cases a.fair.neg <;> cases b.fair.neg <;> simp [Int.neg_mul]
    rw [e]
    exact this
end Go.Proofs.Ytaiillbjhdoikaa.Ev

/- The reference's rounding is the best; its products and quotients are the program's: plain Lean. -/
namespace Go.Proofs.Ytaiillbjhdoikaa.Ev
open Go

/-- an odd number times a power of two, as a value -/
def dyv (p : Bool × Nat × Int) : Int := if p.1 then -((p.2.1 : Int) * pw p.2.2) else (p.2.1 : Int) * pw p.2.2
theorem Best.scale {r : Num} {up : Bool} {t c : Int} (h : Best r up t 1) (hc : 0 < c) : Best r up (t * c) c := by
  refine ⟨h.may, h.ok, fun u => ⟨(h.down u).1, ?_⟩, fun u s ms os ks hs => ?_, fun u s ms os ks hs => ?_, fun u => ⟨(h.hi u).1, ?_⟩⟩
  · rcases (h.down u).2 with k | k
    · exact .inl k
    · exact .inr (Int.mul_le_mul_of_nonneg_right (by omega) (Int.le_of_lt hc))
  · exact h.dopt u s ms os ks (by have := Int.le_of_mul_le_mul_right hs hc; omega)
  · exact h.uopt u s ms os ks (by have := Int.le_of_mul_le_mul_right hs hc; omega)
  · rcases (h.hi u).2 with k | k
    · exact .inl k
    · exact .inr (Int.mul_le_mul_of_nonneg_right (by omega) (Int.le_of_lt hc))

end Go.Proofs.Ytaiillbjhdoikaa.Ev

/- The reference's sums are the program's: plain Lean. -/
namespace Go.Proofs.Ytaiillbjhdoikaa.Ev
open Go

/-- a number as an odd one times a power of two; or nought -/
structure Dy (p : Bool × Nat × Int) (t : Int) : Prop where
  odd : p = (false, 0, 0) ∨ p.2.1 % 2 = 1
  lo : -1048576 ≤ p.2.2
  hi : p.2.2 ≤ 1048640
  lt : p.2.1 < 18446744073709551616
  val : dyv p = t
end Go.Proofs.Ytaiillbjhdoikaa.Ev

/- Contracts: whole numbers of any length. Printed by gen.py. -/
namespace Go.Proofs.Ytaiillbjhdoikaa.Ev
open Go Go.Proofs
set_option linter.unusedVariables false
set_option linter.unusedSimpArgs false

attribute [local irreducible] Lb
theorem mulLen {a b : List Int} (ha : Lb a) (hb : Lb b) : (lim (lv a * lv b)).length ≤ a.length + b.length :=
  lim_length_le (by rw [Nat.pow_add]; exact Nat.mul_lt_mul'' (lv_lt ha) (lv_lt hb))
theorem limp (n : Nat) : 0 < (lim n).length ↔ n ≠ 0 := by
  constructor
  · intro h e; rw [e] at h; exact absurd h (by decide)
  · intro h
    rcases Nat.eq_zero_or_pos (lim n).length with k | k
    · exact absurd (lim_eq_nil.1 (List.length_eq_zero_iff.1 k)) h
    · exact k
theorem c_wMake (neg : Bool) (m : List Int) (hm_ : Lb m) (hl : m.length ≤ 268435456) : ∃ t : Bool × List Int, t = (neg && decide (lv m ≠ 0), lim (lv m)) ∧ CallsA Try.prog 41 [.bool (.s neg), .sli .u32 m] (.agg [.bool (.s t.1), .sli .u32 t.2]) := by
  refine ⟨_, rfl, ?_⟩
  generalize hr : ((neg && decide (lv m ≠ 0), lim (lv m)) : Bool × List Int) = r
  have pos := limp (lv m)
  obtain ⟨x, ex⟩ : ∃ x, lim (lv m) = x := ⟨_, rfl⟩
  rw [ex] at hr pos
  have yes : neg = true → ∀ b : Bool, b = decide ((0 : Int) < (x.length : Int)) → (b, x) = r := by
    intro h b hb
    rw [← hr, h, hb]
    have : decide ((0 : Int) < (x.length : Int)) = decide (lv m ≠ 0) := by
      by_cases z : lv m = 0
      · rw [decide_eq_false (by have := fun q => pos.1 q; omega), decide_eq_false (by simp [z])]
      · rw [decide_eq_true (by have := pos.2 z; omega), decide_eq_true z]
    rw [this]; rfl
  have no : neg = false → (false, x) = r := by intro h; rw [← hr, h]; rfl
  clear hr pos
  refine callsA_of hG hm Try.func41 (by kernel_rfl) ?_
  intro E hE lp hl'
  cbv
  (first | (apply E_pcallX hE (c_Trim _ hm_ ?_); (case hm => rfl); (case hle => (repeat' (first | exact u_nil | apply u_cons | apply u2_agg | exact u2_int | exact u1_int | exact u2_bool | exact u1_bool | exact u2_sli | exact u1_sli | exact u2_s0 | exact u1_s0))); all_goals (first | (intro y hy; cbv) | (exact hl))) | (apply E_callX hE (c_Trim _ hm_ ?_); (case hf => rfl); (case hc => (cbv <;> trivial)); (case hle => (repeat' (first | exact u_nil | apply u_cons | apply u2_agg | exact u2_int | exact u1_int | exact u2_bool | exact u1_bool | exact u2_sli | exact u1_sli | exact u2_s0 | exact u1_s0))); all_goals (first | (intro y hy; cbv) | (exact hl))))
  have Y : y = x := hy.trans ex
  rw [Y]
  clear hy Y
  refine E_br hE (fun g => ?_) (fun g => ?_) <;> cbv
  · rw [← yes g (E.cmp .gtr (E.len x) 0) (by subst hE; rfl)]; exact ⟨rfl, rfl, trivial⟩
  · rw [← no g]; exact ⟨rfl, rfl, trivial⟩

theorem c_wMul2 (na : Bool) (a : List Int) (nb : Bool) (b : List Int) (ha : Lb a) (hb : Lb b) (hla : a.length < 60000000) (hlb : b.length < 60000000) :
    ∃ t : Bool × List Int, t = ((na != nb) && decide (lv a * lv b ≠ 0), lim (lv a * lv b)) ∧ CallsA Try.prog 19 [.slc 2 (.l 2) (fun i => getRow [[.bool (.s na), .sli .u32 a], [.bool (.s nb), .sli .u32 b]] (Int.ofNat i))] (.agg [.bool (.s t.1), .sli .u32 t.2]) := by
  refine ⟨_, rfl, ?_⟩
  generalize hr : (((na != nb) && decide (lv a * lv b ≠ 0), lim (lv a * lv b)) : Bool × List Int) = r
  have l1 : Lb [(1 : Int)] := Lb.cons (by decide) (by decide) Lb.nil
  have m1 : ∀ u, u = lim (lv [(1 : Int)] * lv a) → Lb u ∧ u.length < 134217728 ∧ lv u = lv a := by
    intro u hu
    have e : lv [(1 : Int)] * lv a = lv a := by show 1 * lv a = lv a; omega
    rw [e] at hu
    have l := lim_length_le' ha
    rw [hu]; exact ⟨lim_lb _, by omega, lv_lim _⟩
  have m2 : ∀ u v, lv u = lv a → v = lim (lv u * lv b) → Lb v ∧ v.length ≤ 268435456 ∧ lv v = lv a * lv b := by
    intro u v hu hv
    rw [hu] at hv
    have l := mulLen ha hb
    rw [hv]; exact ⟨lim_lb _, by omega, lv_lim _⟩
  have fin : ∀ v (t : Bool × List Int) (n : Bool), lv v = lv a * lv b → n = (na != nb) → t = (n && decide (lv v ≠ 0), lim (lv v)) → t = r := by
    intro v t n h1 h2 h3; rw [h3, h1, h2, hr]
  clear hr
  refine callsA_of hG hm Try.func19 (by kernel_rfl) ?_
  intro E hE lp hl'
  have es : E.sub [1] 0 1 = [1] := by subst hE; rfl
  cbv
  refine E_frz hE hl' (d := 4) rfl rfl rfl trivial ?_
  refine E_rounds hE hG hm hl' 3 ?_
  cbv
  (first | (apply E_pcallX hE (c_natMul _ _ ?_ ha ?_ ?_); (case hm => rfl); (case hle => (repeat' (first | exact u_nil | apply u_cons | apply u2_agg | exact u2_int | exact u1_int | exact u2_bool | exact u1_bool | exact u2_sli | exact u1_sli | exact u2_s0 | exact u1_s0))); all_goals (first | (intro u hu; cbv) | (first | (show Lb (E.sub [1] 0 1); rw [es]; exact l1) | (show (E.sub [1] 0 1).length < 134217728; rw [es]; show (1 : Nat) < 134217728; decide) | exact Nat.lt_of_lt_of_le hla (by decide)))) | (apply E_callX hE (c_natMul _ _ ?_ ha ?_ ?_); (case hf => rfl); (case hc => (cbv <;> trivial)); (case hle => (repeat' (first | exact u_nil | apply u_cons | apply u2_agg | exact u2_int | exact u1_int | exact u2_bool | exact u1_bool | exact u2_sli | exact u1_sli | exact u2_s0 | exact u1_s0))); all_goals (first | (intro u hu; cbv) | (first | (show Lb (E.sub [1] 0 1); rw [es]; exact l1) | (show (E.sub [1] 0 1).length < 134217728; rw [es]; show (1 : Nat) < 134217728; decide) | exact Nat.lt_of_lt_of_le hla (by decide)))))
  have U := m1 u (by have k : u = lim (lv (E.sub [1] 0 1) * lv a) := hu; rw [es] at k; exact k)
  clear hu m1
  (first | (apply E_pcallX hE (c_natMul _ _ U.1 hb U.2.1 ?_); (case hm => rfl); (case hle => (repeat' (first | exact u_nil | apply u_cons | apply u2_agg | exact u2_int | exact u1_int | exact u2_bool | exact u1_bool | exact u2_sli | exact u1_sli | exact u2_s0 | exact u1_s0))); all_goals (first | (intro v hv; cbv) | (exact Nat.lt_of_lt_of_le hlb (by decide)))) | (apply E_callX hE (c_natMul _ _ U.1 hb U.2.1 ?_); (case hf => rfl); (case hc => (cbv <;> trivial)); (case hle => (repeat' (first | exact u_nil | apply u_cons | apply u2_agg | exact u2_int | exact u1_int | exact u2_bool | exact u1_bool | exact u2_sli | exact u1_sli | exact u2_s0 | exact u1_s0))); all_goals (first | (intro v hv; cbv) | (exact Nat.lt_of_lt_of_le hlb (by decide)))))
  have V := m2 u v U.2.2 hv
  clear hv m2
  (first | (apply E_pcallX hE (c_wMake _ _ V.1 V.2.1); (case hm => rfl); (case hle => (repeat' (first | exact u_nil | apply u_cons | apply u2_agg | exact u2_int | exact u1_int | exact u2_bool | exact u1_bool | exact u2_sli | exact u1_sli | exact u2_s0 | exact u1_s0))); all_goals (first | (intro t ht; cbv) | (assumption))) | (apply E_callX hE (c_wMake _ _ V.1 V.2.1); (case hf => rfl); (case hc => (cbv <;> trivial)); (case hle => (repeat' (first | exact u_nil | apply u_cons | apply u2_agg | exact u2_int | exact u1_int | exact u2_bool | exact u1_bool | exact u2_sli | exact u1_sli | exact u2_s0 | exact u1_s0))); all_goals (first | (intro t ht; cbv) | (assumption))))
  rw [← fin v t _ V.2.2 (by subst hE; cases na <;> cases nb <;> rfl) ht]; exact ⟨rfl, rfl, trivial⟩
end Go.Proofs.Ytaiillbjhdoikaa.Ev

/- Contracts: limbs shifted. Printed by gen.py. -/
namespace Go.Proofs.Ytaiillbjhdoikaa.Ev
open Go Go.Proofs
set_option linter.unusedVariables false
set_option linter.unusedSimpArgs false


attribute [local irreducible] Lb
def shlS (E : Env) (x : List Int) (l r : Int) : Int × List Int → St := fun p => ⟨[(0, .sli .u32 x), (5, .int .i64 (.s l)), (6, .int .i64 (.s r)), (7, .ms 0 1 (.l 0) (.s (E.bin .add .i64 (E.bin .add .i64 (E.len x) l) 1))), (36, .sli .u32 x), (37, .int .i64 (.s (E.len x))), (38, .int .i64 (.s p.1))], [.ints true .u32 p.2]⟩
set_option maxHeartbeats 1000000 in
theorem c_natShl (a : List Int) (n : Int) (ha : Lb a) (hla : a.length < 67108864) : ∃ t : List Int, t = (if n < 1 then lim (lv a) else if 16777216 < n then [] else lim (lv a * 2 ^ n.toNat)) ∧ CallsA Try.prog 57 [.sli .u32 a, .int .i64 (.s n)] (.sli .u32 t) := by
  refine ⟨_, rfl, ?_⟩
  generalize hr : (if n < 1 then lim (lv a) else if 16777216 < n then [] else lim (lv a * 2 ^ n.toNat)) = r
  have hlx := lim_length_le' ha
  have hx := lim_lb (lv a)
  have vx := lv_lim (lv a)
  obtain ⟨x, ex⟩ : ∃ x, lim (lv a) = x := ⟨_, rfl⟩
  rw [ex] at hlx hx vx
  obtain ⟨m, em⟩ : ∃ m : Int × List Int → Nat, ∀ p, m p = (x.length - p.1).toNat := ⟨_, fun _ => rfl⟩
  obtain ⟨ok, eok⟩ : ∃ ok : Int × List Int → Prop, ∀ p, ok p ↔ 0 ≤ p.1 ∧ p.1 ≤ x.length ∧ ShlInv x p.2 (n / 32).toNat (n % 32).toNat p.1.toNat := ⟨_, fun _ => Iff.rfl⟩
  have eN : ∀ l : Int, 1 ≤ n → n ≤ 16777216 → l = intBinR .quo .i64 n 32 → IntKind.i64.wrap (IntKind.i64.wrap ((x.length : Int) + l) + 1) = x.length + n / 32 + 1 := by
    intro l n1 n2 el
    have : l = n / 32 := by rw [el]; exact quo32 (by omega) (by omega)
    rw [this, wi64_id (n := (x.length : Int) + n / 32) (by omega) (by omega), wi64_id (by omega) (by omega)]
  refine callsA_of hG hm Try.func57 (by kernel_rfl) ?_
  intro E hE lp hl
  cbv
  (apply E_callX hE (c_cut a ha (by omega)); (case hf => rfl); (case hc => (cbv <;> trivial)); (case hle => exact ⟨u2_sli, trivial⟩); intro x' hx'; cbv)
  rw [hx'.trans ex]
  clear hx' x'
  refine E_br hE (fun h => ?_) (fun h => ?_)
  · have e : x = r := by subst hE; rw [← hr, if_pos (lss_t h), ex]
    cbv
    repeat' (first
    | (refine E_br hE (fun h => ?_) (fun h => ?_) <;> cbv)
    | (refine E_nm hE (fun v hv => ?_); cbv)
    | (refine E_nilS hE (fun b hb => ?_); cbv)
    | (apply E_callX hE (c_Clone _ ?_); (case hf => rfl); (case hc => (cbv <;> trivial)); (case hle => exact u_up); all_goals (first | (intro t ht; cbv) | (omega)))
    | fail)
    exact ‹_ = x›.trans e
  have n1 : 1 ≤ n := by subst hE; have := lss_f h; omega
  cbv
  repeat' (first
    | (refine E_br hE (fun h => ?_) (fun h => ?_) <;> cbv)
    | (refine E_nm hE (fun v hv => ?_); cbv)
    | (refine E_nilS hE (fun b hb => ?_); cbv)
    | fail)
  · have n2 : 16777216 < n := by subst hE; exact gtr_t ‹_›
    rw [← hr, if_neg (by omega), if_pos n2]
  · have e0 : x.length = 0 := by subst hE; have := eql_t h; simp only [realE] at this; omega
    have e1 : x = [] := List.length_eq_zero_iff.1 e0
    rw [e1] at vx
    rw [← hr, if_neg (by omega)]
    split
    · rfl
    · rw [← vx]; simp [lv, lim_zero]
  all_goals (have n2 : n ≤ 16777216 := (by subst hE; have := gtr_f ‹(realE Try.prog).cmp .gtr n 16777216 = false›; omega))
  all_goals (try (exfalso; have := eN _ n1 n2 (by subst hE; assumption); subst hE; simp only [NatCast.natCast, Int.ofNat_eq_natCast, realE, cmp_eql, cmp_neq, cmp_lss, cmp_leq, cmp_gtr, cmp_geq, intBinR, decide_eq_true_eq, decide_eq_false_iff_not, SI.val, SB.val, Num.eta, Iv.eta] at *; rw [this] at *; omega))
  rename_i l el _ _
  replace eN := eN l n1 n2 (by subst hE; exact el)
  simp only [NatCast.natCast, Int.ofNat_eq_natCast] at eN
  have er := hv
  have l1 : l = n / 32 := by subst hE; rw [el]; exact quo32 (by omega) (by omega)
  have r1 : 0 ≤ v := by
    have : v = n % 32 := by subst hE; rw [hv]; exact rem32 (by omega)
    omega
  clear hv
  refine E_loop hE hG hm hl (shlS E x l v) m ok ⟨(0, E.rep (E.bin .add .i64 (E.bin .add .i64 (E.len x) l) 1)), (eok _).2 ?_, stLe rfl ?_⟩ ?_
  · refine ⟨by show (0 : Int) ≤ 0; omega, by show (0 : Int) ≤ x.length; omega, ?_⟩
    have := ShlInv.start x (n / 32).toNat (n % 32).toNat
    subst hE; simp only [NatCast.natCast, Int.ofNat_eq_natCast, realE, cmp_eql, cmp_neq, cmp_lss, cmp_leq, cmp_gtr, cmp_geq, intBinR, decide_eq_true_eq, decide_eq_false_iff_not, SI.val, SB.val, Num.eta, Iv.eta] at *; rw [eN, show ((x.length : Int) + n / 32 + 1).toNat = x.length + (n / 32).toNat + 1 by omega]
    exact this
  · (repeat' (first | exact t_nil | apply t_cons | exact u2_sli | exact u2_int | exact u2_bool | exact u2_ms | exact u2_ptr | exact (rfl : sle2 .s0 .s0)))
  rintro ⟨i, out⟩ hok
  have h1 : 0 ≤ i := ((eok _).1 hok).1
  have h2 : i ≤ x.length := ((eok _).1 hok).2.1
  have inv : ShlInv x out (n / 32).toNat (n % 32).toNat i.toNat := ((eok _).1 hok).2.2
  have hol := inv.len
  have fin : ¬ i < x.length → Lb out ∧ lim (lv out) = r := by
    intro h
    have inv' := inv
    rw [show i.toNat = x.length by omega] at inv'
    refine ⟨inv.lb, ?_⟩
    rw [inv'.stop, ← hr, if_neg (by omega), if_neg (by omega), vx, show 32 * (n / 32).toNat + (n % 32).toNat = n.toNat by omega]
  have ht : lim (lv a * 2 ^ n.toNat) = r := by rw [← hr, if_neg (by omega), if_neg (by omega)]
  clear hok hr ex
  cbv
  repeat' (first
    | (refine E_br hE (fun h => ?_) (fun h => ?_) <;> cbv)
    | (refine E_nm hE (fun v hv => ?_); cbv)
    | (refine E_nilS hE (fun b hb => ?_); cbv)
    | (apply E_callX hE (c_cut _ ?_ ?_); (case hf => rfl); (case hc => (cbv <;> trivial)); (case hle => exact u_up); all_goals (first | (intro t ht; cbv) | ((subst hE; simp only [NatCast.natCast, Int.ofNat_eq_natCast, realE, cmp_eql, cmp_neq, cmp_lss, cmp_leq, cmp_gtr, cmp_geq, intBinR, decide_eq_true_eq, decide_eq_false_iff_not, SI.val, SB.val, Num.eta, Iv.eta] at *; rw [eN] at *; rw [sub_all (by omega)]; first | exact (fin ‹_›).1 | omega))))
    | fail)
  case hK => subst hE; simp only [NatCast.natCast, Int.ofNat_eq_natCast, realE, cmp_eql, cmp_neq, cmp_lss, cmp_leq, cmp_gtr, cmp_geq, intBinR, decide_eq_true_eq, decide_eq_false_iff_not, SI.val, SB.val, Num.eta, Iv.eta] at *; rw [‹t = _›, eN, sub_all (by omega), (fin ‹_›).2]
  all_goals (try refine ⟨(E.bin .add .i64 i 1, _), ?_, ?_, stLe rfl ?_⟩)
  all_goals (try ((repeat' (first | exact t_nil | apply t_cons | exact u2_sli | exact u2_int | exact u2_bool | exact u2_ms | exact u2_ptr | exact (rfl : sle2 .s0 .s0))); done))
  all_goals (subst hE)
  all_goals (try (first | (rw [em, em]; exact (shl_next hx (by omega) n1 n2 h1 (lss_t ‹_›) inv ‹_› el er ‹_› ‹_› rfl).2.2.1) | (rw [eok]; have q := shl_next hx (by omega) n1 n2 h1 (lss_t ‹_›) inv ‹_› el er ‹_› ‹_› rfl; exact ⟨q.1, q.2.1, q.2.2.2⟩)))
  all_goals (clear inv eok em fin ht er el; simp only [NatCast.natCast, Int.ofNat_eq_natCast, realE, cmp_eql, cmp_neq, cmp_lss, cmp_leq, cmp_gtr, cmp_geq, intBinR, decide_eq_true_eq, decide_eq_false_iff_not, SI.val, SB.val, Num.eta, Iv.eta] at *; (try rw [eN] at *); clear eN; (try simp only [wi64] at *); omega)
def shrS (E : Env) (x : List Int) (l r : Int) : Int × List Int → St := fun p => ⟨[(0, .sli .u32 x), (5, .int .i64 (.s l)), (6, .int .i64 (.s r)), (7, .ms 0 1 (.l 0) (.s (E.bin .sub .i64 (E.len x) l))), (33, .int .i64 (.s (E.bin .sub .i64 (E.len x) l))), (34, .int .i64 (.s p.1))], [.ints true .u32 p.2]⟩
set_option maxHeartbeats 1000000 in
theorem c_natShr (a : List Int) (n : Int) (ha : Lb a) (hla : a.length < 67108864) : ∃ t : List Int, t = lim (lv a / 2 ^ n.toNat) ∧ CallsA Try.prog 96 [.sli .u32 a, .int .i64 (.s n)] (.sli .u32 t) := by
  refine ⟨_, rfl, ?_⟩
  generalize hr : lim (lv a / 2 ^ n.toNat) = r
  have hlx := lim_length_le' ha
  have hx := lim_lb (lv a)
  have vx := lv_lim (lv a)
  obtain ⟨x, ex⟩ : ∃ x, lim (lv a) = x := ⟨_, rfl⟩
  rw [ex] at hlx hx vx
  obtain ⟨m, em⟩ : ∃ m : Int × List Int → Nat, ∀ p, m p = (x.length - p.1).toNat := ⟨_, fun _ => rfl⟩
  obtain ⟨ok, eok⟩ : ∃ ok : Int × List Int → Prop, ∀ p, ok p ↔ 0 ≤ p.1 ∧ p.1 ≤ (x.length : Int) - n / 32 ∧ ShrInv x p.2 (n / 32).toNat (n % 32).toNat p.1.toNat := ⟨_, fun _ => Iff.rfl⟩
  have eN : ∀ l : Int, 1 ≤ n → n < 32 * x.length → l = intBinR .quo .i64 n 32 → IntKind.i64.wrap ((x.length : Int) - l) = x.length - n / 32 := by
    intro l n1 n2 el
    have : l = n / 32 := by rw [el]; exact quo32 (by omega) (by omega)
    rw [this, wi64_id (by omega) (by omega)]
  have e32 : IntKind.i64.wrap (32 * (x.length : Int)) = 32 * x.length := wi64_id (by omega) (by omega)
  have big : 32 * (x.length : Int) ≤ n → lv a / 2 ^ n.toNat = 0 := by
    intro h
    have h1 := lv_lt hx
    rw [vx] at h1
    apply Nat.div_eq_of_lt
    have h2 : 4294967296 ^ x.length = 2 ^ (32 * x.length) := by rw [Nat.pow_mul]
    have h3 : 2 ^ (32 * x.length) ≤ 2 ^ n.toNat := Nat.pow_le_pow_right (by omega) (by omega)
    omega
  refine callsA_of hG hm Try.func96 (by kernel_rfl) ?_
  intro E hE lp hl
  cbv
  (apply E_callX hE (c_cut a ha (by omega)); (case hf => rfl); (case hc => (cbv <;> trivial)); (case hle => exact ⟨u2_sli, trivial⟩); intro x' hx'; cbv)
  rw [hx'.trans ex]
  clear hx' x'
  refine E_br hE (fun h => ?_) (fun h => ?_)
  · have e : x = r := by subst hE; have := lss_t h; rw [← hr, ← ex, show n.toNat = 0 by omega, Nat.pow_zero, Nat.div_one]
    cbv
    repeat' (first
    | (refine E_br hE (fun h => ?_) (fun h => ?_) <;> cbv)
    | (refine E_nm hE (fun v hv => ?_); cbv)
    | (refine E_nilS hE (fun b hb => ?_); cbv)
    | (apply E_callX hE (c_Clone _ ?_); (case hf => rfl); (case hc => (cbv <;> trivial)); (case hle => exact u_up); all_goals (first | (intro t ht; cbv) | (omega)))
    | fail)
    exact ‹_ = x›.trans e
  have n1 : 1 ≤ n := by subst hE; have := lss_f h; omega
  refine E_br hE (fun h => ?_) (fun h => ?_)
  · have e : [] = r := by
      rw [← hr, big (by subst hE; have := geq_t h; simp only [realE, intBinR, NatCast.natCast, Int.ofNat_eq_natCast] at this e32; rw [e32] at this; omega)]; rfl
    cbv
    exact e.symm
  have n2 : n < 32 * x.length := by subst hE; have := geq_f h; simp only [realE, intBinR, NatCast.natCast, Int.ofNat_eq_natCast] at this e32; rw [e32] at this; omega
  cbv
  repeat' (first
    | (refine E_br hE (fun h => ?_) (fun h => ?_) <;> cbv)
    | (refine E_nm hE (fun v hv => ?_); cbv)
    | (refine E_nilS hE (fun b hb => ?_); cbv)
    | fail)
  all_goals (try (exfalso; have := eN _ n1 n2 (by subst hE; assumption); subst hE; simp only [NatCast.natCast, Int.ofNat_eq_natCast, realE, cmp_eql, cmp_neq, cmp_lss, cmp_leq, cmp_gtr, cmp_geq, intBinR, decide_eq_true_eq, decide_eq_false_iff_not, SI.val, SB.val, Num.eta, Iv.eta] at *; rw [this] at *; omega))
  rename_i l el _ _
  replace n2 : n < 32 * (x.length : Int) := n2
  replace eN := eN l n1 n2 (by subst hE; exact el)
  simp only [NatCast.natCast, Int.ofNat_eq_natCast] at eN
  have er := hv
  have l1 : l = n / 32 := by subst hE; rw [el]; exact quo32 (by omega) (by omega)
  have r1 : 0 ≤ v := by
    have : v = n % 32 := by subst hE; rw [hv]; exact rem32 (by omega)
    omega
  clear hv
  refine E_loop hE hG hm hl (shrS E x l v) m ok ⟨(0, E.rep (E.bin .sub .i64 (E.len x) l)), (eok _).2 ?_, stLe rfl ?_⟩ ?_
  · refine ⟨by show (0 : Int) ≤ 0; omega, by show (0 : Int) ≤ x.length - n / 32; omega, ?_⟩
    have := ShrInv.start x (n / 32).toNat (n % 32).toNat
    subst hE; simp only [NatCast.natCast, Int.ofNat_eq_natCast, realE, cmp_eql, cmp_neq, cmp_lss, cmp_leq, cmp_gtr, cmp_geq, intBinR, decide_eq_true_eq, decide_eq_false_iff_not, SI.val, SB.val, Num.eta, Iv.eta] at *; rw [eN, show ((x.length : Int) - n / 32).toNat = x.length - (n / 32).toNat by omega]
    exact this
  · (repeat' (first | exact t_nil | apply t_cons | exact u2_sli | exact u2_int | exact u2_bool | exact u2_ms | exact u2_ptr | exact (rfl : sle2 .s0 .s0)))
  rintro ⟨i, out⟩ hok
  have h1 : 0 ≤ i := ((eok _).1 hok).1
  have h2 : i ≤ x.length - n / 32 := ((eok _).1 hok).2.1
  have inv : ShrInv x out (n / 32).toNat (n % 32).toNat i.toNat := ((eok _).1 hok).2.2
  have hol := inv.len
  have fin : ¬ i < (x.length : Int) - n / 32 → Lb out ∧ lim (lv out) = r := by
    intro h
    have inv' := inv
    rw [show i.toNat = x.length - (n / 32).toNat by omega] at inv'
    refine ⟨inv.lb, ?_⟩
    rw [inv'.stop hx (by omega), ← hr, vx, show 32 * (n / 32).toNat + (n % 32).toNat = n.toNat by omega]
  clear hok hr ex
  cbv
  repeat' (first
    | (refine E_br hE (fun h => ?_) (fun h => ?_) <;> cbv)
    | (refine E_nm hE (fun v hv => ?_); cbv)
    | (refine E_nilS hE (fun b hb => ?_); cbv)
    | (apply E_callX hE (c_cut _ ?_ ?_); (case hf => rfl); (case hc => (cbv <;> trivial)); (case hle => exact u_up); all_goals (first | (intro t ht; cbv) | ((subst hE; simp only [NatCast.natCast, Int.ofNat_eq_natCast, realE, cmp_eql, cmp_neq, cmp_lss, cmp_leq, cmp_gtr, cmp_geq, intBinR, decide_eq_true_eq, decide_eq_false_iff_not, SI.val, SB.val, Num.eta, Iv.eta] at *; rw [eN] at *; rw [sub_all (by omega)]; first | exact (fin ‹_›).1 | omega))))
    | fail)
  case hK => subst hE; simp only [NatCast.natCast, Int.ofNat_eq_natCast, realE, cmp_eql, cmp_neq, cmp_lss, cmp_leq, cmp_gtr, cmp_geq, intBinR, decide_eq_true_eq, decide_eq_false_iff_not, SI.val, SB.val, Num.eta, Iv.eta] at *; rw [‹t = _›, eN, sub_all (by omega), (fin (by rw [← eN]; assumption)).2]
  all_goals (try refine ⟨(E.bin .add .i64 i 1, _), ?_, ?_, stLe rfl ?_⟩)
  all_goals (try ((repeat' (first | exact t_nil | apply t_cons | exact u2_sli | exact u2_int | exact u2_bool | exact u2_ms | exact u2_ptr | exact (rfl : sle2 .s0 .s0))); done))
  all_goals (subst hE)
  all_goals (try (
    have hi : i < IntKind.i64.wrap ((x.length : Int) - l) := lss_t ‹_›
    rw [eN] at hi
    first
      | (rw [em, em]; exact (shr_next hx (by omega) n1 n2 h1 hi inv ‹_› el er ‹_› (by first | exact .inr ‹_› | exact .inl ⟨lss_f ‹_›, rfl⟩) rfl).2.2.1)
      | (rw [eok]; have q := shr_next hx (by omega) n1 n2 h1 hi inv ‹_› el er ‹_› (by first | exact .inr ‹_› | exact .inl ⟨lss_f ‹_›, rfl⟩) rfl; exact ⟨q.1, q.2.1, q.2.2.2⟩)))
  all_goals (clear inv eok em fin er el e32 big; simp only [NatCast.natCast, Int.ofNat_eq_natCast, realE, cmp_eql, cmp_neq, cmp_lss, cmp_leq, cmp_gtr, cmp_geq, intBinR, decide_eq_true_eq, decide_eq_false_iff_not, SI.val, SB.val, Num.eta, Iv.eta] at *; (try rw [eN] at *); clear eN; (try simp only [wi64] at *); omega)

end Go.Proofs.Ytaiillbjhdoikaa.Ev

/- Contracts: words of 64 bits. Printed by gen.py out of C3.spec. -/
namespace Go.Proofs.Ytaiillbjhdoikaa.Ev
open Go Go.Proofs
set_option linter.unusedVariables false
set_option linter.unusedSimpArgs false

theorem c_Mul64 (x : Int) (y : Int) (hx : 0 ≤ x) (hx' : x < 18446744073709551616) (hy : 0 ≤ y) (hy' : y < 18446744073709551616) : ∃ t : Int × Int, t = (x * y / 18446744073709551616, x * y % 18446744073709551616) ∧ CallsA Try.prog 120 [.int .u64 (.s x), .int .u64 (.s y)] (.tup [.int .u64 (.s t.1), .int .u64 (.s t.2)]) := by
  refine ⟨_, rfl, ?_⟩
  generalize hr : (x * y / 18446744073709551616, x * y % 18446744073709551616) = r
  refine callsA_of hG hm Try.func120 (by kernel_rfl) ?_
  intro E hE lp hl
  cbv
  repeat' (first
    | (refine E_br hE (fun h => ?_) (fun h => ?_) <;> cbv)
    | (refine E_nm hE (fun v hv => ?_); cbv)
    | fail)
  all_goals (subst hE; subst hr)
  all_goals (try simp only [realE, cmp_eql, cmp_neq, cmp_lss, cmp_leq, cmp_gtr, cmp_geq, intBinR, decide_eq_true_eq, decide_eq_false_iff_not, SI.val, SB.val, Num.eta, Iv.eta] at *)
  all_goals (simp only [and_32', shr32] at *)
  all_goals (simp only [wu64] at *)
  rename_i x0 x1 y0 y1 w0 t w1 w2 w1' hi _ _ _ _ _ _ _ _ _ _
  exact ⟨mul64 (x0 := x0) (x1 := x1) (y0 := y0) (y1 := y1) (w0 := w0) (t := t) (w1 := w1) (w2 := w2) (w1' := w1') hx hx' hy hy' (by assumption) (by assumption) (by assumption) (by assumption) (by assumption) (by assumption) (by assumption) (by assumption) (by assumption) (by assumption), by assumption, trivial⟩

theorem c_Len64 (x : Int) (hx : 0 ≤ x) (hx' : x < 18446744073709551616) : ∃ t : Int, t = blen x ∧ CallsA Try.prog 115 [.int .u64 (.s x)] (.int .i64 (.s t)) := by
  refine ⟨_, rfl, ?_⟩
  generalize hr : blen x = r
  refine callsA_of hG hm Try.func115 (by kernel_rfl) ?_
  intro E hE lp hl
  cbv
  repeat' (first
    | (refine E_br hE (fun h => ?_) (fun h => ?_) <;> cbv)
    | (refine E_nm hE (fun v hv => ?_); cbv)
    | fail)
  all_goals (try (generalize hL : (⟨⟨[0, 1, 2, 2, 3, 3, 3, 3, 4, 4, 4, 4, 4, 4, 4, 4, 5, 5, 5, 5, 5, 5, 5, 5, 5, 5, 5, 5, 5, 5, 5, 5, 6, 6, 6, 6, 6, 6, 6, 6, 6, 6, 6, 6, 6, 6, 6, 6, 6, 6, 6, 6, 6, 6, 6, 6, 6, 6, 6, 6, 6, 6, 6, 6, 7, 7, 7, 7, 7, 7, 7, 7, 7, 7, 7, 7, 7, 7, 7, 7, 7, 7, 7, 7, 7, 7, 7, 7, 7, 7, 7, 7, 7, 7, 7, 7, 7, 7, 7, 7, 7, 7, 7, 7, 7, 7, 7, 7, 7, 7, 7, 7, 7, 7, 7, 7, 7, 7, 7, 7, 7, 7, 7, 7, 7, 7, 7, 7, 8, 8, 8, 8, 8, 8, 8, 8, 8, 8, 8, 8, 8, 8, 8, 8, 8, 8, 8, 8, 8, 8, 8, 8, 8, 8, 8, 8, 8, 8, 8, 8, 8, 8, 8, 8, 8, 8, 8, 8, 8, 8, 8, 8, 8, 8, 8, 8, 8, 8, 8, 8, 8, 8, 8, 8, 8, 8, 8, 8, 8, 8, 8, 8, 8, 8, 8, 8, 8, 8, 8, 8, 8, 8, 8, 8, 8, 8, 8, 8, 8, 8, 8, 8, 8, 8, 8, 8, 8, 8, 8, 8, 8, 8, 8, 8, 8, 8, 8, 8, 8, 8, 8, 8, 8, 8, 8, 8, 8, 8, 8, 8, 8, 8, 8, 8, 8, 8, 8, 8, 8, 8, 8, 8, 8, 8, 8, 8]⟩⟩ : ByteArray) = L at *; replace hL := len8_str hL; obtain ⟨hL1, hL2⟩ := hL))
  all_goals (subst hE; subst hr)
  all_goals (try simp only [realE, cmp_eql, cmp_neq, cmp_lss, cmp_leq, cmp_gtr, cmp_geq, intBinR, decide_eq_true_eq, decide_eq_false_iff_not, SI.val, SB.val, Num.eta, Iv.eta] at *)
  all_goals (simp only [shr8, shr16, shr32, wu8, wi64] at *)
  all_goals (try omega)
  all_goals (try rw [hL2 _ (by omega) (by omega)] at hv)
  all_goals (have b1 := blen_nonneg x; have b2 := blen_le 64 (x := x) (by omega))
  all_goals (try have s1 := len32 ‹(4294967296 : Int) ≤ _› ‹_ = _ / (4294967296 : Int)›)
  all_goals (try have s2 := len16 ‹(65536 : Int) ≤ _› ‹_ = _ / (65536 : Int)›)
  all_goals (try have s3 := len8 ‹(256 : Int) ≤ _› ‹_ = _ / (256 : Int)›)
  all_goals omega

theorem c_LZ64 (x : Int) (hx : 0 ≤ x) (hx' : x < 18446744073709551616) : ∃ t : Int, t = 64 - blen x ∧ CallsA Try.prog 72 [.int .u64 (.s x)] (.int .i64 (.s t)) := by
  refine ⟨_, rfl, ?_⟩
  generalize hr : 64 - blen x = r
  refine callsA_of hG hm Try.func72 (by kernel_rfl) ?_
  intro E hE lp hl
  cbv
  repeat' (first
    | (refine E_br hE (fun h => ?_) (fun h => ?_) <;> cbv)
    | (refine E_nm hE (fun v hv => ?_); cbv)
    | (apply E_callX hE (c_Len64 _ ?_ ?_); (case hf => rfl); (case hc => (cbv <;> trivial)); (case hle => exact u_up); all_goals (first | (intro t ht; cbv) | (subst hE; (try simp only [realE, cmp_eql, cmp_neq, cmp_lss, cmp_leq, cmp_gtr, cmp_geq, intBinR, decide_eq_true_eq, decide_eq_false_iff_not, SI.val, SB.val, Num.eta, Iv.eta] at *); first | assumption | omega)))
    | fail)
  all_goals (subst hE; subst hr)
  all_goals (try simp only [realE, cmp_eql, cmp_neq, cmp_lss, cmp_leq, cmp_gtr, cmp_geq, intBinR, decide_eq_true_eq, decide_eq_false_iff_not, SI.val, SB.val, Num.eta, Iv.eta] at *)
  all_goals (try simp only [wi64] at *)
  all_goals (have b1 := blen_nonneg x; have b2 := blen_le 64 (x := x) (by omega); omega)

end Go.Proofs.Ytaiillbjhdoikaa.Ev

/- Contracts: the product. Printed by gen.py out of C4.spec. -/
namespace Go.Proofs.Ytaiillbjhdoikaa.Ev
open Go Go.Proofs
set_option linter.unusedVariables false
set_option linter.unusedSimpArgs false

theorem c_arMul (a : Num) (b : Num) (up : Bool) (ha : a.ok) (hb : b.ok) : ∃ t : Num, t = a.mul b up ∧ CallsA Try.prog 90 [a.av, b.av, .bool (.s up)] (t.av) := by
  refine ⟨_, rfl, ?_⟩
  generalize hr : a.mul b up = r
  refine callsA_of hG hm Try.func90 (by kernel_rfl) ?_
  intro E hE lp hl
  cbv
  repeat' (first
    | (refine E_br hE (fun h => ?_) (fun h => ?_) <;> cbv)
    | (refine E_nm hE (fun v hv => ?_); cbv)
    | (apply E_pcallX hE (c_arFair ⟨_, _, _, _⟩); (case hm => rfl); (case hle => exact u_up); intro t ht; cbv)
    | (apply E_callX hE (c_Inf _); (case hf => rfl); (case hc => (cbv <;> trivial)); (case hle => exact u_up); intro t ht; cbv)
    | (apply E_callX hE (c_Mul64 _ _ ?_ ?_ ?_ ?_); (case hf => rfl); (case hc => (cbv <;> trivial)); (case hle => exact u_up); all_goals (first | (intro t ht; cbv) | (subst hE; (try simp only [realE, cmp_eql, cmp_neq, cmp_lss, cmp_leq, cmp_gtr, cmp_geq, intBinR, decide_eq_true_eq, decide_eq_false_iff_not, SI.val, SB.val, Num.eta, Iv.eta] at *); (subst_vars; first | exact (Num.fair_ok ha).1 | exact (Num.fair_ok ha).2 | exact (Num.fair_ok hb).1 | exact (Num.fair_ok hb).2))))
    | (apply E_callX hE (c_Grow _ _ _ _ _); (case hf => rfl); (case hc => (cbv <;> trivial)); (case hle => exact u_up); intro t ht; cbv)
    | fail)
  all_goals (subst hE; subst hr)
  all_goals (try simp only [realE, cmp_eql, cmp_neq, cmp_lss, cmp_leq, cmp_gtr, cmp_geq, intBinR, decide_eq_true_eq, decide_eq_false_iff_not, SI.val, SB.val, Num.eta, Iv.eta] at *)
  all_goals (refine Num.fin (t := ⟨_, _, _, _⟩) ?_; subst_vars; unfold Num.mul)
  case' hK.hK.refine_1 => rw [if_pos (.inl ‹_›)]; rfl
  case' hK.hK.refine_2.refine_1 => rw [if_pos (.inr ‹_›)]; rfl
  case' hK.hK.refine_2.refine_2.refine_1.hK => rw [if_neg (by simp_all), if_pos (.inl ‹_›)]; rfl
  case' hK.hK.refine_2.refine_2.refine_2.refine_1.hK => rw [if_neg (by simp_all), if_pos (.inr ‹_›)]; rfl
  all_goals (rw [if_neg (by simp_all), if_neg (by simp_all)])
  all_goals (have fa := Num.fin_of (n := a) ‹_› ‹_›; have fb := Num.fin_of (n := b) ‹_› ‹_›)
  all_goals (first | exact Num.mul_lo (Num.fair_ok ha) (Num.fair_ok hb) fa.2.2 fb.2.2 ‹_› | exact Num.mul_hi (Num.fair_ok ha) (Num.fair_ok hb) fa.2.2 fb.2.2 ‹_›)

end Go.Proofs.Ytaiillbjhdoikaa.Ev

namespace Go.Proofs.Ytaiillbjhdoikaa.Ev
open Go Go.Proofs
set_option linter.unusedVariables false

end Go.Proofs.Ytaiillbjhdoikaa.Ev

/- Contracts: the operations on intervals. -/
namespace Go.Proofs.Ytaiillbjhdoikaa.Ev
open Go Go.Proofs
set_option linter.unusedVariables false
end Go.Proofs.Ytaiillbjhdoikaa.Ev

/- Contracts: the product of intervals. -/
namespace Go.Proofs.Ytaiillbjhdoikaa.Ev
open Go Go.Proofs
set_option linter.unusedVariables false

end Go.Proofs.Ytaiillbjhdoikaa.Ev

/- Contracts: a division of two words by one. -/
namespace Go.Proofs.Ytaiillbjhdoikaa.Ev
open Go Go.Proofs
set_option linter.unusedVariables false
set_option maxHeartbeats 4000000 in
theorem c_Div64 (hi lo y : Int) (h1 : 0 ≤ hi) (h2 : hi < y) (h3 : 9223372036854775808 ≤ y) (h4 : y < 18446744073709551616) (h5 : 0 ≤ lo) (h6 : lo < 18446744073709551616) :
    ∃ t : Int × Int, t = ((hi * 18446744073709551616 + lo) / y, (hi * 18446744073709551616 + lo) % y) ∧
      CallsA Try.prog 50 [.int .u64 (.s hi), .int .u64 (.s lo), .int .u64 (.s y)] (.tup [.int .u64 (.s t.1), .int .u64 (.s t.2)]) := by
  refine ⟨_, rfl, ?_⟩
  generalize hr : ((hi * 18446744073709551616 + lo) / y, (hi * 18446744073709551616 + lo) % y) = r
  refine callsA_of hG hm Try.func50 (by kernel_rfl) ?_
  intro E hE lp hl
  cbv
  refine E_br hE (fun a => ?_) (fun a => ?_)
  · exfalso; subst hE; simp only [realE, cmp_eql, decide_eq_true_eq] at a; omega
  clear a; cbv
  refine E_br hE (fun a => ?_) (fun a => ?_)
  · exfalso; subst hE; simp only [realE, cmp_leq, decide_eq_true_eq] at a; omega
  clear a; cbv
  refine E_br hE (fun a => ?_) (fun a => ?_)
  · have e : hi = 0 := by subst hE; simpa only [realE, cmp_eql, decide_eq_true_eq] using a
    cbv
    refine E_br hE (fun a => ?_) (fun a => ?_)
    · exfalso; subst hE; simp only [realE, cmp_eql, decide_eq_true_eq] at a; omega
    cbv
    repeat' (first
      | (refine E_nm hE (fun v hv => ?_); cbv)
      | (refine E_br hE (fun a => ?_) (fun a => ?_); (exfalso; subst hE; simp only [realE, cmp_eql, decide_eq_true_eq] at a; omega); cbv)
      | fail)
    rename_i v1 hv1
    subst hE
    have b1 := Int.ediv_nonneg h5 (show (0 : Int) ≤ y by omega)
    have b2 := Int.ediv_le_self y h5
    have e1 : v1 = lo / y := by
      rw [hv1]; show IntKind.u64.wrap (lo.tdiv y) = _; rw [Int.tdiv_eq_ediv_of_nonneg h5, wu64]; omega
    have e2 : v = lo % y := by rw [hv]; show lo.tmod y = _; rw [Int.tmod_eq_emod_of_nonneg h5]
    rw [← hr, e, e1, e2]
    simp
  clear a; cbv
  (apply E_callX hE (c_LZ64 y (by omega) (by omega)); (case hf => rfl); (case hc => (cbv <;> trivial)); (case hle => exact ⟨u2_int, trivial⟩); intro t ht; cbv)
  have ht0 : t = 0 := by rw [ht, blen_top h3 h4]; rfl
  subst ht0
  refine E_nm hE (fun s hs => ?_)
  have e : s = 0 := by subst hE; rw [hs]; rfl
  subst e; cbv
  refine E_br hE (fun a => ?_) (fun a => ?_)
  · exfalso; subst hE; simp only [realE, cmp_lss, decide_eq_true_eq] at a; omega
  cbv
  refine E_nm hE (fun y' hy' => ?_)
  have e : y' = y := by subst hE; rw [hy']; exact shl0 y (by omega) h4
  subst e; cbv
  refine E_nm hE (fun yh hyh => ?_)
  have e1 : yh = y' / 4294967296 := by subst hE; rw [hyh]; exact shr32 y'
  clear hyh; cbv
  refine E_nm hE (fun yl hyl => ?_)
  have e2 : yl = y' % 4294967296 := by subst hE; rw [hyl]; exact and_32' y'
  clear hyl; cbv
  refine E_br hE (fun a => ?_) (fun a => ?_)
  · exfalso; subst hE; simp only [realE, cmp_lss, decide_eq_true_eq] at a; omega
  cbv
  refine E_br hE (fun a => ?_) (fun a => ?_)
  · exfalso; subst hE; simp only [realE, cmp_lss, decide_eq_true_eq, intBinR] at a; rw [show IntKind.u64.wrap (64 - 0) = 64 by decide] at a; omega
  cbv
  refine E_nm hE (fun u hu => ?_)
  have e : u = hi := by
    subst hE; rw [hu]
    show IntKind.u64.wrap ((BitVec.ofInt IntKind.u64.bits (IntKind.u64.wrap (hi * 2 ^ min (Int.toNat 0) IntKind.u64.bits)) ||| BitVec.ofInt IntKind.u64.bits (lo.fdiv (2 ^ min (Int.toNat 64) IntKind.u64.bits))).toNat : Int) = hi
    rw [shl0 hi h1 (by omega), shr64 lo h5 h6, or_0 hi h1 (by omega)]
  subst e; cbv
  refine E_br hE (fun a => ?_) (fun a => ?_)
  · exfalso; subst hE; simp only [realE, cmp_lss, decide_eq_true_eq] at a; omega
  cbv
  refine E_nm hE (fun l' hl' => ?_)
  have e : l' = lo := by subst hE; rw [hl']; exact shl0 lo h5 h6
  subst e; cbv
  refine E_nm hE (fun lh hlh => ?_)
  have e3 : lh = l' / 4294967296 := by subst hE; rw [hlh]; exact shr32 l'
  clear hlh; cbv
  refine E_nm hE (fun ll hll => ?_)
  have e4 : ll = l' % 4294967296 := by subst hE; rw [hll]; exact and_32' l'
  clear hll; cbv
  refine E_br hE (fun a => ?_) (fun a => ?_)
  · exfalso; subst hE; simp only [realE, cmp_eql, decide_eq_true_eq] at a; omega
  cbv
  refine E_nm hE (fun q0 hq0 => ?_)
  have e5 : q0 = u / yh := by
    subst hE; rw [hq0]; show IntKind.u64.wrap (u.tdiv yh) = _
    have b1 := Int.ediv_nonneg h1 (show (0 : Int) ≤ yh by omega)
    have b2 := Int.ediv_le_self yh h1
    rw [Int.tdiv_eq_ediv_of_nonneg h1, wu64]; omega
  clear hq0; cbv
  refine E_nm hE (fun r0 hr0 => ?_)
  have D0 : Dig y' u lh q0 (u - q0 * yh) := by
    have := dig_start (y := y') (u := u) (un := lh) h3 h4 h1 h2 (by omega) (by omega)
    rw [← e1, ← e5] at this; exact this
  have e6 : r0 = u - q0 * yh := by
    subst hE; rw [hr0]; show IntKind.u64.wrap (u - IntKind.u64.wrap (q0 * yh)) = _
    have b1 := D0.pos
    have b2 := Int.mul_nonneg D0.nn (show (0 : Int) ≤ yh by omega)
    rw [wu64, wu64]
    generalize q0 * yh = p at *
    omega
  rw [← e6] at D0
  clear hr0 e6; cbv
  clear hs ht hy' hu hl' e5 a
  refine E_loop hE hG hm hl (ι := Int × Int) (fun p => ⟨[(2, .int .u64 (.s y')), (8, .int .u64 (.s 0)), (9, .int .u64 (.s yh)), (10, .int .u64 (.s yl)), (11, .int .u64 (.s u)), (12, .int .u64 (.s l')), (13, .int .u64 (.s lh)), (14, .int .u64 (.s ll)), (15, .int .u64 (.s p.1)), (16, .int .u64 (.s p.2))], []⟩)
    (fun p => p.1.toNat) (fun p => Dig y' u lh p.1 p.2) ⟨(q0, r0), D0, stLe rfl ?_⟩ ?_
  · repeat' (first | exact t_nil | apply t_cons | exact u2_int)
  rintro ⟨q, r'⟩ D
  dsimp only at D
  cbv
  have W := dig_words h3 h4 (show 0 ≤ lh by omega) (by omega) D
  rw [← e1, ← e2] at W
  have less : (4294967296 ≤ q ∨ r' * 4294967296 + lh < q * yl) → u * 4294967296 + lh < (q - 1 + 1) * y' ∧ r' + yh = u - (q - 1) * yh ∧ 1 ≤ q := by
    intro h; rw [e1]; exact dig_less h3 h4 h1 h2 (by omega) (by omega) D (by rw [← e2]; exact h)
  refine E_br hE (fun a => ?_) (fun a => ?_)
  · have H' : 4294967296 ≤ q ∨ r' * 4294967296 + lh < q * yl := .inl (by subst hE; simpa only [realE, cmp_geq, decide_eq_true_eq] using a)
    clear a
    cbv
    refine E_nm hE (fun qn hqn => ?_)
    cbv
    refine E_nm hE (fun rn hrn => ?_)
    obtain ⟨l1, l2, l3⟩ := less H'
    have eqn : qn = q - 1 := by
      subst hE; rw [hqn]; show IntKind.u64.wrap (q - 1) = _
      have := D.top
      rw [wu64]; omega
    have ern : rn = r' + yh := by subst hE; rw [hrn]; exact W.2.2
    rw [← eqn] at l1 l2
    rw [← ern] at l2
    cbv
    refine E_br hE (fun c => ?_) (fun c => ?_)
    · have c' : 4294967296 ≤ rn := by subst hE; simpa only [realE, cmp_geq, decide_eq_true_eq] using c
      have dt := D.top
      have R : Right y' u lh qn := right_of h3 h2 (by omega) (dig_right h3 h4 (by rw [← e1]; exact l2) (dig_break h4 (by omega) (by omega) (by omega) c')) l1 (by omega)
      clear hqn hrn c c' l1 l2 l3 H'
      cbv
      refine E_nm hE (fun w hw => ?_)
      have ew : w = u * 4294967296 + lh - qn * y' := by subst hE; rw [hw]; exact right_wrap h4 R
      have lw := right_left R
      rw [← ew] at lw
      clear hw
      cbv
      refine E_br hE (fun a => ?_) (fun a => ?_)
      · exfalso; subst hE; simp only [realE, cmp_eql, decide_eq_true_eq] at a; omega
      cbv
      refine E_nm hE (fun p0 hp0 => ?_)
      have e5 : p0 = w / yh := by
        subst hE; rw [hp0]; show IntKind.u64.wrap (w.tdiv yh) = _
        have b1 := Int.ediv_nonneg lw.1 (show (0 : Int) ≤ yh by omega)
        have b2 := Int.ediv_le_self yh lw.1
        rw [Int.tdiv_eq_ediv_of_nonneg lw.1, wu64]; omega
      clear hp0; cbv
      refine E_nm hE (fun s0 hs0 => ?_)
      have D1 : Dig y' w ll p0 (w - p0 * yh) := by
        have := dig_start (y := y') (u := w) (un := ll) h3 h4 lw.1 lw.2 (by omega) (by omega)
        rw [← e1, ← e5] at this; exact this
      have e6 : s0 = w - p0 * yh := by
        subst hE; rw [hs0]; show IntKind.u64.wrap (w - IntKind.u64.wrap (p0 * yh)) = _
        have b1 := D1.pos
        have b2 := Int.mul_nonneg D1.nn (show (0 : Int) ≤ yh by omega)
        rw [wu64, wu64]
        generalize p0 * yh = p at *
        omega
      rw [← e6] at D1
      clear hs0 e6 e5 a
      cbv
      refine E_loop hE hG hm hl (ι := Int × Int) (fun p => ⟨[(2, .int .u64 (.s y')), (8, .int .u64 (.s 0)), (9, .int .u64 (.s yh)), (10, .int .u64 (.s yl)), (14, .int .u64 (.s ll)), (15, .int .u64 (.s qn)), (17, .int .u64 (.s w)), (18, .int .u64 (.s p.1)), (16, .int .u64 (.s p.2))], []⟩)
        (fun p => p.1.toNat) (fun p => Dig y' w ll p.1 p.2) ⟨(p0, s0), D1, stLe rfl (by repeat' (first | exact t_nil | apply t_cons | exact u2_int))⟩ ?_
      rintro ⟨p, s⟩ D2
      dsimp only at D2
      cbv
      have W2 := dig_words h3 h4 (show 0 ≤ ll by omega) (by omega) D2
      rw [← e1, ← e2] at W2
      have less2 : (4294967296 ≤ p ∨ s * 4294967296 + ll < p * yl) → w * 4294967296 + ll < (p - 1 + 1) * y' ∧ s + yh = w - (p - 1) * yh ∧ 1 ≤ p := by
        intro h; rw [e1]; exact dig_less h3 h4 lw.1 lw.2 (by omega) (by omega) D2 (by rw [← e2]; exact h)
      have dt2 := D2.top
      have dp2 := D2.pos
      refine E_br hE (fun a => ?_) (fun a => ?_)
      · have H2 : 4294967296 ≤ p ∨ s * 4294967296 + ll < p * yl := .inl (by subst hE; simpa only [realE, cmp_geq, decide_eq_true_eq] using a)
        clear a
        cbv
        refine E_nm hE (fun pn hpn => ?_)
        cbv
        refine E_nm hE (fun sn hsn => ?_)
        obtain ⟨l1, l2, l3⟩ := less2 H2
        have epn : pn = p - 1 := by
          subst hE; rw [hpn]; show IntKind.u64.wrap (p - 1) = _
          rw [wu64]; omega
        have esn : sn = s + yh := by subst hE; rw [hsn]; exact W2.2.2
        rw [← epn] at l1 l2
        rw [← esn] at l2
        cbv
        refine E_br hE (fun c => ?_) (fun c => ?_)
        · have c' : 4294967296 ≤ sn := by subst hE; simpa only [realE, cmp_geq, decide_eq_true_eq] using c
          have R2 : Right y' w ll pn := right_of h3 lw.2 (by omega) (dig_right h3 h4 (by rw [← e1]; exact l2) (dig_break h4 (by omega) (by omega) (by omega) c')) l1 (by omega)
          clear hpn hsn c c' l1 l2 l3 H2
          cbv
          refine E_br hE (fun a => ?_) (fun a => ?_)
          · exfalso; subst hE; simp only [realE, cmp_lss, decide_eq_true_eq] at a; omega
          clear a; cbv
          repeat' (first
            | (refine E_nm hE (fun v hv => ?_); cbv)
            | fail)
          rename_i v1 hv1
          obtain ⟨f1, f2⟩ := two_digits (y := y') (by omega) ew R R2
          subst hE
          have g1 : v1 = qn * 4294967296 + pn := by
            rw [hv1]; show IntKind.u64.wrap (IntKind.u64.wrap (qn * 4294967296) + pn) = _
            have := R.small; have := R2.small; have := R.nn; have := R2.nn
            rw [wu64, wu64]; omega
          have g2 : v = w * 4294967296 + ll - pn * y' := by
            rw [hv]; show (IntKind.u64.wrap (IntKind.u64.wrap (IntKind.u64.wrap (w * 4294967296) + ll) - IntKind.u64.wrap (pn * y'))).fdiv (2 ^ min (Int.toNat 0) IntKind.u64.bits) = _
            rw [right_wrap h4 R2, show (2 : Int) ^ min (Int.toNat 0) IntKind.u64.bits = 1 by decide, shr_lit (by decide), Int.ediv_one]
          have el : l' = lh * 4294967296 + ll := by omega
          rw [← el] at f1 f2
          rw [← hr, g1, g2]
          exact ⟨f1.symm, f2.symm, trivial⟩
        · have c' : sn < 4294967296 := by
            have : ¬ 4294967296 ≤ sn := by subst hE; simpa only [realE, cmp_geq, decide_eq_false_iff_not] using c
            omega
          clear hpn hsn
          cbv
          exact ⟨(pn, sn), by (show pn.toNat < p.toNat; omega), ⟨l1, by rw [← e1]; exact l2, by (show 0 ≤ sn; omega), c', by (show pn ≤ 4294967297; omega), by (show 0 ≤ pn; omega)⟩, stLe rfl (by repeat' (first | exact t_nil | apply t_cons | exact u2_int))⟩
      have a2 : p < 4294967296 := by
        have : ¬ 4294967296 ≤ p := by subst hE; simpa only [realE, cmp_geq, decide_eq_false_iff_not] using a
        omega
      cbv
      refine E_br hE (fun b => ?_) (fun b => ?_)
      · have H2 : 4294967296 ≤ p ∨ s * 4294967296 + ll < p * yl := .inr (by
          subst hE; simp only [realE, cmp_gtr, intBinR, decide_eq_true_eq] at b
          rw [W2.1 a2, W2.2.1] at b; exact b)
        clear b
        cbv
        refine E_nm hE (fun pn hpn => ?_)
        cbv
        refine E_nm hE (fun sn hsn => ?_)
        obtain ⟨l1, l2, l3⟩ := less2 H2
        have epn : pn = p - 1 := by
          subst hE; rw [hpn]; show IntKind.u64.wrap (p - 1) = _
          rw [wu64]; omega
        have esn : sn = s + yh := by subst hE; rw [hsn]; exact W2.2.2
        rw [← epn] at l1 l2
        rw [← esn] at l2
        cbv
        refine E_br hE (fun c => ?_) (fun c => ?_)
        · have c' : 4294967296 ≤ sn := by subst hE; simpa only [realE, cmp_geq, decide_eq_true_eq] using c
          have R2 : Right y' w ll pn := right_of h3 lw.2 (by omega) (dig_right h3 h4 (by rw [← e1]; exact l2) (dig_break h4 (by omega) (by omega) (by omega) c')) l1 (by omega)
          clear hpn hsn c c' l1 l2 l3 H2
          cbv
          refine E_br hE (fun a => ?_) (fun a => ?_)
          · exfalso; subst hE; simp only [realE, cmp_lss, decide_eq_true_eq] at a; omega
          clear a; cbv
          repeat' (first
            | (refine E_nm hE (fun v hv => ?_); cbv)
            | fail)
          rename_i v1 hv1
          obtain ⟨f1, f2⟩ := two_digits (y := y') (by omega) ew R R2
          subst hE
          have g1 : v1 = qn * 4294967296 + pn := by
            rw [hv1]; show IntKind.u64.wrap (IntKind.u64.wrap (qn * 4294967296) + pn) = _
            have := R.small; have := R2.small; have := R.nn; have := R2.nn
            rw [wu64, wu64]; omega
          have g2 : v = w * 4294967296 + ll - pn * y' := by
            rw [hv]; show (IntKind.u64.wrap (IntKind.u64.wrap (IntKind.u64.wrap (w * 4294967296) + ll) - IntKind.u64.wrap (pn * y'))).fdiv (2 ^ min (Int.toNat 0) IntKind.u64.bits) = _
            rw [right_wrap h4 R2, show (2 : Int) ^ min (Int.toNat 0) IntKind.u64.bits = 1 by decide, shr_lit (by decide), Int.ediv_one]
          have el : l' = lh * 4294967296 + ll := by omega
          rw [← el] at f1 f2
          rw [← hr, g1, g2]
          exact ⟨f1.symm, f2.symm, trivial⟩
        · have c' : sn < 4294967296 := by
            have : ¬ 4294967296 ≤ sn := by subst hE; simpa only [realE, cmp_geq, decide_eq_false_iff_not] using c
            omega
          clear hpn hsn
          cbv
          exact ⟨(pn, sn), by (show pn.toNat < p.toNat; omega), ⟨l1, by rw [← e1]; exact l2, by (show 0 ≤ sn; omega), c', by (show pn ≤ 4294967297; omega), by (show 0 ≤ pn; omega)⟩, stLe rfl (by repeat' (first | exact t_nil | apply t_cons | exact u2_int))⟩
      have b2 : p * yl ≤ s * 4294967296 + ll := by
        subst hE; simp only [realE, cmp_gtr, intBinR, decide_eq_false_iff_not] at b
        rw [W2.1 a2, W2.2.1] at b; omega
      have R2 : Right y' w ll p := right_of h3 lw.2 (by omega) (dig_right h3 h4 D2.rest (by rw [← e2]; exact b2)) D2.lt D2.nn
      cbv
      refine E_br hE (fun a => ?_) (fun a => ?_)
      · exfalso; subst hE; simp only [realE, cmp_lss, decide_eq_true_eq] at a; omega
      clear a; cbv
      repeat' (first
        | (refine E_nm hE (fun v hv => ?_); cbv)
        | fail)
      rename_i v1 hv1
      obtain ⟨f1, f2⟩ := two_digits (y := y') (by omega) ew R R2
      subst hE
      have g1 : v1 = qn * 4294967296 + p := by
        rw [hv1]; show IntKind.u64.wrap (IntKind.u64.wrap (qn * 4294967296) + p) = _
        have := R.small; have := R2.small; have := R.nn; have := R2.nn
        rw [wu64, wu64]; omega
      have g2 : v = w * 4294967296 + ll - p * y' := by
        rw [hv]; show (IntKind.u64.wrap (IntKind.u64.wrap (IntKind.u64.wrap (w * 4294967296) + ll) - IntKind.u64.wrap (p * y'))).fdiv (2 ^ min (Int.toNat 0) IntKind.u64.bits) = _
        rw [right_wrap h4 R2, show (2 : Int) ^ min (Int.toNat 0) IntKind.u64.bits = 1 by decide, shr_lit (by decide), Int.ediv_one]
      have el : l' = lh * 4294967296 + ll := by omega
      rw [← el] at f1 f2
      rw [← hr, g1, g2]
      exact ⟨f1.symm, f2.symm, trivial⟩
    · have c' : rn < 4294967296 := by
        have : ¬ 4294967296 ≤ rn := by subst hE; simpa only [realE, cmp_geq, decide_eq_false_iff_not] using c
        omega
      have dt := D.top
      have dp := D.pos
      clear hqn hrn
      cbv
      exact ⟨(qn, rn), by (show qn.toNat < q.toNat; omega), ⟨l1, by rw [← e1]; exact l2, by (show 0 ≤ rn; omega), c', by (show qn ≤ 4294967297; omega), by (show 0 ≤ qn; omega)⟩, stLe rfl (by repeat' (first | exact t_nil | apply t_cons | exact u2_int))⟩
  have a' : q < 4294967296 := by
    have : ¬ 4294967296 ≤ q := by subst hE; simpa only [realE, cmp_geq, decide_eq_false_iff_not] using a
    omega
  cbv
  refine E_br hE (fun b => ?_) (fun b => ?_)
  · have H' : 4294967296 ≤ q ∨ r' * 4294967296 + lh < q * yl := .inr (by
      subst hE; simp only [realE, cmp_gtr, intBinR, decide_eq_true_eq] at b
      rw [W.1 a', W.2.1] at b; exact b)
    clear b
    cbv
    refine E_nm hE (fun qn hqn => ?_)
    cbv
    refine E_nm hE (fun rn hrn => ?_)
    obtain ⟨l1, l2, l3⟩ := less H'
    have eqn : qn = q - 1 := by
      subst hE; rw [hqn]; show IntKind.u64.wrap (q - 1) = _
      have := D.top
      rw [wu64]; omega
    have ern : rn = r' + yh := by subst hE; rw [hrn]; exact W.2.2
    rw [← eqn] at l1 l2
    rw [← ern] at l2
    cbv
    refine E_br hE (fun c => ?_) (fun c => ?_)
    · have c' : 4294967296 ≤ rn := by subst hE; simpa only [realE, cmp_geq, decide_eq_true_eq] using c
      have dt := D.top
      have R : Right y' u lh qn := right_of h3 h2 (by omega) (dig_right h3 h4 (by rw [← e1]; exact l2) (dig_break h4 (by omega) (by omega) (by omega) c')) l1 (by omega)
      clear hqn hrn c c' l1 l2 l3 H'
      cbv
      refine E_nm hE (fun w hw => ?_)
      have ew : w = u * 4294967296 + lh - qn * y' := by subst hE; rw [hw]; exact right_wrap h4 R
      have lw := right_left R
      rw [← ew] at lw
      clear hw
      cbv
      refine E_br hE (fun a => ?_) (fun a => ?_)
      · exfalso; subst hE; simp only [realE, cmp_eql, decide_eq_true_eq] at a; omega
      cbv
      refine E_nm hE (fun p0 hp0 => ?_)
      have e5 : p0 = w / yh := by
        subst hE; rw [hp0]; show IntKind.u64.wrap (w.tdiv yh) = _
        have b1 := Int.ediv_nonneg lw.1 (show (0 : Int) ≤ yh by omega)
        have b2 := Int.ediv_le_self yh lw.1
        rw [Int.tdiv_eq_ediv_of_nonneg lw.1, wu64]; omega
      clear hp0; cbv
      refine E_nm hE (fun s0 hs0 => ?_)
      have D1 : Dig y' w ll p0 (w - p0 * yh) := by
        have := dig_start (y := y') (u := w) (un := ll) h3 h4 lw.1 lw.2 (by omega) (by omega)
        rw [← e1, ← e5] at this; exact this
      have e6 : s0 = w - p0 * yh := by
        subst hE; rw [hs0]; show IntKind.u64.wrap (w - IntKind.u64.wrap (p0 * yh)) = _
        have b1 := D1.pos
        have b2 := Int.mul_nonneg D1.nn (show (0 : Int) ≤ yh by omega)
        rw [wu64, wu64]
        generalize p0 * yh = p at *
        omega
      rw [← e6] at D1
      clear hs0 e6 e5 a
      cbv
      refine E_loop hE hG hm hl (ι := Int × Int) (fun p => ⟨[(2, .int .u64 (.s y')), (8, .int .u64 (.s 0)), (9, .int .u64 (.s yh)), (10, .int .u64 (.s yl)), (14, .int .u64 (.s ll)), (15, .int .u64 (.s qn)), (17, .int .u64 (.s w)), (18, .int .u64 (.s p.1)), (16, .int .u64 (.s p.2))], []⟩)
        (fun p => p.1.toNat) (fun p => Dig y' w ll p.1 p.2) ⟨(p0, s0), D1, stLe rfl (by repeat' (first | exact t_nil | apply t_cons | exact u2_int))⟩ ?_
      rintro ⟨p, s⟩ D2
      dsimp only at D2
      cbv
      have W2 := dig_words h3 h4 (show 0 ≤ ll by omega) (by omega) D2
      rw [← e1, ← e2] at W2
      have less2 : (4294967296 ≤ p ∨ s * 4294967296 + ll < p * yl) → w * 4294967296 + ll < (p - 1 + 1) * y' ∧ s + yh = w - (p - 1) * yh ∧ 1 ≤ p := by
        intro h; rw [e1]; exact dig_less h3 h4 lw.1 lw.2 (by omega) (by omega) D2 (by rw [← e2]; exact h)
      have dt2 := D2.top
      have dp2 := D2.pos
      refine E_br hE (fun a => ?_) (fun a => ?_)
      · have H2 : 4294967296 ≤ p ∨ s * 4294967296 + ll < p * yl := .inl (by subst hE; simpa only [realE, cmp_geq, decide_eq_true_eq] using a)
        clear a
        cbv
        refine E_nm hE (fun pn hpn => ?_)
        cbv
        refine E_nm hE (fun sn hsn => ?_)
        obtain ⟨l1, l2, l3⟩ := less2 H2
        have epn : pn = p - 1 := by
          subst hE; rw [hpn]; show IntKind.u64.wrap (p - 1) = _
          rw [wu64]; omega
        have esn : sn = s + yh := by subst hE; rw [hsn]; exact W2.2.2
        rw [← epn] at l1 l2
        rw [← esn] at l2
        cbv
        refine E_br hE (fun c => ?_) (fun c => ?_)
        · have c' : 4294967296 ≤ sn := by subst hE; simpa only [realE, cmp_geq, decide_eq_true_eq] using c
          have R2 : Right y' w ll pn := right_of h3 lw.2 (by omega) (dig_right h3 h4 (by rw [← e1]; exact l2) (dig_break h4 (by omega) (by omega) (by omega) c')) l1 (by omega)
          clear hpn hsn c c' l1 l2 l3 H2
          cbv
          refine E_br hE (fun a => ?_) (fun a => ?_)
          · exfalso; subst hE; simp only [realE, cmp_lss, decide_eq_true_eq] at a; omega
          clear a; cbv
          repeat' (first
            | (refine E_nm hE (fun v hv => ?_); cbv)
            | fail)
          rename_i v1 hv1
          obtain ⟨f1, f2⟩ := two_digits (y := y') (by omega) ew R R2
          subst hE
          have g1 : v1 = qn * 4294967296 + pn := by
            rw [hv1]; show IntKind.u64.wrap (IntKind.u64.wrap (qn * 4294967296) + pn) = _
            have := R.small; have := R2.small; have := R.nn; have := R2.nn
            rw [wu64, wu64]; omega
          have g2 : v = w * 4294967296 + ll - pn * y' := by
            rw [hv]; show (IntKind.u64.wrap (IntKind.u64.wrap (IntKind.u64.wrap (w * 4294967296) + ll) - IntKind.u64.wrap (pn * y'))).fdiv (2 ^ min (Int.toNat 0) IntKind.u64.bits) = _
            rw [right_wrap h4 R2, show (2 : Int) ^ min (Int.toNat 0) IntKind.u64.bits = 1 by decide, shr_lit (by decide), Int.ediv_one]
          have el : l' = lh * 4294967296 + ll := by omega
          rw [← el] at f1 f2
          rw [← hr, g1, g2]
          exact ⟨f1.symm, f2.symm, trivial⟩
        · have c' : sn < 4294967296 := by
            have : ¬ 4294967296 ≤ sn := by subst hE; simpa only [realE, cmp_geq, decide_eq_false_iff_not] using c
            omega
          clear hpn hsn
          cbv
          exact ⟨(pn, sn), by (show pn.toNat < p.toNat; omega), ⟨l1, by rw [← e1]; exact l2, by (show 0 ≤ sn; omega), c', by (show pn ≤ 4294967297; omega), by (show 0 ≤ pn; omega)⟩, stLe rfl (by repeat' (first | exact t_nil | apply t_cons | exact u2_int))⟩
      have a2 : p < 4294967296 := by
        have : ¬ 4294967296 ≤ p := by subst hE; simpa only [realE, cmp_geq, decide_eq_false_iff_not] using a
        omega
      cbv
      refine E_br hE (fun b => ?_) (fun b => ?_)
      · have H2 : 4294967296 ≤ p ∨ s * 4294967296 + ll < p * yl := .inr (by
          subst hE; simp only [realE, cmp_gtr, intBinR, decide_eq_true_eq] at b
          rw [W2.1 a2, W2.2.1] at b; exact b)
        clear b
        cbv
        refine E_nm hE (fun pn hpn => ?_)
        cbv
        refine E_nm hE (fun sn hsn => ?_)
        obtain ⟨l1, l2, l3⟩ := less2 H2
        have epn : pn = p - 1 := by
          subst hE; rw [hpn]; show IntKind.u64.wrap (p - 1) = _
          rw [wu64]; omega
        have esn : sn = s + yh := by subst hE; rw [hsn]; exact W2.2.2
        rw [← epn] at l1 l2
        rw [← esn] at l2
        cbv
        refine E_br hE (fun c => ?_) (fun c => ?_)
        · have c' : 4294967296 ≤ sn := by subst hE; simpa only [realE, cmp_geq, decide_eq_true_eq] using c
          have R2 : Right y' w ll pn := right_of h3 lw.2 (by omega) (dig_right h3 h4 (by rw [← e1]; exact l2) (dig_break h4 (by omega) (by omega) (by omega) c')) l1 (by omega)
          clear hpn hsn c c' l1 l2 l3 H2
          cbv
          refine E_br hE (fun a => ?_) (fun a => ?_)
          · exfalso; subst hE; simp only [realE, cmp_lss, decide_eq_true_eq] at a; omega
          clear a; cbv
          repeat' (first
            | (refine E_nm hE (fun v hv => ?_); cbv)
            | fail)
          rename_i v1 hv1
          obtain ⟨f1, f2⟩ := two_digits (y := y') (by omega) ew R R2
          subst hE
          have g1 : v1 = qn * 4294967296 + pn := by
            rw [hv1]; show IntKind.u64.wrap (IntKind.u64.wrap (qn * 4294967296) + pn) = _
            have := R.small; have := R2.small; have := R.nn; have := R2.nn
            rw [wu64, wu64]; omega
          have g2 : v = w * 4294967296 + ll - pn * y' := by
            rw [hv]; show (IntKind.u64.wrap (IntKind.u64.wrap (IntKind.u64.wrap (w * 4294967296) + ll) - IntKind.u64.wrap (pn * y'))).fdiv (2 ^ min (Int.toNat 0) IntKind.u64.bits) = _
            rw [right_wrap h4 R2, show (2 : Int) ^ min (Int.toNat 0) IntKind.u64.bits = 1 by decide, shr_lit (by decide), Int.ediv_one]
          have el : l' = lh * 4294967296 + ll := by omega
          rw [← el] at f1 f2
          rw [← hr, g1, g2]
          exact ⟨f1.symm, f2.symm, trivial⟩
        · have c' : sn < 4294967296 := by
            have : ¬ 4294967296 ≤ sn := by subst hE; simpa only [realE, cmp_geq, decide_eq_false_iff_not] using c
            omega
          clear hpn hsn
          cbv
          exact ⟨(pn, sn), by (show pn.toNat < p.toNat; omega), ⟨l1, by rw [← e1]; exact l2, by (show 0 ≤ sn; omega), c', by (show pn ≤ 4294967297; omega), by (show 0 ≤ pn; omega)⟩, stLe rfl (by repeat' (first | exact t_nil | apply t_cons | exact u2_int))⟩
      have b2 : p * yl ≤ s * 4294967296 + ll := by
        subst hE; simp only [realE, cmp_gtr, intBinR, decide_eq_false_iff_not] at b
        rw [W2.1 a2, W2.2.1] at b; omega
      have R2 : Right y' w ll p := right_of h3 lw.2 (by omega) (dig_right h3 h4 D2.rest (by rw [← e2]; exact b2)) D2.lt D2.nn
      cbv
      refine E_br hE (fun a => ?_) (fun a => ?_)
      · exfalso; subst hE; simp only [realE, cmp_lss, decide_eq_true_eq] at a; omega
      clear a; cbv
      repeat' (first
        | (refine E_nm hE (fun v hv => ?_); cbv)
        | fail)
      rename_i v1 hv1
      obtain ⟨f1, f2⟩ := two_digits (y := y') (by omega) ew R R2
      subst hE
      have g1 : v1 = qn * 4294967296 + p := by
        rw [hv1]; show IntKind.u64.wrap (IntKind.u64.wrap (qn * 4294967296) + p) = _
        have := R.small; have := R2.small; have := R.nn; have := R2.nn
        rw [wu64, wu64]; omega
      have g2 : v = w * 4294967296 + ll - p * y' := by
        rw [hv]; show (IntKind.u64.wrap (IntKind.u64.wrap (IntKind.u64.wrap (w * 4294967296) + ll) - IntKind.u64.wrap (p * y'))).fdiv (2 ^ min (Int.toNat 0) IntKind.u64.bits) = _
        rw [right_wrap h4 R2, show (2 : Int) ^ min (Int.toNat 0) IntKind.u64.bits = 1 by decide, shr_lit (by decide), Int.ediv_one]
      have el : l' = lh * 4294967296 + ll := by omega
      rw [← el] at f1 f2
      rw [← hr, g1, g2]
      exact ⟨f1.symm, f2.symm, trivial⟩
    · have c' : rn < 4294967296 := by
        have : ¬ 4294967296 ≤ rn := by subst hE; simpa only [realE, cmp_geq, decide_eq_false_iff_not] using c
        omega
      have dt := D.top
      have dp := D.pos
      clear hqn hrn
      cbv
      exact ⟨(qn, rn), by (show qn.toNat < q.toNat; omega), ⟨l1, by rw [← e1]; exact l2, by (show 0 ≤ rn; omega), c', by (show qn ≤ 4294967297; omega), by (show 0 ≤ qn; omega)⟩, stLe rfl (by repeat' (first | exact t_nil | apply t_cons | exact u2_int))⟩
  have b' : q * yl ≤ r' * 4294967296 + lh := by
    subst hE; simp only [realE, cmp_gtr, intBinR, decide_eq_false_iff_not] at b
    rw [W.1 a', W.2.1] at b; omega
  have R : Right y' u lh q := right_of h3 h2 (by omega) (dig_right h3 h4 D.rest (by rw [← e2]; exact b')) D.lt D.nn
  cbv
  refine E_nm hE (fun w hw => ?_)
  have ew : w = u * 4294967296 + lh - q * y' := by subst hE; rw [hw]; exact right_wrap h4 R
  have lw := right_left R
  rw [← ew] at lw
  clear hw
  cbv
  refine E_br hE (fun a => ?_) (fun a => ?_)
  · exfalso; subst hE; simp only [realE, cmp_eql, decide_eq_true_eq] at a; omega
  cbv
  refine E_nm hE (fun p0 hp0 => ?_)
  have e5 : p0 = w / yh := by
    subst hE; rw [hp0]; show IntKind.u64.wrap (w.tdiv yh) = _
    have b1 := Int.ediv_nonneg lw.1 (show (0 : Int) ≤ yh by omega)
    have b2 := Int.ediv_le_self yh lw.1
    rw [Int.tdiv_eq_ediv_of_nonneg lw.1, wu64]; omega
  clear hp0; cbv
  refine E_nm hE (fun s0 hs0 => ?_)
  have D1 : Dig y' w ll p0 (w - p0 * yh) := by
    have := dig_start (y := y') (u := w) (un := ll) h3 h4 lw.1 lw.2 (by omega) (by omega)
    rw [← e1, ← e5] at this; exact this
  have e6 : s0 = w - p0 * yh := by
    subst hE; rw [hs0]; show IntKind.u64.wrap (w - IntKind.u64.wrap (p0 * yh)) = _
    have b1 := D1.pos
    have b2 := Int.mul_nonneg D1.nn (show (0 : Int) ≤ yh by omega)
    rw [wu64, wu64]
    generalize p0 * yh = p at *
    omega
  rw [← e6] at D1
  clear hs0 e6 e5 a
  cbv
  refine E_loop hE hG hm hl (ι := Int × Int) (fun p => ⟨[(2, .int .u64 (.s y')), (8, .int .u64 (.s 0)), (9, .int .u64 (.s yh)), (10, .int .u64 (.s yl)), (14, .int .u64 (.s ll)), (15, .int .u64 (.s q)), (17, .int .u64 (.s w)), (18, .int .u64 (.s p.1)), (16, .int .u64 (.s p.2))], []⟩)
    (fun p => p.1.toNat) (fun p => Dig y' w ll p.1 p.2) ⟨(p0, s0), D1, stLe rfl (by repeat' (first | exact t_nil | apply t_cons | exact u2_int))⟩ ?_
  rintro ⟨p, s⟩ D2
  dsimp only at D2
  cbv
  have W2 := dig_words h3 h4 (show 0 ≤ ll by omega) (by omega) D2
  rw [← e1, ← e2] at W2
  have less2 : (4294967296 ≤ p ∨ s * 4294967296 + ll < p * yl) → w * 4294967296 + ll < (p - 1 + 1) * y' ∧ s + yh = w - (p - 1) * yh ∧ 1 ≤ p := by
    intro h; rw [e1]; exact dig_less h3 h4 lw.1 lw.2 (by omega) (by omega) D2 (by rw [← e2]; exact h)
  have dt2 := D2.top
  have dp2 := D2.pos
  refine E_br hE (fun a => ?_) (fun a => ?_)
  · have H2 : 4294967296 ≤ p ∨ s * 4294967296 + ll < p * yl := .inl (by subst hE; simpa only [realE, cmp_geq, decide_eq_true_eq] using a)
    clear a
    cbv
    refine E_nm hE (fun pn hpn => ?_)
    cbv
    refine E_nm hE (fun sn hsn => ?_)
    obtain ⟨l1, l2, l3⟩ := less2 H2
    have epn : pn = p - 1 := by
      subst hE; rw [hpn]; show IntKind.u64.wrap (p - 1) = _
      rw [wu64]; omega
    have esn : sn = s + yh := by subst hE; rw [hsn]; exact W2.2.2
    rw [← epn] at l1 l2
    rw [← esn] at l2
    cbv
    refine E_br hE (fun c => ?_) (fun c => ?_)
    · have c' : 4294967296 ≤ sn := by subst hE; simpa only [realE, cmp_geq, decide_eq_true_eq] using c
      have R2 : Right y' w ll pn := right_of h3 lw.2 (by omega) (dig_right h3 h4 (by rw [← e1]; exact l2) (dig_break h4 (by omega) (by omega) (by omega) c')) l1 (by omega)
      clear hpn hsn c c' l1 l2 l3 H2
      cbv
      refine E_br hE (fun a => ?_) (fun a => ?_)
      · exfalso; subst hE; simp only [realE, cmp_lss, decide_eq_true_eq] at a; omega
      clear a; cbv
      repeat' (first
        | (refine E_nm hE (fun v hv => ?_); cbv)
        | fail)
      rename_i v1 hv1
      obtain ⟨f1, f2⟩ := two_digits (y := y') (by omega) ew R R2
      subst hE
      have g1 : v1 = q * 4294967296 + pn := by
        rw [hv1]; show IntKind.u64.wrap (IntKind.u64.wrap (q * 4294967296) + pn) = _
        have := R.small; have := R2.small; have := R.nn; have := R2.nn
        rw [wu64, wu64]; omega
      have g2 : v = w * 4294967296 + ll - pn * y' := by
        rw [hv]; show (IntKind.u64.wrap (IntKind.u64.wrap (IntKind.u64.wrap (w * 4294967296) + ll) - IntKind.u64.wrap (pn * y'))).fdiv (2 ^ min (Int.toNat 0) IntKind.u64.bits) = _
        rw [right_wrap h4 R2, show (2 : Int) ^ min (Int.toNat 0) IntKind.u64.bits = 1 by decide, shr_lit (by decide), Int.ediv_one]
      have el : l' = lh * 4294967296 + ll := by omega
      rw [← el] at f1 f2
      rw [← hr, g1, g2]
      exact ⟨f1.symm, f2.symm, trivial⟩
    · have c' : sn < 4294967296 := by
        have : ¬ 4294967296 ≤ sn := by subst hE; simpa only [realE, cmp_geq, decide_eq_false_iff_not] using c
        omega
      clear hpn hsn
      cbv
      exact ⟨(pn, sn), by (show pn.toNat < p.toNat; omega), ⟨l1, by rw [← e1]; exact l2, by (show 0 ≤ sn; omega), c', by (show pn ≤ 4294967297; omega), by (show 0 ≤ pn; omega)⟩, stLe rfl (by repeat' (first | exact t_nil | apply t_cons | exact u2_int))⟩
  have a2 : p < 4294967296 := by
    have : ¬ 4294967296 ≤ p := by subst hE; simpa only [realE, cmp_geq, decide_eq_false_iff_not] using a
    omega
  cbv
  refine E_br hE (fun b => ?_) (fun b => ?_)
  · have H2 : 4294967296 ≤ p ∨ s * 4294967296 + ll < p * yl := .inr (by
      subst hE; simp only [realE, cmp_gtr, intBinR, decide_eq_true_eq] at b
      rw [W2.1 a2, W2.2.1] at b; exact b)
    clear b
    cbv
    refine E_nm hE (fun pn hpn => ?_)
    cbv
    refine E_nm hE (fun sn hsn => ?_)
    obtain ⟨l1, l2, l3⟩ := less2 H2
    have epn : pn = p - 1 := by
      subst hE; rw [hpn]; show IntKind.u64.wrap (p - 1) = _
      rw [wu64]; omega
    have esn : sn = s + yh := by subst hE; rw [hsn]; exact W2.2.2
    rw [← epn] at l1 l2
    rw [← esn] at l2
    cbv
    refine E_br hE (fun c => ?_) (fun c => ?_)
    · have c' : 4294967296 ≤ sn := by subst hE; simpa only [realE, cmp_geq, decide_eq_true_eq] using c
      have R2 : Right y' w ll pn := right_of h3 lw.2 (by omega) (dig_right h3 h4 (by rw [← e1]; exact l2) (dig_break h4 (by omega) (by omega) (by omega) c')) l1 (by omega)
      clear hpn hsn c c' l1 l2 l3 H2
      cbv
      refine E_br hE (fun a => ?_) (fun a => ?_)
      · exfalso; subst hE; simp only [realE, cmp_lss, decide_eq_true_eq] at a; omega
      clear a; cbv
      repeat' (first
        | (refine E_nm hE (fun v hv => ?_); cbv)
        | fail)
      rename_i v1 hv1
      obtain ⟨f1, f2⟩ := two_digits (y := y') (by omega) ew R R2
      subst hE
      have g1 : v1 = q * 4294967296 + pn := by
        rw [hv1]; show IntKind.u64.wrap (IntKind.u64.wrap (q * 4294967296) + pn) = _
        have := R.small; have := R2.small; have := R.nn; have := R2.nn
        rw [wu64, wu64]; omega
      have g2 : v = w * 4294967296 + ll - pn * y' := by
        rw [hv]; show (IntKind.u64.wrap (IntKind.u64.wrap (IntKind.u64.wrap (w * 4294967296) + ll) - IntKind.u64.wrap (pn * y'))).fdiv (2 ^ min (Int.toNat 0) IntKind.u64.bits) = _
        rw [right_wrap h4 R2, show (2 : Int) ^ min (Int.toNat 0) IntKind.u64.bits = 1 by decide, shr_lit (by decide), Int.ediv_one]
      have el : l' = lh * 4294967296 + ll := by omega
      rw [← el] at f1 f2
      rw [← hr, g1, g2]
      exact ⟨f1.symm, f2.symm, trivial⟩
    · have c' : sn < 4294967296 := by
        have : ¬ 4294967296 ≤ sn := by subst hE; simpa only [realE, cmp_geq, decide_eq_false_iff_not] using c
        omega
      clear hpn hsn
      cbv
      exact ⟨(pn, sn), by (show pn.toNat < p.toNat; omega), ⟨l1, by rw [← e1]; exact l2, by (show 0 ≤ sn; omega), c', by (show pn ≤ 4294967297; omega), by (show 0 ≤ pn; omega)⟩, stLe rfl (by repeat' (first | exact t_nil | apply t_cons | exact u2_int))⟩
  have b2 : p * yl ≤ s * 4294967296 + ll := by
    subst hE; simp only [realE, cmp_gtr, intBinR, decide_eq_false_iff_not] at b
    rw [W2.1 a2, W2.2.1] at b; omega
  have R2 : Right y' w ll p := right_of h3 lw.2 (by omega) (dig_right h3 h4 D2.rest (by rw [← e2]; exact b2)) D2.lt D2.nn
  cbv
  refine E_br hE (fun a => ?_) (fun a => ?_)
  · exfalso; subst hE; simp only [realE, cmp_lss, decide_eq_true_eq] at a; omega
  clear a; cbv
  repeat' (first
    | (refine E_nm hE (fun v hv => ?_); cbv)
    | fail)
  rename_i v1 hv1
  obtain ⟨f1, f2⟩ := two_digits (y := y') (by omega) ew R R2
  subst hE
  have g1 : v1 = q * 4294967296 + p := by
    rw [hv1]; show IntKind.u64.wrap (IntKind.u64.wrap (q * 4294967296) + p) = _
    have := R.small; have := R2.small; have := R.nn; have := R2.nn
    rw [wu64, wu64]; omega
  have g2 : v = w * 4294967296 + ll - p * y' := by
    rw [hv]; show (IntKind.u64.wrap (IntKind.u64.wrap (IntKind.u64.wrap (w * 4294967296) + ll) - IntKind.u64.wrap (p * y'))).fdiv (2 ^ min (Int.toNat 0) IntKind.u64.bits) = _
    rw [right_wrap h4 R2, show (2 : Int) ^ min (Int.toNat 0) IntKind.u64.bits = 1 by decide, shr_lit (by decide), Int.ediv_one]
  have el : l' = lh * 4294967296 + ll := by omega
  rw [← el] at f1 f2
  rw [← hr, g1, g2]
  exact ⟨f1.symm, f2.symm, trivial⟩
end Go.Proofs.Ytaiillbjhdoikaa.Ev

/- Contracts: words of 32 bits. Printed by gen.py out of C22.spec. -/
namespace Go.Proofs.Ytaiillbjhdoikaa.Ev
open Go Go.Proofs
set_option linter.unusedVariables false
set_option linter.unusedSimpArgs false

theorem c_Div32 (hi : Int) (lo : Int) (y : Int) (hhi : 0 ≤ hi) (hhi' : hi < 4294967296) (hlo : 0 ≤ lo) (hlo' : lo < 4294967296) (hy : 0 ≤ y) (hy' : y < 4294967296) (hlt : hi < y) : ∃ t : Int × Int, t = ((hi * 4294967296 + lo) / y, (hi * 4294967296 + lo) % y) ∧ CallsA Try.prog 124 [.int .u32 (.s hi), .int .u32 (.s lo), .int .u32 (.s y)] (.tup [.int .u32 (.s t.1), .int .u32 (.s t.2)]) := by
  refine ⟨_, rfl, ?_⟩
  generalize hr : ((hi * 4294967296 + lo) / y, (hi * 4294967296 + lo) % y) = r
  refine callsA_of hG hm Try.func124 (by kernel_rfl) ?_
  intro E hE lp hl
  cbv
  repeat' (first
    | (refine E_br hE (fun h => ?_) (fun h => ?_) <;> cbv)
    | (refine E_nm hE (fun v hv => ?_); cbv)
    | fail)
  all_goals (subst hE; subst hr)
  all_goals (try simp only [realE, cmp_eql, cmp_neq, cmp_lss, cmp_leq, cmp_gtr, cmp_geq, intBinR, decide_eq_true_eq, decide_eq_false_iff_not, SI.val, SB.val, Num.eta, Iv.eta] at *)
  all_goals (try (exfalso; rw [wu64] at *; omega))
  all_goals (try (exfalso; omega))
  rename_i v1 v2 e1 e2 _ _ _
  rw [div32_word hhi hhi' hlo hlo'] at e1
  subst e1
  obtain ⟨q1, q2⟩ := div32_parts hhi hlo hlo' hlt hy'
  exact ⟨e2.trans q1, hv.trans q2, trivial⟩

theorem c_Len32 (x : Int) (hx : 0 ≤ x) (hx' : x < 4294967296) : ∃ t : Int, t = blen x ∧ CallsA Try.prog 87 [.int .u32 (.s x)] (.int .i64 (.s t)) := by
  refine ⟨_, rfl, ?_⟩
  generalize hr : blen x = r
  refine callsA_of hG hm Try.func87 (by kernel_rfl) ?_
  intro E hE lp hl
  cbv
  repeat' (first
    | (refine E_br hE (fun h => ?_) (fun h => ?_) <;> cbv)
    | (refine E_nm hE (fun v hv => ?_); cbv)
    | fail)
  all_goals (try (generalize hL : (⟨⟨[0, 1, 2, 2, 3, 3, 3, 3, 4, 4, 4, 4, 4, 4, 4, 4, 5, 5, 5, 5, 5, 5, 5, 5, 5, 5, 5, 5, 5, 5, 5, 5, 6, 6, 6, 6, 6, 6, 6, 6, 6, 6, 6, 6, 6, 6, 6, 6, 6, 6, 6, 6, 6, 6, 6, 6, 6, 6, 6, 6, 6, 6, 6, 6, 7, 7, 7, 7, 7, 7, 7, 7, 7, 7, 7, 7, 7, 7, 7, 7, 7, 7, 7, 7, 7, 7, 7, 7, 7, 7, 7, 7, 7, 7, 7, 7, 7, 7, 7, 7, 7, 7, 7, 7, 7, 7, 7, 7, 7, 7, 7, 7, 7, 7, 7, 7, 7, 7, 7, 7, 7, 7, 7, 7, 7, 7, 7, 7, 8, 8, 8, 8, 8, 8, 8, 8, 8, 8, 8, 8, 8, 8, 8, 8, 8, 8, 8, 8, 8, 8, 8, 8, 8, 8, 8, 8, 8, 8, 8, 8, 8, 8, 8, 8, 8, 8, 8, 8, 8, 8, 8, 8, 8, 8, 8, 8, 8, 8, 8, 8, 8, 8, 8, 8, 8, 8, 8, 8, 8, 8, 8, 8, 8, 8, 8, 8, 8, 8, 8, 8, 8, 8, 8, 8, 8, 8, 8, 8, 8, 8, 8, 8, 8, 8, 8, 8, 8, 8, 8, 8, 8, 8, 8, 8, 8, 8, 8, 8, 8, 8, 8, 8, 8, 8, 8, 8, 8, 8, 8, 8, 8, 8, 8, 8, 8, 8, 8, 8, 8, 8, 8, 8, 8, 8, 8, 8]⟩⟩ : ByteArray) = L at *; replace hL := len8_str hL; obtain ⟨hL1, hL2⟩ := hL))
  all_goals (subst hE; subst hr)
  all_goals (try simp only [realE, cmp_eql, cmp_neq, cmp_lss, cmp_leq, cmp_gtr, cmp_geq, intBinR, decide_eq_true_eq, decide_eq_false_iff_not, SI.val, SB.val, Num.eta, Iv.eta] at *)
  all_goals (simp only [shr8', shr16', wu8, wi64] at *)
  all_goals (try omega)
  all_goals (try rw [hL2 _ (by omega) (by omega)] at hv)
  all_goals (have b1 := blen_nonneg x; have b2 := blen_le 32 (x := x) (by omega))
  all_goals (try have s2 := len16 ‹(65536 : Int) ≤ _› ‹_ = _ / (65536 : Int)›)
  all_goals (try have s3 := len8 ‹(256 : Int) ≤ _› ‹_ = _ / (256 : Int)›)
  all_goals omega

theorem c_LZ32 (x : Int) (hx : 0 ≤ x) (hx' : x < 4294967296) : ∃ t : Int, t = 32 - blen x ∧ CallsA Try.prog 108 [.int .u32 (.s x)] (.int .i64 (.s t)) := by
  refine ⟨_, rfl, ?_⟩
  generalize hr : 32 - blen x = r
  refine callsA_of hG hm Try.func108 (by kernel_rfl) ?_
  intro E hE lp hl
  cbv
  repeat' (first
    | (refine E_br hE (fun h => ?_) (fun h => ?_) <;> cbv)
    | (refine E_nm hE (fun v hv => ?_); cbv)
    | (apply E_callX hE (c_Len32 _ ?_ ?_); (case hf => rfl); (case hc => (cbv <;> trivial)); (case hle => (repeat' (first | exact u_nil | apply u_cons | apply u2_agg | exact u2_int | exact u1_int | exact u2_bool | exact u1_bool | exact u2_sli | exact u1_sli | exact u2_s0 | exact u1_s0))); all_goals (first | (intro t ht; cbv) | (subst hE; (try simp only [realE, cmp_eql, cmp_neq, cmp_lss, cmp_leq, cmp_gtr, cmp_geq, intBinR, decide_eq_true_eq, decide_eq_false_iff_not, SI.val, SB.val, Num.eta, Iv.eta] at *); first | assumption | omega)))
    | (apply E_pcallX hE (c_Len32 _ ?_ ?_); (case hm => rfl); (case hle => (repeat' (first | exact u_nil | apply u_cons | apply u2_agg | exact u2_int | exact u1_int | exact u2_bool | exact u1_bool | exact u2_sli | exact u1_sli | exact u2_s0 | exact u1_s0))); all_goals (first | (intro t ht; cbv) | (subst hE; (try simp only [realE, cmp_eql, cmp_neq, cmp_lss, cmp_leq, cmp_gtr, cmp_geq, intBinR, decide_eq_true_eq, decide_eq_false_iff_not, SI.val, SB.val, Num.eta, Iv.eta] at *); first | assumption | omega)))
    | fail)
  all_goals (subst hE; subst hr)
  all_goals (try simp only [realE, cmp_eql, cmp_neq, cmp_lss, cmp_leq, cmp_gtr, cmp_geq, intBinR, decide_eq_true_eq, decide_eq_false_iff_not, SI.val, SB.val, Num.eta, Iv.eta] at *)
  all_goals (try simp only [wi64] at *)
  all_goals (have b1 := blen_nonneg x; have b2 := blen_le 32 (x := x) (by omega); omega)

end Go.Proofs.Ytaiillbjhdoikaa.Ev

/- Contracts: how many bits limbs have; a short division. Printed by gen.py. -/
namespace Go.Proofs.Ytaiillbjhdoikaa.Ev
open Go Go.Proofs
set_option linter.unusedVariables false
set_option linter.unusedSimpArgs false


attribute [local irreducible] Lb
theorem c_natLen (a : List Int) (ha : Lb a) (hla : a.length < 67108864) : ∃ t : Int, t = blen (lv a) ∧ CallsA Try.prog 42 [.sli .u32 a] (.int .i64 (.s t)) := by
  refine ⟨_, rfl, ?_⟩
  generalize hr : blen (lv a : Int) = r
  have hlx := lim_length_le' ha
  have hx := lim_lb (lv a)
  have vx := lv_lim (lv a)
  have lx := (lim_cn (lv a)).last
  obtain ⟨x, ex⟩ : ∃ x, lim (lv a) = x := ⟨_, rfl⟩
  rw [ex] at hlx hx vx lx
  have k1 : x.length = 0 → r = 0 := by
    intro h
    have : x = [] := List.length_eq_zero_iff.1 h
    rw [this] at vx
    rw [← hr, ← vx]; rfl
  have k2 : ¬ (x.length : Int) = 0 → ∀ t : Int, t = blen (x.getD (intBinR .sub .i64 x.length 1).toNat 0) → r = intBinR .add .i64 (intBinR .mul .i64 32 (intBinR .sub .i64 x.length 1)) t := by
    intro h t ht
    have hne : x ≠ [] := by intro e; rw [e] at h; simp at h
    have := blen_len hx hne (lx hne)
    have e1 : intBinR .sub .i64 x.length 1 = (x.length : Int) - 1 := by show IntKind.i64.wrap _ = _; rw [wi64_id (by omega) (by omega)]
    rw [e1] at ht ⊢
    have e2 : intBinR .mul .i64 32 ((x.length : Int) - 1) = 32 * ((x.length : Int) - 1) := by show IntKind.i64.wrap _ = _; rw [wi64_id (by omega) (by omega)]
    rw [e2, ← hr, ← vx, this]
    rw [show ((x.length : Int) - 1).toNat = x.length - 1 by omega] at ht
    have hg := hx.getD (x.length - 1)
    have b1 := blen_nonneg (x.getD (x.length - 1) 0)
    have b2 := blen_le 32 (x := x.getD (x.length - 1) 0) (by omega)
    rw [ht]
    show _ = IntKind.i64.wrap _
    rw [wi64_id (by omega) (by omega)]
  refine callsA_of hG hm Try.func42 (by kernel_rfl) ?_
  intro E hE lp hl
  cbv
  (apply E_callX hE (c_cut a ha (by omega)); (case hf => rfl); (case hc => (cbv <;> trivial)); (case hle => exact ⟨u2_sli, trivial⟩); intro x' hx'; cbv)
  rw [hx'.trans ex]
  clear hx' x'
  repeat' (first
    | (refine E_br hE (fun h => ?_) (fun h => ?_) <;> cbv)
    | (refine E_nm hE (fun v hv => ?_); cbv)
    | (refine E_nilS hE (fun b hb => ?_); cbv)
    | (apply E_callX hE (c_Len32 _ ?_ ?_); (case hf => rfl); (case hc => (cbv <;> trivial)); (case hle => (repeat' (first | exact u_nil | apply u_cons | apply u2_agg | exact u2_int | exact u1_int | exact u2_bool | exact u1_bool | exact u2_sli | exact u1_sli | exact u2_s0 | exact u1_s0))); all_goals (first | (intro t ht; cbv) | ((subst hE; first | exact (hx.getD _).1 | exact (hx.getD _).2))))
    | fail)
  all_goals (try (subst hE; first | exact (k1 (by have := eql_t h; simp only [realE] at this; omega)).symm | exact hv.trans (k2 (eql_f ‹_›) t ht).symm))
  all_goals (clear k1 k2 hr; subst hE; simp only [NatCast.natCast, Int.ofNat_eq_natCast, realE, cmp_eql, cmp_neq, cmp_lss, cmp_leq, cmp_gtr, cmp_geq, intBinR, decide_eq_true_eq, decide_eq_false_iff_not, SI.val, SB.val, Num.eta, Iv.eta] at *; (try simp only [wi64] at *); omega)

theorem short_next {a q : List Int} {d i k left j : Int} (ha : Lb a) (hla : a.length < 67108864) (hd : d < 4294967296) (h1 : 0 ≤ i) (h2 : i < a.length)
    (inv : ShortInv a q d (a.length - i.toNat) left) {i' : Int} (ei : i' = i) (ek : k = intBinR .sub .i64 (intBinR .sub .i64 a.length 1) i') (ej : j = intBinR .add .i64 i 1) {t : Int × Int}
    (et : t = ((left * 4294967296 + a.getD k.toNat 0) / d, (left * 4294967296 + a.getD k.toNat 0) % d)) {t2 : Int} (e2 : t2 = t.2) :
    0 ≤ j ∧ j ≤ a.length ∧ ((a.length : Int) - j).toNat < ((a.length : Int) - i).toNat ∧ ShortInv a (q.set k.toNat t.1) d (a.length - j.toNat) t2 := by
  subst ei
  have ej' : j = i' + 1 := by rw [ej]; show IntKind.i64.wrap (i' + 1) = _; rw [wi64_id (by omega) (by omega)]
  have ek' : k = a.length - 1 - i' := by
    rw [ek]; show IntKind.i64.wrap (IntKind.i64.wrap ((a.length : Int) - 1) - i') = _
    rw [wi64_id (n := (a.length : Int) - 1) (by omega) (by omega), wi64_id (by omega) (by omega)]
  rw [show a.length - i'.toNat = k.toNat + 1 by omega] at inv
  have st := inv.step ha hd (by omega)
  rw [e2, et, show a.length - j.toNat = k.toNat by omega]
  exact ⟨by omega, by omega, by omega, st⟩

def shortS (E : Env) (a : List Int) (d : Int) : Int × Int × List Int → St := fun p => ⟨[(0, .sli .u32 a), (1, .int .u32 (.s d)), (4, .ms 0 1 (.l 0) (.s (E.len a))), (6, .int .u32 (.s p.2.1)), (13, .int .i64 (.s (E.len a))), (14, .int .i64 (.s p.1))], [.ints true .u32 p.2.2]⟩
set_option maxHeartbeats 1000000 in
theorem c_short (a : List Int) (d : Int) (ha : Lb a) (hla : a.length < 67108864) (hd0 : 0 < d) (hd : d < 4294967296) : ∃ t : List Int × List Int, t = (lim (lv a / d.toNat), lim (lv a % d.toNat)) ∧ CallsA Try.prog 107 [.sli .u32 a, .int .u32 (.s d)] (.tup [.sli .u32 t.1, .sli .u32 t.2]) := by
  refine ⟨_, rfl, ?_⟩
  generalize hr : (lim (lv a / d.toNat), lim (lv a % d.toNat)) = r
  obtain ⟨m, em⟩ : ∃ m : Int × Int × List Int → Nat, ∀ p, m p = (a.length - p.1).toNat := ⟨_, fun _ => rfl⟩
  obtain ⟨ok, eok⟩ : ∃ ok : Int × Int × List Int → Prop, ∀ p, ok p ↔ 0 ≤ p.1 ∧ p.1 ≤ a.length ∧ ShortInv a p.2.2 d (a.length - p.1.toNat) p.2.1 := ⟨_, fun _ => Iff.rfl⟩
  refine callsA_of hG hm Try.func107 (by kernel_rfl) ?_
  intro E hE lp hl
  cbv
  repeat' (first
    | (refine E_br hE (fun h => ?_) (fun h => ?_) <;> cbv)
    | (refine E_nm hE (fun v hv => ?_); cbv)
    | (refine E_nilS hE (fun b hb => ?_); cbv)
    | fail)
  all_goals (try (exfalso; subst hE; simp only [NatCast.natCast, Int.ofNat_eq_natCast, realE, cmp_eql, cmp_neq, cmp_lss, cmp_leq, cmp_gtr, cmp_geq, intBinR, decide_eq_true_eq, decide_eq_false_iff_not, SI.val, SB.val, Num.eta, Iv.eta] at *; omega))
  refine E_loop hE hG hm hl (shortS E a d) m ok ⟨(0, 0, E.rep (E.len a)), (eok _).2 ?_, stLe rfl ?_⟩ ?_
  · refine ⟨by show (0 : Int) ≤ 0; omega, by show (0 : Int) ≤ a.length; omega, ?_⟩
    have := ShortInv.start a hd0
    subst hE; simp only [NatCast.natCast, Int.ofNat_eq_natCast, realE, cmp_eql, cmp_neq, cmp_lss, cmp_leq, cmp_gtr, cmp_geq, intBinR, decide_eq_true_eq, decide_eq_false_iff_not, SI.val, SB.val, Num.eta, Iv.eta] at *
    exact this
  · (repeat' (first | exact t_nil | apply t_cons | exact u2_sli | exact u2_int | exact u2_bool | exact u2_ms | exact u2_ptr | exact (rfl : sle2 .s0 .s0)))
  rintro ⟨i, left, q⟩ hok
  have h1 : 0 ≤ i := ((eok _).1 hok).1
  have h2 : i ≤ a.length := ((eok _).1 hok).2.1
  have inv : ShortInv a q d (a.length - i.toNat) left := ((eok _).1 hok).2.2
  have hol := inv.len
  have l0 := inv.l0
  have l1 := inv.l1
  have lq : Lb q := inv.lb
  have ll : Lb [left] := Lb.cons l0 (by omega) Lb.nil
  have fin : ¬ i < a.length → (lim (lv q), lim (lv [left])) = r := by
    intro h
    rw [show a.length - i.toNat = 0 by omega] at inv
    obtain ⟨f1, f2⟩ := inv.stop
    rw [← hr, f1]
    congr 2
    simp only [lv]
    omega
  clear hok hr
  cbv
  repeat' (first
    | (refine E_br hE (fun h => ?_) (fun h => ?_) <;> cbv)
    | (refine E_nm hE (fun v hv => ?_); cbv)
    | (refine E_nilS hE (fun b hb => ?_); cbv)
    | (apply E_callX hE (c_Div32 _ _ _ ?_ ?_ ?_ ?_ ?_ ?_ ?_); (case hf => rfl); (case hc => (cbv <;> trivial)); (case hle => (repeat' (first | exact u_nil | apply u_cons | apply u2_agg | exact u2_int | exact u1_int | exact u2_bool | exact u1_bool | exact u2_sli | exact u1_sli | exact u2_s0 | exact u1_s0))); all_goals (first | (intro t ht; cbv) | (((try simp only [SI.val]); first | omega | (subst hE; first | exact (ha.getD _).1 | exact (ha.getD _).2)))))
    | (apply E_callX hE (c_cut _ ?_ ?_); (case hf => rfl); (case hc => (cbv <;> trivial)); (case hle => (repeat' (first | exact u_nil | apply u_cons | apply u2_agg | exact u2_int | exact u1_int | exact u2_bool | exact u1_bool | exact u2_sli | exact u1_sli | exact u2_s0 | exact u1_s0))); all_goals (first | (intro t ht; cbv) | ((subst hE; first | exact ll | (simp only [NatCast.natCast, Int.ofNat_eq_natCast, realE, cmp_eql, cmp_neq, cmp_lss, cmp_leq, cmp_gtr, cmp_geq, intBinR, decide_eq_true_eq, decide_eq_false_iff_not, SI.val, SB.val, Num.eta, Iv.eta] at *; (try rw [sub_all (by omega)]); first | assumption | omega | (simp; done))))))
    | fail)
  all_goals (try refine ⟨(E.bin .add .i64 i 1, v, E.set q _ t.1), ?_, ?_, stLe rfl ?_⟩)
  all_goals (try ((repeat' (first | exact t_nil | apply t_cons | exact u2_sli | exact u2_int | exact u2_bool | exact u2_ms | exact u2_ptr | exact (rfl : sle2 .s0 .s0))); done))
  all_goals (subst hE)
  all_goals (try (first | (rw [em, em]; exact (short_next ha hla hd h1 (lss_t ‹_›) inv ‹_ = i› ‹_› rfl ‹t = _› ‹_›).2.2.1) | (rw [eok]; have q := short_next ha hla hd h1 (lss_t ‹_›) inv ‹_ = i› ‹_› rfl ‹t = _› ‹_›; exact ⟨q.1, q.2.1, q.2.2.2⟩)))
  case refine_1.refine_1.refine_1.refine_3.refine_2.hK.hK => have f := fin (lss_f ‹_›); rename_i q' hq'; rw [← f]; simp only [NatCast.natCast, Int.ofNat_eq_natCast, realE, cmp_eql, cmp_neq, cmp_lss, cmp_leq, cmp_gtr, cmp_geq, intBinR, decide_eq_true_eq, decide_eq_false_iff_not, SI.val, SB.val, Num.eta, Iv.eta] at *; refine ⟨?_, ‹_ = _›, trivial⟩; rw [hq', sub_all (by omega)]
  all_goals (clear inv eok em fin; simp only [NatCast.natCast, Int.ofNat_eq_natCast, realE, cmp_eql, cmp_neq, cmp_lss, cmp_leq, cmp_gtr, cmp_geq, intBinR, decide_eq_true_eq, decide_eq_false_iff_not, SI.val, SB.val, Num.eta, Iv.eta] at *; (try simp only [wi64] at *); omega)

end Go.Proofs.Ytaiillbjhdoikaa.Ev

/- Contracts: the guess of a limb of a quotient. Printed by gen.py. -/
namespace Go.Proofs.Ytaiillbjhdoikaa.Ev
open Go Go.Proofs
set_option linter.unusedVariables false
set_option linter.unusedSimpArgs false


def guessS (r2 r1 r0 d1 d0 t : Int) : Int × Int → St := fun p => ⟨[(0, .int .u32 (.s r2)), (1, .int .u32 (.s r1)), (2, .int .u32 (.s r0)), (3, .int .u32 (.s d1)), (4, .int .u32 (.s d0)), (11, .int .u64 (.s t)), (12, .int .u64 (.s p.1)), (13, .int .u64 (.s p.2))], []⟩
theorem c_guess (r2 r1 r0 d1 d0 : Int) (I : GuessIn r2 r1 r0 d1 d0) : ∃ t : Int, t = guessQ r2 r1 r0 d1 d0 ∧ CallsA Try.prog 109 [.int .u32 (.s r2), .int .u32 (.s r1), .int .u32 (.s r0), .int .u32 (.s d1), .int .u32 (.s d0)] (.int .u32 (.s t)) := by
  refine ⟨_, rfl, ?_⟩
  generalize hr : guessQ r2 r1 r0 d1 d0 = r
  obtain ⟨m, em⟩ : ∃ m : Int × Int → Nat, ∀ p, m p = p.1.toNat := ⟨_, fun _ => rfl⟩
  obtain ⟨ok, eok⟩ : ∃ ok : Int × Int → Prop, ∀ p, ok p ↔ GuessInv r2 r1 r0 d1 d0 p.1 p.2 := ⟨_, fun _ => Iff.rfl⟩
  have hd := I.d1b
  refine callsA_of hG hm Try.func109 (by kernel_rfl) ?_
  intro E hE lp hl
  cbv
  repeat' (first
    | (refine E_br hE (fun h => ?_) (fun h => ?_) <;> cbv)
    | (refine E_nm hE (fun v hv => ?_); cbv)
    | (refine E_nilS hE (fun b hb => ?_); cbv)
    | fail)
  · subst hE; have h' : IntKind.u64.wrap d1 = 0 := eql_t h; rw [wu64_id (by omega) (by omega)] at h'; omega
  · subst hE; have h' : IntKind.u64.wrap d1 = 0 := eql_t h; rw [wu64_id (by omega) (by omega)] at h'; omega
  rename_i t et _ q eq
  refine E_loop hE hG hm hl (guessS r2 r1 r0 d1 d0 t) m ok ⟨(q, v), (eok _).2 ?_, stLe rfl ?_⟩ ?_
  · subst hE; exact guess_start I et eq hv
  · (repeat' (first | exact t_nil | apply t_cons | exact u2_sli | exact u2_int | exact u2_bool | exact u2_ms | exact u2_ptr | exact (rfl : sle2 .s0 .s0)))
  clear eq hv et
  rintro ⟨q, left⟩ hok
  have inv : GuessInv r2 r1 r0 d1 d0 q left := (eok _).1 hok
  clear hok
  cbv
  repeat' (first
    | (refine E_br hE (fun h => ?_) (fun h => ?_) <;> cbv)
    | (refine E_nm hE (fun v hv => ?_); cbv)
    | (refine E_nilS hE (fun b hb => ?_); cbv)
    | fail)
  all_goals (try (rename_i q' eq'; refine ⟨(q', v), ?_, ?_, stLe rfl ?_⟩))
  all_goals (try ((repeat' (first | exact t_nil | apply t_cons | exact u2_sli | exact u2_int | exact u2_bool | exact u2_ms | exact u2_ptr | exact (rfl : sle2 .s0 .s0))); done))
  all_goals (subst hE)
  all_goals (first
    | (rw [em, em]; exact (guess_step I inv (by first | exact .inl (gtr_t ‹_›) | exact .inr ⟨gtr_f ‹_›, gtr_t ‹_›⟩) ‹_› ‹_› (gtr_f ‹_›)).1)
    | (rw [eok]; exact (guess_step I inv (by first | exact .inl (gtr_t ‹_›) | exact .inr ⟨gtr_f ‹_›, gtr_t ‹_›⟩) ‹_› ‹_› (gtr_f ‹_›)).2)
    | (rw [← hr, hv]; exact guess_brk I inv (by first | exact .inl (gtr_t ‹_›) | exact .inr ⟨gtr_f ‹_›, gtr_t ‹_›⟩) ‹_› ‹_› (gtr_t ‹_›))
    | (rw [← hr, hv]; exact guess_done I inv (gtr_f ‹_›) (gtr_f ‹_›)))

end Go.Proofs.Ytaiillbjhdoikaa.Ev

/- The steps of a long division, as the words of the program reckon them. -/
namespace Go.Proofs.Ytaiillbjhdoikaa.Ev
open Go

theorem less_next {r0 d r : List Int} {q at_ i carry borrow : Int} (hd : Lb d) (hq : 0 ≤ q ∧ q < 4294967296) (hlr : r0.length < 134217728) (h1 : 0 ≤ i) (h2 : i < d.length) (ha : 0 ≤ at_) (hat : at_ + d.length < r0.length)
    (inv : LessInv r0 d q at_.toNat r i.toNat carry borrow) {i' y v b' j : Int} {t : Int × Int} (ei : i' = i) (ey : y = d.getD i.toNat 0)
    (ev : v = intBinR .add .u64 (intBinR .mul .u64 (IntKind.u64.wrap y) (IntKind.u64.wrap q)) carry)
    (et : t = ((r.getD (intBinR .add .i64 at_ i').toNat 0 - IntKind.u32.wrap v - borrow) % 4294967296, if r.getD (intBinR .add .i64 at_ i').toNat 0 < IntKind.u32.wrap v + borrow then 1 else 0))
    (eb : b' = t.2) (ej : j = intBinR .add .i64 i 1) {c' : Int} (ec : c' = intBinR .shr .u64 v 32) :
    0 ≤ j ∧ j ≤ d.length ∧ ((d.length : Int) - j).toNat < ((d.length : Int) - i).toNat ∧ LessInv r0 d q at_.toNat (r.set (intBinR .add .i64 at_ i').toNat t.1) j.toNat c' b' := by
  have hy := hd.getD i.toNat
  subst ei
  have st := inv.step hd hq (by omega)
  rw [← ey] at st hy
  have c0 := inv.c0
  have c1 := inv.c1
  have e := less_digit hy hq ⟨c0, c1⟩
  have eai : (intBinR .add .i64 at_ i').toNat = at_.toNat + i'.toNat := by
    show (IntKind.i64.wrap (at_ + i')).toNat = _
    rw [wi64_id (by omega) (by omega)]; omega
  have ej' : j = i' + 1 := by rw [ej]; show IntKind.i64.wrap (i' + 1) = _; rw [wi64_id (by omega) (by omega)]
  have ev' : v = y * q + carry := by
    rw [ev, wu64_id hy.1 (by omega), wu64_id hq.1 (by omega)]
    have : intBinR .mul .u64 y q = y * q := wu64_id e.1 (by omega)
    rw [this]
    exact wu64_id (by omega) (by omega)
  have ec' : c' = v / 4294967296 := by rw [ec]; exact shr32 v
  rw [eai] at et ⊢
  rw [wu32, ev'] at et
  rw [eb, et, ec', ev', ej', show (i' + 1).toNat = i'.toNat + 1 by omega]
  exact ⟨by omega, by omega, by omega, st⟩

/-- what a guess times the divisor taken away leaves -/
structure LessR (r0 d : List Int) (q : Int) (at_ : Nat) (r : List Int) (b : Bool) : Prop where
  len : r.length = r0.length
  lb : Lb r
  same : ∀ j, at_ + d.length + 1 ≤ j → r.getD j 0 = r0.getD j 0
  val : lv r + 4294967296 ^ at_ * (q.toNat * lv d) = lv r0 + (if b then 4294967296 ^ (at_ + d.length + 1) else 0)

theorem less_stop {r0 d r : List Int} {q at_ i carry borrow : Int} (hlr : r0.length < 134217728) (h2 : i ≤ d.length) (h3 : ¬ i < d.length) (ha : 0 ≤ at_) (hat : at_ + d.length < r0.length)
    (inv : LessInv r0 d q at_.toNat r i.toNat carry borrow) {b' : Int} {b : Bool} {t : Int × Int}
    (et : t = ((r.getD (intBinR .add .i64 at_ d.length).toNat 0 - IntKind.u32.wrap carry - borrow) % 4294967296, if r.getD (intBinR .add .i64 at_ d.length).toNat 0 < IntKind.u32.wrap carry + borrow then 1 else 0))
    (eb : b' = t.2) (e : b = cmpR .neq b' 0) : LessR r0 d q at_.toNat (r.set (intBinR .add .i64 at_ d.length).toNat t.1) b := by
  have c0 := inv.c0
  have c1 := inv.c1
  rw [show i.toNat = d.length by omega] at inv
  obtain ⟨k1, k2, k3, k4⟩ := inv.stop (by omega)
  have eai : (intBinR .add .i64 at_ d.length).toNat = at_.toNat + d.length := by
    show (IntKind.i64.wrap (at_ + d.length)).toNat = _
    rw [wi64_id (by omega) (by omega)]; omega
  rw [eai] at et ⊢
  rw [wu32, Int.emod_eq_of_lt c0 c1] at et
  have e1 : t.1 = (r.getD (at_.toNat + d.length) 0 - carry - borrow) % 4294967296 := by rw [et]
  have e2 : b' = if r.getD (at_.toNat + d.length) 0 < carry + borrow then 1 else 0 := by rw [eb, et]
  rw [e1]
  refine ⟨k1, k2, k3, ?_⟩
  rw [k4]
  congr 1
  rw [e, e2]
  split
  · simp [cmpR]
  · simp [cmpR]

theorem more_next {r0 d r : List Int} {at_ i c : Int} (hd : Lb d) (hlr : r0.length < 134217728) (h1 : 0 ≤ i) (h2 : i < d.length) (ha : 0 ≤ at_) (hat : at_ + d.length < r0.length)
    (inv : MoreInv r0 d at_.toNat r i.toNat c) {i' y c' j : Int} {t : Int × Int} (ei : i' = i) (ey : y = d.getD i.toNat 0)
    (et : t = ((r.getD (intBinR .add .i64 at_ i').toNat 0 + y + c) % 4294967296, (r.getD (intBinR .add .i64 at_ i').toNat 0 + y + c) / 4294967296))
    (ec : c' = t.2) (ej : j = intBinR .add .i64 i 1) :
    0 ≤ j ∧ j ≤ d.length ∧ ((d.length : Int) - j).toNat < ((d.length : Int) - i).toNat ∧ MoreInv r0 d at_.toNat (r.set (intBinR .add .i64 at_ i').toNat t.1) j.toNat c' := by
  subst ei
  have st := inv.step hd (by omega)
  rw [← ey] at st
  have eai : (intBinR .add .i64 at_ i').toNat = at_.toNat + i'.toNat := by
    show (IntKind.i64.wrap (at_ + i')).toNat = _
    rw [wi64_id (by omega) (by omega)]; omega
  have ej' : j = i' + 1 := by rw [ej]; show IntKind.i64.wrap (i' + 1) = _; rw [wi64_id (by omega) (by omega)]
  rw [eai] at et ⊢
  rw [ec, et, ej', show (i' + 1).toNat = i'.toNat + 1 by omega]
  exact ⟨by omega, by omega, by omega, st⟩

structure MoreR (r0 d : List Int) (at_ : Nat) (r : List Int) : Prop where
  len : r.length = r0.length
  lb : Lb r
  same : ∀ j, at_ + d.length + 1 ≤ j → r.getD j 0 = r0.getD j 0
  val : ∃ c : Int, 0 ≤ c ∧ c ≤ 1 ∧ lv r + 4294967296 ^ (at_ + d.length + 1) * c.toNat = lv r0 + 4294967296 ^ at_ * lv d

theorem more_stop {r0 d r : List Int} {at_ i c : Int} (hlr : r0.length < 134217728) (h2 : i ≤ d.length) (h3 : ¬ i < d.length) (ha : 0 ≤ at_) (hat : at_ + d.length < r0.length)
    (inv : MoreInv r0 d at_.toNat r i.toNat c) {v : Int} (ev : v = intBinR .add .u32 (r.getD (intBinR .add .i64 at_ d.length).toNat 0) c) : MoreR r0 d at_.toNat (r.set (intBinR .add .i64 at_ d.length).toNat v) := by
  have c0 := inv.c0
  have c1 := inv.c1
  rw [show i.toNat = d.length by omega] at inv
  have hx := inv.lb.getD (at_.toNat + d.length)
  obtain ⟨k1, k2, k3, k4⟩ := inv.stop (by omega)
  have eai : (intBinR .add .i64 at_ d.length).toNat = at_.toNat + d.length := by
    show (IntKind.i64.wrap (at_ + d.length)).toNat = _
    rw [wi64_id (by omega) (by omega)]; omega
  rw [eai] at ev ⊢
  have ev' : v = (r.getD (at_.toNat + d.length) 0 + c) % 4294967296 := by rw [ev]; exact wu32 _
  rw [ev']
  exact ⟨k1, k2, k3, _, by omega, by omega, k4⟩
end Go.Proofs.Ytaiillbjhdoikaa.Ev
