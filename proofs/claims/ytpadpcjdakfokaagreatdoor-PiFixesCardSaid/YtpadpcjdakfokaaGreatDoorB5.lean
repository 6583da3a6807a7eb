/- Texts of the proof, joined: Pu17 Br5 Br6 R18 Br8 R19 Br9 C3 C4 C5 C6 R20 Br10 R21 R25 Ev29 N1 NTrim C22a N2 N3 W1 N4 C7 C8 C22 N5 N6 Bn10 Ev28 N7 N8 Bn11 N9 Bn12 N10 C9 N11 W2 -/
import Derived.Test.YtpadpcjdakfokaaGreatDoorB4
set_option linter.unusedVariables false
set_option linter.unusedSimpArgs false

/- Products, quotients and sums are rounded as they ought to be: plain Lean. -/
namespace Go.Proofs.YtpadpcjdakfokaaGreatDoor.Ev
open Go

theorem cut_div {N d P e c : Int} (hd : 0 < d) (hP : 0 < P) (hs : pw e * c = d * P) :
    if decide (N % d ≠ 0) = true then N / d * pw e * c < N * P ∧ N * P < (N / d + 1) * pw e * c else N * P = N / d * pw e * c := by
  have e1 := Int.mul_ediv_add_emod N d
  have e2 := Int.emod_nonneg N (show d ≠ 0 by omega)
  have e3 := Int.emod_lt_of_pos N hd
  have a1 : ∀ q : Int, q * pw e * c = d * q * P := fun q => by rw [Int.mul_assoc, hs]; grind
  rw [a1, a1]
  split
  · rename_i h
    simp only [decide_eq_true_eq] at h
    constructor
    · exact Int.mul_lt_mul_of_pos_right (by omega) hP
    · refine Int.mul_lt_mul_of_pos_right ?_ hP
      have : d * (N / d + 1) = d * (N / d) + d := by grind
      omega
  · rename_i h
    simp only [decide_eq_true_eq, Classical.not_not] at h
    congr 1
    omega

/-- rounded to 64 bits: N / d, of a scale -/
theorem grow_div {neg up : Bool} {N d P e c : Int} (hd : 0 < d) (hP : 0 < P) (hs : pw e * c = d * P) (hc : 0 < c) (h1 : 9223372036854775808 ≤ N / d) (h2 : N / d < 18446744073709551616) (he : -4194303 ≤ e) (he' : e ≤ 4194303) :
    Best (Num.grow neg (N / d) e (decide (N % d ≠ 0)) (up != neg)) up (if neg then -(N * P) else N * P) c :=
  grow_best h1 h2 he he' hc (cut_div hd hP hs)

theorem mulF_best {a b : Num} (ha : a.Fin) (hb : b.Fin) (up : Bool) : Best (Num.mulF a b up) up (a.val * b.val) (pw 0) := by
  rw [Num.Fin.val_mul]
  have := ha.lo; have := ha.hi; have := ha.elo; have := ha.ehi
  have := hb.lo; have := hb.hi; have := hb.elo; have := hb.ehi
  have m1 : 9223372036854775808 * 9223372036854775808 ≤ a.m * b.m := Int.mul_le_mul ha.lo hb.lo (by decide) (by omega)
  have m2 : a.m * b.m ≤ 18446744073709551615 * 18446744073709551615 := Int.mul_le_mul (by omega) (by omega) (by omega) (by decide)
  have eW : a.W * b.W = a.m * b.m * (pw (a.e + b.e) * pw 0) := by
    rw [ha.W, hb.W]
    have e := pw_mul (e := a.e) (f := b.e) (by omega) (by omega) (by omega)
    have e1 : a.m * pw a.e * (b.m * pw b.e) = a.m * b.m * (pw a.e * pw b.e) := by grind
    rw [e1, e]; grind
  have p := pw_pos (a.e + b.e)
  have p0 := pw_pos 0
  have pp := Int.mul_pos p p0
  unfold Num.mulF
  rw [eW]
  generalize a.m * b.m = p' at *
  split
  · exact grow_div (by decide) pp (by rw [pw_63 (by omega)]; grind) p0 (by omega) (by omega) (by omega) (by omega)
  · exact grow_div (by decide) pp (by rw [pw_64 (by omega)]; grind) p0 (by omega) (by omega) (by omega) (by omega)

theorem div_bounds {N d : Int} (hd : 0 < d) {l u : Int} (h1 : d * l ≤ N) (h2 : N < d * u) : l ≤ N / d ∧ N / d < u :=
  ⟨(Int.le_ediv_iff_mul_le hd).2 (by rw [Int.mul_comm]; exact h1), Int.ediv_lt_of_lt_mul hd (by rw [Int.mul_comm]; exact h2)⟩

/-! ### sums -/
/-- what is cut off in two steps is what is cut off in one -/
theorem cut_two {N K D : Int} (hK : 0 < K) (hD : 0 < D) : N / K / D = N / (K * D) ∧ (decide (N % K ≠ 0) || decide (N / K % D ≠ 0)) = decide (N % (K * D) ≠ 0) := by
  have h0 : N / K / D = N / (K * D) := Int.ediv_ediv_of_nonneg (Int.le_of_lt hK)
  refine ⟨h0, ?_⟩
  have h : N % (K * D) = N % K + K * (N / K % D) := by
    have e1 := Int.mul_ediv_add_emod N K
    have e2 := Int.mul_ediv_add_emod (N / K) D
    have e3 := Int.mul_ediv_add_emod N (K * D)
    rw [h0] at e2
    have e4 : K * (D * (N / (K * D)) + N / K % D) = K * D * (N / (K * D)) + K * (N / K % D) := by rw [Int.mul_add, Int.mul_assoc]
    rw [e2] at e4
    omega
  have h1 := Int.emod_nonneg N (show K ≠ 0 by omega)
  have h2 := Int.emod_nonneg (N / K) (show D ≠ 0 by omega)
  have h3 : 0 ≤ K * (N / K % D) := Int.mul_nonneg (Int.le_of_lt hK) h2
  have h4 : N / K % D ≠ 0 → 0 < K * (N / K % D) := fun g => Int.mul_pos hK (by omega)
  rw [← Bool.decide_or, decide_eq_decide, h]
  generalize N / K % D = y at *
  by_cases g : y = 0
  · subst g; simp
  · have := h4 g
    constructor
    · intro _; omega
    · intro _; exact .inr g

theorem plus_eq {a b : Num} : plusX a b = (a.m * 2 ^ (a.e - b.e).toNat + b.m) * 18446744073709551616 / 2 ^ (a.e - b.e).toNat ∧ plusC a b = decide ((a.m * 2 ^ (a.e - b.e).toNat + b.m) * 18446744073709551616 % 2 ^ (a.e - b.e).toNat ≠ 0) := by
  have p := two_pos (a.e - b.e).toNat
  have e : (a.m * 2 ^ (a.e - b.e).toNat + b.m) * 18446744073709551616 = b.m * 18446744073709551616 + a.m * 18446744073709551616 * 2 ^ (a.e - b.e).toNat := by grind
  unfold plusX plusC
  rw [e]
  constructor
  · rw [Int.add_mul_ediv_right _ _ (by omega), Int.add_comm]
  · rw [Int.add_mul_emod_self_right]

theorem same_div {N M K D : Int} (hM : 0 < M) : N * M / (K * (M * D)) = N / (K * D) ∧ decide (N * M % (K * (M * D)) ≠ 0) = decide (N % (K * D) ≠ 0) := by
  have e : K * (M * D) = M * (K * D) := Int.mul_left_comm ..
  rw [e, Int.mul_comm N M]
  constructor
  · exact Int.mul_ediv_mul_of_pos _ _ hM
  · rw [Int.mul_emod_mul_of_pos _ _ hM, decide_eq_decide]
    constructor
    · intro h g; exact h (by rw [g]; simp)
    · intro h g
      rcases Int.mul_eq_zero.1 g with q | q
      · omega
      · exact h q

theorem plusP_best {a b : Num} (ha : a.Fin) (hb : b.Fin) (hk : b.e ≤ a.e) (hs : a.neg = b.neg) (up : Bool) : Best (plusP a b up) up (a.val + b.val) 1 := by
  have := ha.lo; have := ha.hi; have := ha.elo; have := ha.ehi
  have := hb.lo; have := hb.hi; have := hb.elo; have := hb.ehi
  have p := two_pos (a.e - b.e).toNat
  have pb := pw_pos b.e
  have ea := pw_split (e := b.e) (f := a.e) (by omega) hk
  have hv : a.val + b.val = if a.neg then -((a.m * 2 ^ (a.e - b.e).toNat + b.m) * pw b.e) else (a.m * 2 ^ (a.e - b.e).toNat + b.m) * pw b.e := by
    unfold Num.val
    rw [← hs, ha.W, hb.W, ea]
    cases a.neg <;> simp <;> grind
  rw [hv]
  unfold plusP
  rw [plus_eq.1, plus_eq.2]
  generalize hN : a.m * 2 ^ (a.e - b.e).toNat + b.m = N at *
  have b1 : 2 ^ (a.e - b.e).toNat * 9223372036854775808 ≤ N := by
    have : 9223372036854775808 * 2 ^ (a.e - b.e).toNat ≤ a.m * 2 ^ (a.e - b.e).toNat := Int.mul_le_mul_of_nonneg_right (by omega) (Int.le_of_lt p)
    omega
  have b2 : N < 2 ^ (a.e - b.e).toNat * 36893488147419103232 := by
    have h1 : a.m * 2 ^ (a.e - b.e).toNat ≤ 18446744073709551615 * 2 ^ (a.e - b.e).toNat := Int.mul_le_mul_of_nonneg_right (by omega) (Int.le_of_lt p)
    omega
  generalize (2 : Int) ^ (a.e - b.e).toNat = K at *
  obtain ⟨q1, q2⟩ := cut_two (N := N * 18446744073709551616) (K := K) (D := 18446744073709551616) p (by decide)
  obtain ⟨q3, q4⟩ := cut_two (N := N * 18446744073709551616) (K := K) (D := 36893488147419103232) p (by decide)
  obtain ⟨r1, r2⟩ := same_div (N := N) (M := 18446744073709551616) (K := K) (D := 1) (by decide)
  obtain ⟨r3, r4⟩ := same_div (N := N) (M := 18446744073709551616) (K := K) (D := 2) (by decide)
  rw [show (18446744073709551616 : Int) * 1 = 18446744073709551616 by decide] at r1 r2
  rw [show (18446744073709551616 : Int) * 2 = 36893488147419103232 by decide] at r3 r4
  rw [q2, q4, q1, q3, r1, r2, r3, r4, Int.mul_one]
  split
  · rename_i h
    have h3 : N / K < 18446744073709551616 := by
      rw [← Int.mul_one K, ← r1, ← q1]
      exact Int.ediv_lt_of_lt_mul (by decide) (by omega)
    exact grow_div p pb (by rw [ea]; grind) (by decide) (div_bounds p b1 b2).1 h3 (by omega) (by omega)
  · rename_i h
    have h3 : 9223372036854775808 ≤ N / (K * 2) := by
      rw [← r3, ← q3]
      exact (Int.le_ediv_iff_mul_le (by decide)).2 (by omega)
    exact grow_div (by omega) pb (by rw [pw_succ (by omega), ea]; grind) (by decide) h3 (Int.ediv_lt_of_lt_mul (by omega) (by omega)) (by omega) (by omega)

theorem neg_div {x K : Int} (hK : 0 < K) : (-x) / K = -(x / K) - (if decide (x % K ≠ 0) = true then 1 else 0) ∧ decide ((-x) % K ≠ 0) = decide (x % K ≠ 0) := by
  have e1 := Int.mul_ediv_add_emod x K
  have e2 := Int.emod_nonneg x (show K ≠ 0 by omega)
  have e3 := Int.emod_lt_of_pos x hK
  have f1 := Int.mul_ediv_add_emod (-x) K
  have f2 := Int.emod_nonneg (-x) (show K ≠ 0 by omega)
  have f3 := Int.emod_lt_of_pos (-x) hK
  have g : K * (x / K + (-x) / K) = -(x % K + (-x) % K) := by rw [Int.mul_add]; omega
  generalize x / K = p at *
  generalize (-x) / K = q at *
  generalize x % K = r at *
  generalize (-x) % K = s at *
  have h1 : p + q ≤ 0 := by
    rcases Int.lt_or_le 0 (p + q) with h | h
    · have := Int.mul_le_mul_of_nonneg_left (c := K) (show 1 ≤ p + q by omega) (by omega)
      omega
    · exact h
  have h2 : -1 ≤ p + q := by
    rcases Int.lt_or_le (p + q) (-1) with h | h
    · have := Int.mul_le_mul_of_nonneg_left (c := K) (show p + q ≤ -2 by omega) (by omega)
      omega
    · exact h
  rcases (show p + q = 0 ∨ p + q = -1 by omega) with h | h
  · rw [h] at g
    simp only [Int.mul_zero] at g
    have hr : r = 0 := by omega
    have hs : s = 0 := by omega
    subst hr; subst hs
    exact ⟨by simp; omega, rfl⟩
  · rw [h] at g
    have hr : r ≠ 0 := by intro hr; omega
    have hs : s ≠ 0 := by intro hs; omega
    exact ⟨by simp [hr]; omega, by simp [hr, hs]⟩

theorem minus_eq {a b : Num} : minusZ a b = (a.m * 2 ^ (a.e - b.e).toNat - b.m) * 18446744073709551616 / 2 ^ (a.e - b.e).toNat ∧
    plusC a b = decide ((a.m * 2 ^ (a.e - b.e).toNat - b.m) * 18446744073709551616 % 2 ^ (a.e - b.e).toNat ≠ 0) := by
  have p := two_pos (a.e - b.e).toNat
  have e : (a.m * 2 ^ (a.e - b.e).toNat - b.m) * 18446744073709551616 = -(b.m * 18446744073709551616) + a.m * 18446744073709551616 * 2 ^ (a.e - b.e).toNat := by grind
  obtain ⟨n1, n2⟩ := neg_div (x := b.m * 18446744073709551616) p
  unfold minusZ plusC
  rw [e]
  constructor
  · rw [Int.add_mul_ediv_right _ _ (by omega), n1]
    omega
  · rw [Int.add_mul_emod_self_right, n2]

theorem minusP_best {a b : Num} (ha : a.Fin) (hb : b.Fin) (hk : b.e ≤ a.e) (hgt : b.e < a.e ∨ b.m < a.m) (hs : a.neg ≠ b.neg) (up : Bool) : Best (minusP a b up) up (a.val + b.val) 1 := by
  have := ha.lo; have := ha.hi; have := ha.elo; have := ha.ehi
  have := hb.lo; have := hb.hi; have := hb.elo; have := hb.ehi
  have p := two_pos (a.e - b.e).toNat
  have ea := pw_split (e := b.e) (f := a.e) (by omega) hk
  have hv : a.val + b.val = if a.neg then -((a.m * 2 ^ (a.e - b.e).toNat - b.m) * 18446744073709551616 * pw (b.e - 64)) else (a.m * 2 ^ (a.e - b.e).toNat - b.m) * 18446744073709551616 * pw (b.e - 64) := by
    have e64 := pw_64 (e := b.e - 64) (by omega)
    rw [show b.e - 64 + 64 = b.e by omega] at e64
    have : (a.m * 2 ^ (a.e - b.e).toNat - b.m) * 18446744073709551616 * pw (b.e - 64) = a.m * pw a.e - b.m * pw b.e := by rw [ea, e64]; grind
    rw [this]
    unfold Num.val
    rw [ha.W, hb.W]
    have hbn : b.neg = !a.neg := by cases h : a.neg <;> cases h2 : b.neg <;> simp_all
    rw [hbn]
    cases a.neg <;> simp <;> omega
  obtain ⟨z0, z1, _, _, _⟩ := minus_parts ha hb hk hgt rfl rfl rfl rfl rfl
  obtain ⟨n, k1, k2, k3⟩ := blen_pos z0
  have bl := blen_le 128 (x := minusZ a b) (by exact z1)
  have pb := pw_pos (b.e - 64)
  rw [hv]
  unfold minusP
  obtain ⟨hZ, hC⟩ := minus_eq (a := a) (b := b)
  have hKN : a.m * 2 ^ (a.e - b.e).toNat - b.m ≥ 9223372036854775808 * 2 ^ (a.e - b.e).toNat - 18446744073709551616 := by
    have : 9223372036854775808 * 2 ^ (a.e - b.e).toNat ≤ a.m * 2 ^ (a.e - b.e).toNat := Int.mul_le_mul_of_nonneg_right (by omega) (Int.le_of_lt p)
    omega
  rw [hC]
  generalize hN : (a.m * 2 ^ (a.e - b.e).toNat - b.m) * 18446744073709551616 = N at *
  generalize minusZ a b = Z at *
  have big1 : 170141183460469231731687303715884105728 ≤ Z * 2 ^ (128 - blen Z).toNat := by
    have g : (170141183460469231731687303715884105728 : Int) = 2 ^ n * 2 ^ (128 - blen Z).toNat := by
      rw [← Int.pow_add, show n + (128 - blen Z).toNat = 127 by omega]; rfl
    rw [g]
    exact Int.mul_le_mul_of_nonneg_right k2 (Int.le_of_lt (two_pos _))
  have big2 : Z * 2 ^ (128 - blen Z).toNat < 340282366920938463463374607431768211456 := by
    have g : (340282366920938463463374607431768211456 : Int) = 2 ^ (n + 1) * 2 ^ (128 - blen Z).toNat := by
      rw [← Int.pow_add, show n + 1 + (128 - blen Z).toNat = 128 by omega]; rfl
    rw [g]
    exact Int.mul_lt_mul_of_pos_right k3 (two_pos _)
  have m1 : 9223372036854775808 ≤ Z * 2 ^ (128 - blen Z).toNat / 18446744073709551616 := by omega
  have m2 : Z * 2 ^ (128 - blen Z).toNat / 18446744073709551616 < 18446744073709551616 := by omega
  generalize hS : 128 - blen Z = s at *
  have s0 : 0 ≤ s := by omega
  by_cases h64 : s ≤ 64
  · have e64 := two_64 (k := s) s0 h64
    have q := two_pos s.toNat
    have q' := two_pos (64 - s).toNat
    obtain ⟨r1, r2⟩ := same_div (N := Z) (M := 2 ^ s.toNat) (K := 1) (D := 2 ^ (64 - s).toNat) q
    rw [Int.one_mul, Int.one_mul, Int.mul_comm (2 ^ s.toNat) (2 ^ (64 - s).toNat), ← e64] at r1 r2
    rw [r1] at m1 m2 ⊢
    rw [r2]
    obtain ⟨c1, c2⟩ := cut_two (N := N) (K := 2 ^ (a.e - b.e).toNat) (D := 2 ^ (64 - s).toNat) p q'
    rw [hZ] at m1 m2 ⊢
    rw [c1] at m1 m2
    rw [c1, c2]
    refine grow_div (Int.mul_pos p q') pb ?_ (by decide) m1 m2 (by omega) (by omega)
    rw [Int.mul_one, pw_split (e := b.e - 64) (f := a.e - s) (by omega) (by omega)]
    congr 1
    rw [← Int.pow_add]
    congr 1
    omega
  · have hz64 : Z < 18446744073709551616 := by
      have : (2 : Int) ^ (n + 1) ≤ 2 ^ 64 := by
        have := Nat.pow_le_pow_right (n := 2) (by omega) (show n + 1 ≤ 64 by omega)
        have e1 : ((2 ^ (n + 1) : Nat) : Int) = (2 : Int) ^ (n + 1) := by push_cast; rfl
        rw [← e1]; exact Int.ofNat_le.2 this
      have e2 : (2 : Int) ^ 64 = 18446744073709551616 := by decide
      omega
    have hcf : N % 2 ^ (a.e - b.e).toNat = 0 := by
      by_cases hk64 : a.e - b.e ≤ 64
      · have e64 := two_64 (k := a.e - b.e) (by omega) hk64
        rw [← hN, e64, ← Int.mul_assoc, Int.mul_emod_left]
      · exfalso
        have hK : 36893488147419103232 ≤ (2 : Int) ^ (a.e - b.e).toNat := by
          have := Nat.pow_le_pow_right (n := 2) (by omega) (show 65 ≤ (a.e - b.e).toNat by omega)
          have e1 : ((2 ^ (a.e - b.e).toNat : Nat) : Int) = (2 : Int) ^ (a.e - b.e).toNat := by push_cast; rfl
          rw [← e1]; exact Int.ofNat_le.2 this
        have : 18446744073709551616 ≤ N / 2 ^ (a.e - b.e).toNat := by
          refine (Int.le_ediv_iff_mul_le p).2 ?_
          rw [← hN]
          generalize (2 : Int) ^ (a.e - b.e).toNat = K at *
          generalize a.m * K - b.m = M at *
          omega
        omega
    have e1 : Z * 2 ^ s.toNat = Z * 2 ^ (s - 64).toNat * 18446744073709551616 := by
      rw [Int.mul_assoc]
      congr 1
      rw [show (18446744073709551616 : Int) = 2 ^ 64 by decide, ← Int.pow_add]
      congr 1
      omega
    have e2 : Z * 2 ^ s.toNat % 18446744073709551616 = 0 := by rw [e1]; exact Int.mul_emod_left _ _
    have e3 : Z * 2 ^ s.toNat / 18446744073709551616 = Z * 2 ^ (s - 64).toNat := by rw [e1]; exact Int.mul_ediv_cancel _ (by decide)
    rw [hcf, e2]
    refine grow_best (cut := _) m1 m2 (by omega) (by omega) (by decide) ?_
    simp only [ne_eq, not_true_eq_false, decide_false, Bool.or_self, Bool.false_eq_true, if_false]
    rw [e3, Int.mul_one]
    have e4 : N = Z * 2 ^ (a.e - b.e).toNat := by
      have := Int.mul_ediv_add_emod N (2 ^ (a.e - b.e).toNat)
      rw [← hZ, hcf] at this
      rw [Int.mul_comm Z]
      omega
    have e5 := pw_split (e := b.e - 64) (f := a.e - 64) (by omega) (by omega)
    rw [show a.e - 64 - (b.e - 64) = a.e - b.e by omega] at e5
    have e6 := pw_split (e := a.e - s) (f := a.e - 64) (by omega) (by omega)
    rw [show a.e - 64 - (a.e - s) = s - 64 by omega] at e6
    rw [e4, Int.mul_assoc, ← e5, e6, Int.mul_assoc]

/-! ### the operations on any numbers -/
theorem Best.self {r : Num} {up : Bool} (m : r.may = true) (o : r.ok) (k : r.kind ≠ 2) {t c : Int} (hc : 0 < c) (ht : r.val * c = t) : Best r up t c := by
  have n : ∀ b, r ≠ Num.inf b := fun b g => k (by rw [g]; rfl)
  refine ⟨m, o, fun _ => ⟨n _, .inr (by omega)⟩, fun _ x _ _ _ hx => ?_, fun _ x _ _ _ hx => ?_, fun _ => ⟨n _, .inr (by omega)⟩⟩
  · exact Int.le_of_mul_le_mul_right (a := c) (by omega) hc
  · exact Int.le_of_mul_le_mul_right (a := c) (by omega) hc

theorem Num.fair_fin {a : Num} (oa : a.ok) (k0 : a.fair.kind ≠ 0) (k2 : a.fair.kind ≠ 2) : a.fair.Fin := by
  rcases Num.may3 a.fair_may (Num.fair_ok oa) with h | h | h
  · rw [h] at k0; simp [Num.zero] at k0
  · exact h
  · rw [h] at k2; simp [Num.inf] at k2
theorem Num.fair_zero {a : Num} (oa : a.ok) (k0 : a.fair.kind = 0) : a.fair = Num.zero := by
  rcases Num.may3 a.fair_may (Num.fair_ok oa) with h | h | h
  · exact h
  · have := h.kind; omega
  · rw [h] at k0; simp [Num.inf] at k0

theorem mul_best {a b : Num} (oa : a.ok) (ob : b.ok) (ka : a.fair.kind ≠ 2) (kb : b.fair.kind ≠ 2) (up : Bool) : Best (Num.mul a b up) up (a.fair.val * b.fair.val) (pw 0) := by
  unfold Num.mul
  by_cases h : a.fair.kind = 0 ∨ b.fair.kind = 0
  · rw [if_pos h]
    refine Best.self Num.zero_may Num.zero_ok (by decide) (pw_pos 0) ?_
    rw [Num.val_zero]
    rcases h with h | h
    · rw [Num.fair_zero oa h, Num.val_zero]; simp
    · rw [Num.fair_zero ob h, Num.val_zero]; simp
  · rw [if_neg h, if_neg (by omega)]
    exact mulF_best (Num.fair_fin oa (by omega) ka) (Num.fair_fin ob (by omega) kb) up

theorem addS_best {a b : Num} (ha : a.Fin) (hb : b.Fin) (hk : b.e < a.e ∨ (b.e = a.e ∧ b.m ≤ a.m)) (up : Bool) : Best (Num.addS a b up) up (a.val + b.val) 1 := by
  unfold Num.addS
  split
  · exact plusP_best ha hb (by omega) ‹_› up
  · rename_i hn
    split
    · rename_i h
      refine Best.self Num.zero_may Num.zero_ok (by decide) (by decide) ?_
      rw [Num.val_zero]
      unfold Num.val
      rw [ha.W, hb.W, h.1, h.2]
      have hbn : b.neg = !a.neg := by cases h : a.neg <;> cases h2 : b.neg <;> simp_all
      rw [hbn]
      cases a.neg <;> simp <;> omega
    · exact minusP_best ha hb (by omega) (by omega) hn up

theorem add_best {a b : Num} (oa : a.ok) (ob : b.ok) (ka : a.fair.kind ≠ 2) (kb : b.fair.kind ≠ 2) (up : Bool) : Best (Num.add a b up) up (a.fair.val + b.fair.val) 1 := by
  unfold Num.add
  rw [if_neg (by omega)]
  split
  · rename_i h
    have h : b.fair.kind = 0 := by omega
    exact Best.self a.fair_may (Num.fair_ok oa) ka (by decide) (by rw [Num.fair_zero ob h, Num.val_zero]; omega)
  · split
    · rename_i h
      have h : a.fair.kind = 0 := by omega
      exact Best.self b.fair_may (Num.fair_ok ob) kb (by decide) (by rw [Num.fair_zero oa h, Num.val_zero]; omega)
    · have FA := Num.fair_fin oa (by omega) ka
      have FB := Num.fair_fin ob (by omega) kb
      unfold Num.addF
      split
      · rw [Int.add_comm]; exact addS_best FB FA (by omega) up
      · exact addS_best FA FB (by omega) up

end Go.Proofs.YtpadpcjdakfokaaGreatDoor.Ev

/- The reference's rounding is the best; its products and quotients are the program's: plain Lean. -/
namespace Go.Proofs.YtpadpcjdakfokaaGreatDoor.Ev
open Go

/-- an odd number times a power of two, as a value -/
def dyv (p : Bool × Nat × Int) : Int := if p.1 then -((p.2.1 : Int) * pw p.2.2) else (p.2.1 : Int) * pw p.2.2
theorem bound_grow {neg away : Bool} {m e : Int} : Num.bound neg m e away = Num.grow neg m e false away := by
  unfold Num.grow; rw [if_neg (by simp)]

theorem Best.scale {r : Num} {up : Bool} {t c : Int} (h : Best r up t 1) (hc : 0 < c) : Best r up (t * c) c := by
  refine ⟨h.may, h.ok, fun u => ⟨(h.down u).1, ?_⟩, fun u s ms os ks hs => ?_, fun u s ms os ks hs => ?_, fun u => ⟨(h.hi u).1, ?_⟩⟩
  · rcases (h.down u).2 with k | k
    · exact .inl k
    · exact .inr (Int.mul_le_mul_of_nonneg_right (by omega) (Int.le_of_lt hc))
  · exact h.dopt u s ms os ks (by have := Int.le_of_mul_le_mul_right hs hc; omega)
  · exact h.uopt u s ms os ks (by have := Int.le_of_mul_le_mul_right hs hc; omega)
  · rcases (h.hi u).2 with k | k
    · exact .inl k
    · exact .inr (Int.mul_le_mul_of_nonneg_right (by omega) (Int.le_of_lt hc))

/-- rounded: odd numbers -/
theorem rnd_best {ng : Bool} {k : Nat} {e : Int} (up : Bool) (hk : k % 2 = 1) (he : -4190000 ≤ e) (he' : e + blen (k : Int) ≤ 4194000) :
    Best (rnd ng k e up) up (dyv (ng, k, e)) 1 := by
  have k0 : 0 < k := by omega
  obtain ⟨n, h1, h2, h3⟩ := blen_rng k0
  unfold rnd
  rw [if_neg (by omega)]
  show Best _ up (if ng = true then -((k : Int) * pw e) else (k : Int) * pw e) 1
  split
  · rename_i b
    have f := rnd_few k0 b
    rw [bound_grow]
    obtain ⟨s, hs⟩ : ∃ s : Nat, (64 - blen (k : Int)).toNat = s := ⟨_, rfl⟩
    have es : blen (k : Int) = 64 - (s : Int) := by omega
    have hsn : s + n = 63 := by omega
    rw [hs] at f ⊢
    rw [es]
    have lo : 9223372036854775808 ≤ k * 2 ^ s := by
      have : 2 ^ n * 2 ^ s ≤ k * 2 ^ s := Nat.mul_le_mul_right _ h2
      rw [← Nat.pow_add, show n + s = 63 by omega] at this
      have : (2 : Nat) ^ 63 = 9223372036854775808 := by decide
      omega
    refine grow_best (by omega) (by omega) (by omega) (by omega) (by decide) ?_
    rw [if_neg (by decide)]
    have e1 := pw_add (e := e + (64 - (s : Int)) - 64) (f := s) (by omega) (by omega)
    rw [show e + (64 - (s : Int)) - 64 + s = e by omega, Int.toNat_natCast] at e1
    rw [e1]
    push_cast
    grind
  · rename_i b
    have f := rnd_many k0 (by omega)
    obtain ⟨s, hs⟩ : ∃ s : Nat, (blen (k : Int) - 64).toNat = s := ⟨_, rfl⟩
    have es : blen (k : Int) = 64 + (s : Int) := by omega
    rw [hs] at f ⊢
    rw [es]
    refine grow_best (by omega) (by omega) (by omega) (by omega) (by decide) ?_
    rw [if_pos rfl]
    have e1 := pw_add (e := e) (f := s) (by omega) (by omega)
    rw [Int.toNat_natCast] at e1
    rw [show e + (64 + (s : Int)) - 64 = e + s by omega, e1]
    have p := pw_pos e
    have p2 : 0 < 2 ^ s := Nat.pow_pos (by decide)
    have ev : 2 ^ s % 2 = 0 := by
      have : s = (s - 1) + 1 := by omega
      rw [this, Nat.pow_succ]; omega
    have dm := Nat.div_add_mod k (2 ^ s)
    have dl := Nat.mod_lt k p2
    have nz : k % 2 ^ s ≠ 0 := by
      intro z
      rw [z] at dm
      have : k % 2 = 0 := by rw [← dm, Nat.add_zero, Nat.mul_mod, ev]; simp
      omega
    have c2 : ((2 ^ s : Nat) : Int) = (2 : Int) ^ s := by push_cast; rfl
    have a1 : (((k / 2 ^ s : Nat)) : Int) * (pw e * 2 ^ s) * 1 = ((2 ^ s * (k / 2 ^ s) : Nat) : Int) * pw e := by push_cast; grind
    have a2 : (((k / 2 ^ s : Nat) : Int) + 1) * (pw e * 2 ^ s) * 1 = ((2 ^ s * (k / 2 ^ s) + 2 ^ s : Nat) : Int) * pw e := by push_cast; grind
    rw [a1, a2]
    constructor
    · exact Int.mul_lt_mul_of_pos_right (by omega) p
    · exact Int.mul_lt_mul_of_pos_right (by omega) p

theorem dyMake_odd {ng : Bool} {k : Nat} {e : Int} (hk : k % 2 = 1) (he : -4194304 ≤ e) (he' : e ≤ 4194304) : dyMake ng k e = (ng, k, e) := by
  unfold dyMake
  have v : v2 k = 0 := v2_odd (by omega)
  rw [if_neg (by omega), if_neg (by omega), v]
  simp
theorem dyMake_zero (ng : Bool) (e : Int) : dyMake ng 0 e = (false, 0, 0) := by unfold dyMake; rw [if_pos (.inl rfl)]
theorem v2_blen {k : Nat} (h : 0 < k) : (v2 k : Int) < blen (k : Int) := by
  obtain ⟨n, h1, h2, h3⟩ := blen_rng h
  have := v2_lt h h3
  omega
/-- made: the same value, odd -/
theorem dyMake_val {ng : Bool} {k : Nat} {e : Int} (h : 0 < k) (he : -4194304 ≤ e) (he' : e + v2 k ≤ 4194304) :
    (dyMake ng k e).2.1 % 2 = 1 ∧ (dyMake ng k e).1 = ng ∧ (dyMake ng k e).2.2 = e + v2 k ∧ (dyMake ng k e).2.1 * 2 ^ v2 k = k ∧ ((dyMake ng k e).2.1 : Int) * pw (dyMake ng k e).2.2 = k * pw e ∧
      blen ((dyMake ng k e).2.1 : Int) + v2 k = blen (k : Int) := by
  have s := v2_spec k h
  have E : dyMake ng k e = (ng, k / 2 ^ v2 k, e + v2 k) := by
    unfold dyMake
    rw [if_neg (by omega), if_neg (by omega)]
  rw [E]
  refine ⟨s.2.1, rfl, rfl, s.1, ?_, ?_⟩
  · show ((k / 2 ^ v2 k : Nat) : Int) * pw (e + v2 k) = k * pw e
    have e1 := pw_add (e := e) (f := v2 k) (by omega) (by omega)
    rw [Int.toNat_natCast] at e1
    rw [e1]
    have c := congrArg (fun n : Nat => (n : Int)) s.1
    push_cast at c ⊢
    have : (k : Int) / 2 ^ v2 k * (pw e * 2 ^ v2 k) = (k : Int) / 2 ^ v2 k * 2 ^ v2 k * pw e := by grind
    rw [this, c]
  · show blen ((k / 2 ^ v2 k : Nat) : Int) + v2 k = blen (k : Int)
    have c : (2 : Int) ^ v2 k ≤ (k : Int) := by have := s.2.2; exact_mod_cast this
    have := blen_div (x := (k : Int)) (v2 k) c
    have e2 : ((k / 2 ^ v2 k : Nat) : Int) = (k : Int) / 2 ^ v2 k := by push_cast; rfl
    rw [e2]
    omega

/-- an exact finite number -/
theorem exact_fin {n : Num} (h : n.Fin) : n.exact.2 = true ∧ n.exact.1.1 = n.neg ∧ n.exact.1.2.1 % 2 = 1 ∧ -1048576 ≤ n.exact.1.2.2 ∧ n.exact.1.2.2 ≤ 1048640 ∧ (n.exact.1.2.1 : Int) * pw n.exact.1.2.2 = n.W ∧
    n.exact.1.2.1 < 18446744073709551616 ∧ n.e ≤ n.exact.1.2.2 := by
  have lo := h.lo
  have hi := h.hi
  have elo := h.elo
  have ehi := h.ehi
  have hk := h.kind
  have v := v2_lt (n := n.m.toNat) (k := 64) (by omega) (by show n.m.toNat < 18446744073709551616; omega)
  have d := dyMake_val (ng := n.neg) (k := n.m.toNat) (e := n.e) (by omega) (by omega) (by omega)
  have r := dyMake_rng n.neg n.m.toNat n.e
  unfold Num.exact
  rw [if_neg (by rw [h.may, hk]; decide), if_neg (by rw [hk]; decide)]
  refine ⟨rfl, d.2.1, d.1, ?_, ?_, ?_, ?_, ?_⟩
  · show -1048576 ≤ (dyMake n.neg n.m.toNat n.e).2.2; omega
  · show (dyMake n.neg n.m.toNat n.e).2.2 ≤ 1048640; omega
  · show ((dyMake n.neg n.m.toNat n.e).2.1 : Int) * pw (dyMake n.neg n.m.toNat n.e).2.2 = _
    rw [d.2.2.2.2.1, h.W, show ((n.m.toNat : Nat) : Int) = n.m by omega]
  · show (dyMake n.neg n.m.toNat n.e).2.1 < _; omega
  · show n.e ≤ (dyMake n.neg n.m.toNat n.e).2.2; omega
theorem dyNorm_odd {p : Bool × Nat × Int} (hk : p.2.1 % 2 = 1) (he : -4194304 ≤ p.2.2) (he' : p.2.2 ≤ 4194304) : dyNorm p = p := dyMake_odd hk he he'
end Go.Proofs.YtpadpcjdakfokaaGreatDoor.Ev

/- The reference's quotients are the program's: plain Lean. -/
namespace Go.Proofs.YtpadpcjdakfokaaGreatDoor.Ev
open Go

/-- rounded with a bit that is there alone to be cut off -/
theorem rnd_cut {ng : Bool} {k : Nat} {e : Int} (up : Bool) (hk : k % 2 = 1) (hb : 64 < blen (k : Int)) :
    ∃ s : Nat, 1 ≤ s ∧ blen (k : Int) = 64 + s ∧ rnd ng k e up = Num.grow ng ((k / 2 ^ s : Nat) : Int) (e + s) true (up != ng) ∧ 9223372036854775808 ≤ k / 2 ^ s ∧ k / 2 ^ s < 18446744073709551616 ∧
      2 ^ s * (k / 2 ^ s) + 1 ≤ k ∧ k + 1 ≤ 2 ^ s * (k / 2 ^ s) + 2 ^ s := by
  have k0 : 0 < k := by omega
  have f := rnd_many k0 hb
  obtain ⟨s, hs⟩ : ∃ s : Nat, (blen (k : Int) - 64).toNat = s := ⟨_, rfl⟩
  have es : blen (k : Int) = 64 + (s : Int) := by omega
  rw [hs] at f
  have p2 : 0 < 2 ^ s := Nat.pow_pos (by decide)
  have ev : 2 ^ s % 2 = 0 := by
    have : s = (s - 1) + 1 := by omega
    rw [this, Nat.pow_succ]; omega
  have dm := Nat.div_add_mod k (2 ^ s)
  have dl := Nat.mod_lt k p2
  have nz : k % 2 ^ s ≠ 0 := by
    intro z
    rw [z] at dm
    have : k % 2 = 0 := by rw [← dm, Nat.add_zero, Nat.mul_mod, ev]; simp
    omega
  refine ⟨s, by omega, es, ?_, f.1, f.2, by omega, by omega⟩
  unfold rnd
  rw [if_neg (by omega), if_neg (by omega), hs, show e + blen (k : Int) - 64 = e + s by omega]

/-- a quotient's bits, and whether something was cut off -/
def ratioM (ka kb : Nat) : Nat := 2 * (ka * 2 ^ (70 + blen (kb : Int)).toNat / kb) + (if ka * 2 ^ (70 + blen (kb : Int)).toNat % kb = 0 then 0 else 1)
def ratioP (na : Bool) (ka : Nat) (nb : Bool) (kb : Nat) (e : Int) (up : Bool) : Num :=
  if kb = 0 then Num.inf (!up) else dyRound (dyMake ((na != nb) && decide (ratioM ka kb ≠ 0)) (ratioM ka kb) (e - (70 + blen (kb : Int)) - 1)) up

/-- The quotient of whole numbers, times a power of two: t / c, the scales told. -/
theorem ratio_best {na nb : Bool} {ka kb : Nat} {e : Int} (up : Bool) (hka : 0 < ka) (hkb : 0 < kb) (la : blen (ka : Int) ≤ 300000) (lb : blen (kb : Int) ≤ 300000) (he : -2500000 ≤ e) (he' : e ≤ 2500000)
    {T c : Int} (hc : 0 < c) (hT : T * kb = ka * pw e * c) : Best (ratioP na ka nb kb e up) up (if (na != nb) then -T else T) c := by
  obtain ⟨B, hB⟩ : ∃ B : Nat, (70 + blen (kb : Int)).toNat = B := ⟨_, rfl⟩
  have b0 := blen_nonneg (kb : Int)
  have eB : 70 + blen (kb : Int) = B := by omega
  obtain ⟨nb', h1, h2, h3⟩ := blen_rng hkb
  obtain ⟨na', g1, g2, g3⟩ := blen_rng hka
  obtain ⟨N, hN⟩ : ∃ N, ka * 2 ^ B = N := ⟨_, rfl⟩
  have dm := Nat.div_add_mod N kb
  have dl := Nat.mod_lt N hkb
  obtain ⟨q, hq⟩ : ∃ q, N / kb = q := ⟨_, rfl⟩
  obtain ⟨r, hr⟩ : ∃ r, N % kb = r := ⟨_, rfl⟩
  have hM : ratioM ka kb = 2 * q + (if r = 0 then 0 else 1) := by unfold ratioM; rw [hB, hN, hq, hr]
  rw [hq, hr] at dm
  rw [hr] at dl
  have qlo : 2 ^ 69 ≤ q := by
    rw [← hq, Nat.le_div_iff_mul_le hkb, ← hN]
    have a1 : 2 ^ 69 * kb ≤ 2 ^ 69 * 2 ^ (nb' + 1) := Nat.mul_le_mul_left _ (Nat.le_of_lt h3)
    rw [← Nat.pow_add] at a1
    have a2 : 2 ^ (69 + (nb' + 1)) ≤ 2 ^ B := Nat.pow_le_pow_right (by decide) (by omega)
    have a3 : 1 * 2 ^ B ≤ ka * 2 ^ B := Nat.mul_le_mul_right _ hka
    omega
  have qhi : q < 2 ^ (na' + 1 + B) := by
    rw [← hq]
    refine Nat.lt_of_le_of_lt (Nat.div_le_self _ _) ?_
    rw [← hN, Nat.pow_add]
    exact Nat.mul_lt_mul_of_pos_right g3 (Nat.pow_pos (by decide))
  obtain ⟨E, hE⟩ : ∃ E : Int, e - (70 + blen (kb : Int)) - 1 = E := ⟨_, rfl⟩
  have pE := pw_pos E
  have e1 := pw_add (e := E) (f := B + 1) (by omega) (by omega)
  rw [show E + ((B : Int) + 1) = e by omega, show ((B : Int) + 1).toNat = B + 1 by omega] at e1
  have TN : T * kb = ((2 * N : Nat) : Int) * (pw E * c) := by
    rw [hT, e1, ← hN, Int.pow_succ]; push_cast; grind
  have kc : (0 : Int) < kb := by omega
  have pc : 0 < pw E * c := Int.mul_pos pE hc
  unfold ratioP
  rw [if_neg (by omega), hM, hE]
  have m0 : 2 * q + (if r = 0 then 0 else 1) ≠ 0 := by split <;> omega
  rw [decide_eq_true m0, Bool.and_true]
  obtain ⟨ng, hng⟩ : ∃ ng, (na != nb) = ng := ⟨_, rfl⟩
  rw [hng]
  have blq : blen ((2 * q + (if r = 0 then 0 else 1) : Nat) : Int) ≤ na' + 1 + B + 1 := by
    have hx : ((2 * q + (if r = 0 then 0 else 1) : Nat) : Int) < 2 ^ (na' + 1 + B + 1) := by
      have a : 2 * q + (if r = 0 then 0 else 1) < 2 ^ (na' + 1 + B + 1) := by rw [Nat.pow_succ]; split <;> omega
      exact_mod_cast a
    have := blen_le _ hx
    omega
  by_cases hr0 : r = 0
  · rw [if_pos hr0] at blq ⊢
    have v := v2_blen (k := 2 * q + 0) (by omega)
    have d := dyMake_val (ng := ng) (k := 2 * q + 0) (e := E) (by omega) (by omega) (by omega)
    obtain ⟨d1, d2, d3, d4, d5, d6⟩ := d
    generalize dyMake ng (2 * q + 0) E = P at *
    unfold dyRound
    rw [dyNorm_odd d1 (by omega) (by omega)]
    have bb := blen_nonneg (P.2.1 : Int)
    have R := rnd_best (ng := P.1) up d1 (by omega : -4190000 ≤ P.2.2) (by omega)
    have eT : T = ((2 * q + 0 : Nat) : Int) * pw E * c := by
      have f1 : T * kb = ((2 * q + 0 : Nat) : Int) * pw E * c * kb := by
        rw [TN, show 2 * N = (2 * q + 0) * kb by rw [← dm, hr0]; grind]
        push_cast; grind
      exact Int.eq_of_mul_eq_mul_right (by omega) f1
    have eV : dyv P = if ng = true then -(((2 * q + 0 : Nat) : Int) * pw E) else ((2 * q + 0 : Nat) : Int) * pw E := by
      unfold dyv; rw [d2, d5]
    have key : (if ng = true then -T else T) = dyv P * c := by
      rw [eV, eT]; split
      · rw [Int.neg_mul]
      · rfl
    rw [key]
    exact R.scale hc
  · rw [if_neg hr0] at blq ⊢
    have od : (2 * q + 1) % 2 = 1 := by omega
    have bl : 64 < blen ((2 * q + 1 : Nat) : Int) := by
      obtain ⟨n, k1, k2, k3⟩ := blen_rng (k := 2 * q + 1) (by omega)
      rcases Nat.lt_or_ge 64 (n + 1) with z | z
      · omega
      · exfalso
        have : 2 ^ (n + 1) ≤ 2 ^ 69 := Nat.pow_le_pow_right (by decide) (by omega)
        omega
    rw [dyMake_odd od (by omega) (by omega)]
    unfold dyRound
    rw [dyNorm_odd (p := (ng, 2 * q + 1, E)) od (by show _ ≤ E; omega) (by show E ≤ _; omega)]
    show Best (rnd ng (2 * q + 1) E up) up _ c
    obtain ⟨s, s1, s2, s3, s4, s5, s6, s7⟩ := rnd_cut (ng := ng) (e := E) up od bl
    rw [s3]
    refine grow_best (by omega) (by omega) (by omega) (by omega) hc ?_
    rw [if_pos rfl]
    have e2 := pw_add (e := E) (f := s) (by omega) (by omega)
    rw [Int.toNat_natCast] at e2
    rw [e2]
    obtain ⟨m, hm⟩ : ∃ m, (2 * q + 1) / 2 ^ s = m := ⟨_, rfl⟩
    rw [hm] at s6 s7 ⊢
    have a1 : (m : Int) * (pw E * 2 ^ s) * c * kb = ((2 ^ s * m * kb : Nat) : Int) * (pw E * c) := by push_cast; grind
    have a2 : ((m : Int) + 1) * (pw E * 2 ^ s) * c * kb = (((2 ^ s * m + 2 ^ s) * kb : Nat) : Int) * (pw E * c) := by push_cast; grind
    have l1 : 2 ^ s * m * kb < 2 * N := by
      have : 2 ^ s * m * kb ≤ (2 * q) * kb := Nat.mul_le_mul_right _ (by omega)
      have : 2 * q * kb = 2 * (kb * q) := by grind
      omega
    have l2 : 2 * N < (2 ^ s * m + 2 ^ s) * kb := by
      have : (2 * q + 2) * kb ≤ (2 ^ s * m + 2 ^ s) * kb := Nat.mul_le_mul_right _ (by omega)
      have : (2 * q + 2) * kb = 2 * (kb * q) + 2 * kb := by grind
      omega
    constructor
    · refine Int.lt_of_mul_lt_mul_right (a := (kb : Int)) ?_ (Int.le_of_lt kc)
      rw [a1, TN]
      exact Int.mul_lt_mul_of_pos_right (by exact_mod_cast l1) pc
    · refine Int.lt_of_mul_lt_mul_right (a := (kb : Int)) ?_ (Int.le_of_lt kc)
      rw [a2, TN]
      exact Int.mul_lt_mul_of_pos_right (by exact_mod_cast l2) pc

end Go.Proofs.YtpadpcjdakfokaaGreatDoor.Ev

/- Contracts of the reference: the ratio of two whole numbers. Printed by gen.py. -/
namespace Go.Proofs.YtpadpcjdakfokaaGreatDoor.Ev
open Go Go.Proofs
set_option linter.unusedVariables false
set_option linter.unusedSimpArgs false

attribute [local irreducible] Lb
theorem c_r7sticky (m : List Int) (cut : Bool) (h : Lb m) (hl : m.length ≤ 100000) : ∃ t : List Int, t = lim (2 * lv m + (if cut = true then 1 else 0)) ∧ CallsA Tryz.prog 208 [.sli .u32 m, .bool (.s cut)] (.sli .u32 t) := by
  refine ⟨_, rfl, ?_⟩
  generalize hr : lim (2 * lv m + (if cut = true then 1 else 0)) = r
  have r1 : cut = true → lim (2 * lv m + 1) = r := by intro z; rw [← hr, if_pos z]
  have r0 : cut = false → lim (2 * lv m) = r := by intro z; rw [← hr, z]; rfl
  have l1 : Lb [(1 : Int)] := Lb.cons (by decide) (by decide) Lb.nil
  have sh : ∀ s, s = (if (1 : Int) < 1 then lim (lv m) else if 16777216 < (1 : Int) then [] else lim (lv m * 2 ^ (1 : Int).toNat)) → s = lim (2 * lv m) ∧ Lb s ∧ s.length < 268435456 := by
    intro s hs
    rw [if_neg (by decide), if_neg (by decide), show (2 : Nat) ^ (1 : Int).toNat = 2 from rfl, Nat.mul_comm] at hs
    refine ⟨hs, by rw [hs]; exact lim_lb _, ?_⟩
    have l := lv_lt h
    have : (lim (2 * lv m)).length ≤ m.length + 1 := lim_length_le (by rw [Nat.pow_succ]; omega)
    rw [hs]; omega
  refine callsA_of hG hm Tryz.func208 (by kernel_rfl) ?_
  intro E hE lp hl'
  cbv
  (apply E_callX hE (c_rShl _ 1 h ?_); (case hf => rfl); (case hc => (cbv <;> trivial)); (case hle => exact u_up); all_goals (first | (intro s hs; cbv) | (exact Nat.lt_of_le_of_lt hl (by decide))))
  have S := sh s hs
  have es : E.sub [1] 0 1 = [1] := by subst hE; rfl
  refine E_br hE (fun g => ?_) (fun g => ?_) <;> cbv
  · (apply E_callX hE (c_rAdd _ _ S.2.1 ?_ S.2.2 ?_); (case hf => rfl); (case hc => (cbv <;> trivial)); (case hle => exact u_up); all_goals (first | (intro u hu; cbv) | (first | (show Lb (E.sub [1] 0 1); rw [es]; exact l1) | (show (E.sub [1] 0 1).length < 268435456; rw [es]; show (1 : Nat) < 268435456; decide))))
    have k : u = lim (lv s + lv (E.sub [1] 0 1)) := hu
    rw [es, S.1, lv_lim] at k
    rw [k]; exact r1 g
  · rw [S.1]; exact r0 g

/-! ### the ratio, step by step -/
theorem ratio_by {b : List Int} {n by_ : Int} (hb : Lb b) (hlb : b.length ≤ 1000) (hn : n = blen (lv b : Int)) (h : by_ = IntKind.i64.wrap (70 + n)) : by_ = 70 + blen (lv b : Int) ∧ 70 ≤ by_ ∧ by_ ≤ 33000 := by
  have bb := lv_blen hb
  have b0 := blen_nonneg (lv b : Int)
  rw [h, hn, wi64]
  omega
theorem ratio_len {a : List Int} {y X : Nat} (ha : Lb a) (hla : a.length ≤ 1000) (hy : y ≤ 33000) (hX : X ≤ lv a * 2 ^ y) : (lim X).length ≤ 3000 := by
  have l := lv_lt ha
  have p : (2 : Nat) ^ y ≤ 2 ^ (32 * (y / 32 + 1)) := Nat.pow_le_pow_right (by decide) (by omega)
  rw [Nat.pow_mul] at p
  have lt : X < 4294967296 ^ (a.length + (y / 32 + 1)) := by
    rw [Nat.pow_add]
    exact Nat.lt_of_le_of_lt hX (Nat.mul_lt_mul_of_lt_of_le l p (Nat.pow_pos (by decide)))
  have := lim_length_le lt
  omega
theorem ratio_shl {a s : List Int} {y : Int} (ha : Lb a) (hla : a.length ≤ 1000) (hy : 70 ≤ y ∧ y ≤ 33000) (hs : s = if y < 1 then lim (lv a) else if 16777216 < y then [] else lim (lv a * 2 ^ y.toNat)) :
    Lb s ∧ s.length < 67108864 ∧ lv s = lv a * 2 ^ y.toNat := by
  rw [if_neg (by omega), if_neg (by omega)] at hs
  rw [hs]
  exact ⟨lim_lb _, Nat.lt_of_le_of_lt (ratio_len ha hla (by omega) (Nat.le_refl _)) (by decide), lv_lim _⟩
theorem ratio_div {a b s : List Int} {y : Int} {d : List Int × List Int × Bool} (ha : Lb a) (hla : a.length ≤ 1000) (hy : 70 ≤ y ∧ y ≤ 33000) (hs : lv s = lv a * 2 ^ y.toNat) (z : lv b ≠ 0)
    (hd : d = if lv b = 0 then ([], [], false) else (lim (lv s / lv b), lim (lv s % lv b), true)) : Lb d.1 ∧ d.1.length ≤ 3000 ∧ lv d.1 = lv s / lv b ∧ (d.2.1.length = 0 ↔ lv s % lv b = 0) := by
  rw [if_neg z] at hd
  rw [hd]
  refine ⟨lim_lb _, ratio_len ha hla (by omega : y.toNat ≤ 33000) (by rw [hs]; exact Nat.div_le_self _ _), lv_lim _, ?_⟩
  show (lim (lv s % lv b)).length = 0 ↔ _
  exact ⟨fun q => lim_eq_nil.1 (List.length_eq_zero_iff.1 q), fun q => by rw [q]; rfl⟩
theorem ratio_M {a b s m : List Int} {y : Int} {d : List Int × List Int × Bool} {c : Bool} (ha : Lb a) (hla : a.length ≤ 1000) (hy : 70 ≤ y ∧ y ≤ 33000) (hb : y = 70 + blen (lv b : Int)) (hs : lv s = lv a * 2 ^ y.toNat)
    (D : Lb d.1 ∧ d.1.length ≤ 3000 ∧ lv d.1 = lv s / lv b ∧ (d.2.1.length = 0 ↔ lv s % lv b = 0)) (hc : c = decide ((0 : Int) < (d.2.1.length : Int))) (hm' : m = lim (2 * lv d.1 + (if c = true then 1 else 0))) :
    Lb m ∧ m.length ≤ 3001 ∧ lv m = ratioM (lv a) (lv b) := by
  have e : lv m = ratioM (lv a) (lv b) := by
    rw [hm', lv_lim, D.2.2.1, hc, hs]
    unfold ratioM
    rw [← hb]
    rw [hs] at D
    by_cases z : lv a * 2 ^ y.toNat % lv b = 0
    · rw [if_pos z, decide_eq_false (by have := D.2.2.2.2 z; omega)]; rfl
    · rw [if_neg z, decide_eq_true (by have : d.2.1.length ≠ 0 := fun q => z (D.2.2.2.1 q)
                                       omega), if_pos rfl]
  refine ⟨by rw [hm']; exact lim_lb _, ?_, e⟩
  have k := D.2.1
  have l := lv_lt D.1
  rw [hm']
  obtain ⟨n, hn⟩ : ∃ n, n = 3000 := ⟨_, rfl⟩
  rw [← hn] at k
  have p : (4294967296 : Nat) ^ d.1.length ≤ 4294967296 ^ n := Nat.pow_le_pow_right (by decide) k
  have : 2 * lv d.1 + (if c = true then 1 else 0) < 4294967296 ^ (n + 1) := by
    rw [Nat.pow_succ]
    generalize (4294967296 : Nat) ^ n = q at p ⊢
    split <;> omega
  have := lim_length_le this
  omega
theorem ratio_P {na nb : Bool} {a b m : List Int} {e f y : Int} {up : Bool} {w : Bool × List Int} (hb : y = 70 + blen (lv b : Int)) (hy : 70 ≤ y ∧ y ≤ 33000) (he : -8000000 ≤ e ∧ e ≤ 8000000) (z : lv b ≠ 0)
    (M : Lb m ∧ m.length ≤ 3001 ∧ lv m = ratioM (lv a) (lv b)) (hw : w = ((na != nb) && decide (lv m ≠ 0), lim (lv m))) (hf : f = IntKind.i64.wrap (IntKind.i64.wrap (e - y) - 1)) :
    Lb w.2 ∧ w.2.length ≤ 3001 ∧ (-9223372036854775808 ≤ f ∧ f < 9223372036854775808) ∧
      (lim (dyMake w.1 (lv w.2) f).2.1).length ≤ 62500 ∧ (-9223372036854775808 ≤ (dyMake w.1 (lv w.2) f).2.2 ∧ (dyMake w.1 (lv w.2) f).2.2 < 9223372036854775808) ∧ dyRound (dyMake w.1 (lv w.2) f) up = ratioP na (lv a) nb (lv b) e up := by
  have hf' : f = e - y - 1 := by rw [hf, wi64, wi64]; omega
  have hl : (lim (lv m)).length ≤ 3001 := Nat.le_trans (lim_len_of M.1 (Nat.le_refl _)) M.2.1
  have w2 : w.2 = lim (lv m) := by rw [hw]
  have w1 : w.1 = ((na != nb) && decide (lv m ≠ 0)) := by rw [hw]
  have r := dyMake_rng w.1 (lv w.2) f
  refine ⟨by rw [w2]; exact lim_lb _, by rw [w2]; exact hl, by omega, ?_, by omega, ?_⟩
  · rw [w2, lv_lim] at r ⊢
    have := lim_len_of M.1 (k := (dyMake w.1 (lv m) f).2.1) r.2.2
    have := M.2.1
    omega
  · unfold ratioP
    rw [if_neg z, w2, lv_lim, w1, M.2.2, hf', hb]
theorem c_r7ratio (na : Bool) (a : List Int) (nb : Bool) (b : List Int) (e : Int) (up : Bool) (ha : Lb a) (hb : Lb b) (hla : a.length ≤ 1000) (hlb : b.length ≤ 1000) (he : -8000000 ≤ e ∧ e ≤ 8000000) :
    ∃ t : Num, t = ratioP na (lv a) nb (lv b) e up ∧ CallsA Tryz.prog 144 [.agg [.bool (.s na), .sli .u32 a], .agg [.bool (.s nb), .sli .u32 b], .int .i64 (.s e), .bool (.s up)] t.av := by
  refine ⟨_, rfl, ?_⟩
  obtain ⟨r, hr⟩ : ∃ r, ratioP na (lv a) nb (lv b) e up = r := ⟨_, rfl⟩
  rw [hr]
  obtain ⟨Q, hQ⟩ : ∃ Q : Num → Prop, ∀ r, Q r ↔ ratioP na (lv a) nb (lv b) e up = r := ⟨_, fun _ => Iff.rfl⟩
  have hq := (hQ r).2 hr
  clear hr
  have zer : lv b = 0 → ∀ t, t = Num.inf (!up) → t = r := by intro z t ht; rw [← (hQ r).1 hq, ht]; unfold ratioP; rw [if_pos z]
  have fin : ∀ t, t = ratioP na (lv a) nb (lv b) e up → t = r := fun t ht => ht.trans ((hQ r).1 hq)
  clear hQ hq Q
  refine callsA_of hG hm Tryz.func144 (by kernel_rfl) ?_
  intro E hE lp hl'
  cbv
  (apply E_callX hE (c_r2Sign _ _ hb ?_); (case hf => rfl); (case hc => (cbv <;> trivial)); (case hle => exact u_up); all_goals (first | (intro sg hsg; cbv) | (exact Nat.le_trans hlb (by decide))))
  have sgz : sg = 0 ↔ lv b = 0 := by
    have h : sg = (if lv b = 0 then 0 else if nb = true then -1 else 1 : Int) := hsg
    rw [h]
    constructor
    · intro q
      rcases Nat.eq_zero_or_pos (lv b) with k | k
      · exact k
      · exfalso
        rw [if_neg (by omega)] at q
        split at q <;> omega
    · intro q; rw [if_pos q]
  clear hsg
  refine E_br hE (fun g1 => ?_) (fun g1 => ?_) <;> cbv
  · have z : lv b = 0 := sgz.1 (by subst hE; exact eql_t g1)
    (apply E_callX hE (c_rInf _); (case hf => rfl); (case hc => (cbv <;> trivial)); (case hle => exact u_up); all_goals (first | (intro t ht; cbv) | (assumption)))
    have T : t = r := zer z t (by subst hE; exact ht)
    rw [T]; exact ⟨rfl, rfl, rfl, rfl, trivial⟩
  have nz : lv b ≠ 0 := fun z => (eql_f (by subst hE; exact g1) : ¬ sg = 0) (sgz.2 z)
  clear sgz zer g1
  (apply E_callX hE (c_rLen _ hb ?_); (case hf => rfl); (case hc => (cbv <;> trivial)); (case hle => exact u_up); all_goals (first | (intro n hn; cbv) | (exact Nat.le_trans hlb (by decide))))
  refine E_nm hE (fun by_ hby => ?_)
  have B := ratio_by hb hlb hn (by subst hE; exact hby)
  clear hn hby
  cbv
  (apply E_pcallX hE (c_rShl _ by_ ha ?_); (case hm => rfl); (case hle => exact u_up); all_goals (first | (intro s hs; cbv) | (exact Nat.lt_of_le_of_lt hla (by decide))))
  have S := ratio_shl ha hla B.2 hs
  clear hs
  (apply E_pcallX hE (c_rDiv _ _ S.1 hb S.2.1 ?_); (case hm => rfl); (case hle => exact u_up); all_goals (first | (intro d hd; cbv) | (exact Nat.lt_of_le_of_lt hlb (by decide))))
  have D := ratio_div ha hla B.2 S.2.2 nz hd
  clear hd
  (apply E_callX hE (c_r7sticky _ _ D.1 ?_); (case hf => rfl); (case hc => (cbv <;> trivial)); (case hle => exact u_up); all_goals (first | (intro m hm_; cbv) | (exact Nat.le_trans D.2.1 (by decide))))
  have M := ratio_M (c := E.cmp .gtr (E.len d.2.1) 0) ha hla B.2 B.1 S.2.2 D (by subst hE; rfl) hm_
  clear hm_
  (apply E_callX hE (c_r2Make _ _ M.1 ?_); (case hf => rfl); (case hc => (cbv <;> trivial)); (case hle => exact u_up); all_goals (first | (intro w hw; cbv) | (exact Nat.le_trans M.2.1 (by decide))))
  have P := ratio_P (na := na) (nb := nb) (up := up) (f := E.bin .sub .i64 (E.bin .sub .i64 e by_) 1) B.1 B.2 he nz M (by have k := hw; subst hE; exact k) (by subst hE; rfl)
  clear hw
  (apply E_callX hE (k_r3Make _ _ _ P.1 ?_ ?_); (case hf => rfl); (case hc => (cbv <;> trivial)); (case hle => exact u_up); all_goals (first | (intro y hy; cbv) | (first | exact Nat.le_trans P.2.1 (by decide) | exact P.2.2.1)))
  (apply E_callX hE (k_rRound (dyMake w.1 (lv w.2) (E.bin .sub .i64 (E.bin .sub .i64 e by_) 1)) up P.2.2.2.1 P.2.2.2.2.1 ⟨_, _, _⟩ ?_); (case hf => rfl); (case hc => (cbv <;> trivial)); (case hle => exact u_up); all_goals (first | (intro t ht; cbv) | (exact hy)))
  have T : t = r := fin t (ht.trans P.2.2.2.2.2)
  rw [T]; exact ⟨rfl, rfl, rfl, rfl, trivial⟩

end Go.Proofs.YtpadpcjdakfokaaGreatDoor.Ev

/- The reference's sums are the program's: plain Lean. -/
namespace Go.Proofs.YtpadpcjdakfokaaGreatDoor.Ev
open Go

/-- the sum of two whole numbers with signs -/
def wsum (na : Bool) (ka : Nat) (nb : Bool) (kb : Nat) : Bool × Nat :=
  if na = nb then (na && decide (ka + kb ≠ 0), ka + kb) else if ka < kb then (nb && decide (kb - ka ≠ 0), kb - ka) else (na && decide (ka - kb ≠ 0), ka - kb)
/-- a number as an odd one times a power of two; or nought -/
structure Dy (p : Bool × Nat × Int) (t : Int) : Prop where
  odd : p = (false, 0, 0) ∨ p.2.1 % 2 = 1
  lo : -1048576 ≤ p.2.2
  hi : p.2.2 ≤ 1048640
  lt : p.2.1 < 18446744073709551616
  val : dyv p = t
theorem exact_dy {x : Num} (ox : x.ok) (k : x.fair.kind ≠ 2) : Dy x.fair.exact.1 x.fair.val := by
  by_cases k0 : x.fair.kind = 0
  · rw [Num.fair_zero ox k0]
    have e : Num.zero.exact.1 = (false, 0, 0) := by unfold Num.exact; rfl
    rw [e]
    exact ⟨.inl rfl, by decide, by decide, by decide, by simp [dyv, Num.val_zero]⟩
  · have F := Num.fair_fin ox k0 k
    obtain ⟨x1, x2, x3, x4, x5, x6, x7, _⟩ := exact_fin F
    refine ⟨.inr x3, x4, x5, x7, ?_⟩
    unfold dyv Num.val
    rw [x2, x6]
end Go.Proofs.YtpadpcjdakfokaaGreatDoor.Ev

/- Contracts of the reference: the quotient of two numbers. Printed by gen.py. -/
namespace Go.Proofs.YtpadpcjdakfokaaGreatDoor.Ev
open Go Go.Proofs
set_option linter.unusedVariables false
set_option linter.unusedSimpArgs false

attribute [local irreducible] Lb
end Go.Proofs.YtpadpcjdakfokaaGreatDoor.Ev

/- The reference's order of numbers is the program's: plain Lean. -/
namespace Go.Proofs.YtpadpcjdakfokaaGreatDoor.Ev
open Go

def Num.rcmp (x y : Num) : Int :=
  if x.fair.sign ≠ y.fair.sign then (if x.fair.sign < y.fair.sign then -1 else 1)
  else if x.fair.sign = 0 ∨ x.fair = y.fair then 0
  else if x.fair.kind = 2 ∨ (y.fair.kind ≠ 2 ∧ (y.fair.e < x.fair.e ∨ (x.fair.e = y.fair.e ∧ y.fair.m < x.fair.m))) then x.fair.sign else IntKind.i64.wrap (0 - x.fair.sign)
theorem more_iff {A B : Num} (mA : A.may = true) (mB : B.may = true) (oA : A.ok) (oB : B.ok) (kA : A.kind ≠ 0) (kB : B.kind ≠ 0) (hn : A.neg = B.neg) (hne : A ≠ B) :
    (A.kind = 2 ∨ (B.kind ≠ 2 ∧ (B.e < A.e ∨ (A.e = B.e ∧ B.m < A.m)))) ↔ B.W < A.W := by
  rw [← Num.farther_iff mA mB oA oB]
  unfold Num.farther
  rcases Num.may3 mA oA with h | h | h
  · rw [h] at kA; exact absurd rfl kA
  · have a1 := h.kind
    rcases Num.may3 mB oB with k | k | k
    · rw [k] at kB; exact absurd rfl kB
    · have b1 := k.kind
      rw [if_neg (by rw [a1, b1]; decide)]
      split
      · rw [decide_eq_true_eq]; omega
      · rw [decide_eq_true_eq]; omega
    · have b1 : B.kind = 2 := by rw [k]; rfl
      rw [if_pos (by omega), decide_eq_true_eq]; omega
  · have a1 : A.kind = 2 := by rw [h]; rfl
    rcases Num.may3 mB oB with k | k | k
    · rw [k] at kB; exact absurd rfl kB
    · have b1 := k.kind
      rw [if_pos (by omega), decide_eq_true_eq]; omega
    · exact absurd (by rw [h, k, hn]) hne
theorem rcmp_eq {x y : Num} (ox : x.ok) (oy : y.ok) : Num.rcmp x y = Num.cmp x y := by
  have S := Num.cmp_spec ox oy
  have mA := x.fair_may
  have mB := y.fair_may
  have oA := Num.fair_ok ox
  have oB := Num.fair_ok oy
  unfold Num.rcmp
  generalize Num.cmp x y = c at *
  generalize x.fair = A at *
  generalize y.fair = B at *
  have sA := Num.sign_of mA oA
  have sB := Num.sign_of mB oB
  have w1 : IntKind.i64.wrap (0 - 1) = -1 := by decide
  have w2 : IntKind.i64.wrap (0 - -1) = 1 := by decide
  by_cases h : A.sign = B.sign
  · rw [if_neg (by omega)]
    by_cases h0 : A.sign = 0 ∨ A = B
    · rw [if_pos h0]
      rcases h0 with h0 | h0
      · omega
      · rw [h0] at S; omega
    · rw [if_neg h0]
      have hne : A ≠ B := fun e => h0 (.inr e)
      have vne : A.val ≠ B.val := fun e => hne (Num.val_inj mA mB oA oB e)
      rcases sA with sA | sA | sA
      · omega
      · rcases sB with sB | sB | sB
        · omega
        · have M := more_iff mA mB oA oB sA.2.2.2.2 sB.2.2.2.2 (by rw [sA.2.2.2.1, sB.2.2.2.1]) hne
          rw [sA.1, w1]
          split
          · rename_i q; have := M.1 q; omega
          · rename_i q
            have : ¬ B.W < A.W := fun k => q (M.2 k)
            omega
        · omega
      · rcases sB with sB | sB | sB
        · omega
        · omega
        · have M := more_iff mA mB oA oB sA.2.2.2.2 sB.2.2.2.2 (by rw [sA.2.2.2.1, sB.2.2.2.1]) hne
          rw [sA.1, w2]
          split
          · rename_i q; have := M.1 q; omega
          · rename_i q
            have : ¬ B.W < A.W := fun k => q (M.2 k)
            omega
  · rw [if_pos h]
    split <;> omega
end Go.Proofs.YtpadpcjdakfokaaGreatDoor.Ev

/- Contracts: words of 64 bits. Printed by gen.py out of C3.spec. -/
namespace Go.Proofs.YtpadpcjdakfokaaGreatDoor.Ev
open Go Go.Proofs
set_option linter.unusedVariables false
set_option linter.unusedSimpArgs false

theorem c_Len64 (x : Int) (hx : 0 ≤ x) (hx' : x < 18446744073709551616) : ∃ t : Int, t = blen x ∧ CallsA Tryz.prog 168 [.int .u64 (.s x)] (.int .i64 (.s t)) := by
  refine ⟨_, rfl, ?_⟩
  generalize hr : blen x = r
  refine callsA_of hG hm Tryz.func168 (by kernel_rfl) ?_
  intro E hE lp hl
  cbv
  repeat' (first
    | (refine E_br hE (fun h => ?_) (fun h => ?_) <;> cbv)
    | (refine E_nm hE (fun v hv => ?_); cbv)
    | fail)
  all_goals (try (generalize hL : (⟨⟨[0, 1, 2, 2, 3, 3, 3, 3, 4, 4, 4, 4, 4, 4, 4, 4, 5, 5, 5, 5, 5, 5, 5, 5, 5, 5, 5, 5, 5, 5, 5, 5, 6, 6, 6, 6, 6, 6, 6, 6, 6, 6, 6, 6, 6, 6, 6, 6, 6, 6, 6, 6, 6, 6, 6, 6, 6, 6, 6, 6, 6, 6, 6, 6, 7, 7, 7, 7, 7, 7, 7, 7, 7, 7, 7, 7, 7, 7, 7, 7, 7, 7, 7, 7, 7, 7, 7, 7, 7, 7, 7, 7, 7, 7, 7, 7, 7, 7, 7, 7, 7, 7, 7, 7, 7, 7, 7, 7, 7, 7, 7, 7, 7, 7, 7, 7, 7, 7, 7, 7, 7, 7, 7, 7, 7, 7, 7, 7, 8, 8, 8, 8, 8, 8, 8, 8, 8, 8, 8, 8, 8, 8, 8, 8, 8, 8, 8, 8, 8, 8, 8, 8, 8, 8, 8, 8, 8, 8, 8, 8, 8, 8, 8, 8, 8, 8, 8, 8, 8, 8, 8, 8, 8, 8, 8, 8, 8, 8, 8, 8, 8, 8, 8, 8, 8, 8, 8, 8, 8, 8, 8, 8, 8, 8, 8, 8, 8, 8, 8, 8, 8, 8, 8, 8, 8, 8, 8, 8, 8, 8, 8, 8, 8, 8, 8, 8, 8, 8, 8, 8, 8, 8, 8, 8, 8, 8, 8, 8, 8, 8, 8, 8, 8, 8, 8, 8, 8, 8, 8, 8, 8, 8, 8, 8, 8, 8, 8, 8, 8, 8, 8, 8, 8, 8, 8, 8]⟩⟩ : ByteArray) = L at *; replace hL := len8_str hL; obtain ⟨hL1, hL2⟩ := hL))
  all_goals (subst hE; subst hr)
  all_goals (try simp only [realE, cmp_eql, cmp_neq, cmp_lss, cmp_leq, cmp_gtr, cmp_geq, intBinR, decide_eq_true_eq, decide_eq_false_iff_not, SI.val, SB.val, Num.eta, Iv.eta] at *)
  all_goals (simp only [shr8, shr16, shr32, wu8, wi64] at *)
  all_goals (try omega)
  all_goals (try rw [hL2 _ (by omega) (by omega)] at hv)
  all_goals (have b1 := blen_nonneg x; have b2 := blen_le 64 (x := x) (by omega))
  all_goals (try have s1 := len32 ‹(4294967296 : Int) ≤ _› ‹_ = _ / (4294967296 : Int)›)
  all_goals (try have s2 := len16 ‹(65536 : Int) ≤ _› ‹_ = _ / (65536 : Int)›)
  all_goals (try have s3 := len8 ‹(256 : Int) ≤ _› ‹_ = _ / (256 : Int)›)
  all_goals omega

theorem c_LZ64 (x : Int) (hx : 0 ≤ x) (hx' : x < 18446744073709551616) : ∃ t : Int, t = 64 - blen x ∧ CallsA Tryz.prog 91 [.int .u64 (.s x)] (.int .i64 (.s t)) := by
  refine ⟨_, rfl, ?_⟩
  generalize hr : 64 - blen x = r
  refine callsA_of hG hm Tryz.func91 (by kernel_rfl) ?_
  intro E hE lp hl
  cbv
  repeat' (first
    | (refine E_br hE (fun h => ?_) (fun h => ?_) <;> cbv)
    | (refine E_nm hE (fun v hv => ?_); cbv)
    | (apply E_callX hE (c_Len64 _ ?_ ?_); (case hf => rfl); (case hc => (cbv <;> trivial)); (case hle => exact u_up); all_goals (first | (intro t ht; cbv) | (subst hE; (try simp only [realE, cmp_eql, cmp_neq, cmp_lss, cmp_leq, cmp_gtr, cmp_geq, intBinR, decide_eq_true_eq, decide_eq_false_iff_not, SI.val, SB.val, Num.eta, Iv.eta] at *); first | assumption | omega)))
    | fail)
  all_goals (subst hE; subst hr)
  all_goals (try simp only [realE, cmp_eql, cmp_neq, cmp_lss, cmp_leq, cmp_gtr, cmp_geq, intBinR, decide_eq_true_eq, decide_eq_false_iff_not, SI.val, SB.val, Num.eta, Iv.eta] at *)
  all_goals (try simp only [wi64] at *)
  all_goals (have b1 := blen_nonneg x; have b2 := blen_le 64 (x := x) (by omega); omega)

end Go.Proofs.YtpadpcjdakfokaaGreatDoor.Ev

/- Contracts: the product. Printed by gen.py out of C4.spec. -/
namespace Go.Proofs.YtpadpcjdakfokaaGreatDoor.Ev
open Go Go.Proofs
set_option linter.unusedVariables false
set_option linter.unusedSimpArgs false

end Go.Proofs.YtpadpcjdakfokaaGreatDoor.Ev

namespace Go.Proofs.YtpadpcjdakfokaaGreatDoor.Ev
open Go Go.Proofs
set_option linter.unusedVariables false

end Go.Proofs.YtpadpcjdakfokaaGreatDoor.Ev

/- Contracts: the operations on intervals. -/
namespace Go.Proofs.YtpadpcjdakfokaaGreatDoor.Ev
open Go Go.Proofs
set_option linter.unusedVariables false
end Go.Proofs.YtpadpcjdakfokaaGreatDoor.Ev

/- Contracts of the reference: the order of numbers, the least and the greatest. Printed by gen.py. -/
namespace Go.Proofs.YtpadpcjdakfokaaGreatDoor.Ev
open Go Go.Proofs
set_option linter.unusedVariables false
set_option linter.unusedSimpArgs false
theorem c_r0Cmp (x : Num) (y : Num)  : ∃ t : Int, t = Num.rcmp x y ∧ CallsA Tryz.prog 58 [x.av, y.av] (.int .i64 (.s t)) := by
  refine ⟨_, rfl, ?_⟩
  generalize hr : Num.rcmp x y = r
  refine callsA_of hG hm Tryz.func58 (by kernel_rfl) ?_
  intro E hE lp hl
  cbv
  repeat' (first
    | (apply E_br_t hE; assumption; cbv)
    | (apply E_br_f hE; assumption; cbv)
    | (refine E_br hE (fun h => ?_) (fun h => ?_) <;> cbv)
    | (refine E_nm hE (fun v hv => ?_); cbv)
    | (apply E_callX hE (c_rFair ⟨_, _, _, _⟩); (case hf => rfl); (case hc => (cbv <;> trivial)); (case hle => exact u_up); intro t ht; cbv)
    | (apply E_callX hE (c_rSign ⟨_, _, _, _⟩); (case hf => rfl); (case hc => (cbv <;> trivial)); (case hle => exact u_up); intro t ht; cbv)
    | fail)
  all_goals (subst hE; subst hr)
  all_goals (try simp only [realE, cmp_eql, cmp_neq, cmp_lss, cmp_leq, cmp_gtr, cmp_geq, intBinR, decide_eq_true_eq, decide_eq_false_iff_not, SI.val, SB.val, Num.eta, Iv.eta] at *)
  all_goals (simp only [Num.rcmp])
  all_goals (try subst_vars)
  all_goals (try simp_all [Num.eq_iff])
  all_goals (try (intros; omega))
  all_goals (rw [if_neg (fun k => ‹x.fair.kind = y.fair.kind → x.fair.neg = y.fair.neg → ¬ x.fair.m = y.fair.m› k.1 k.2.1 k.2.2), if_neg (by omega)])

theorem c_r5Cmp (x y : Num) (ox : x.ok) (oy : y.ok) : ∃ t : Int, t = Num.cmp x y ∧ CallsA Tryz.prog 58 [x.av, y.av] (.int .i64 (.s t)) := by
  obtain ⟨t, ht, hC⟩ := c_r0Cmp x y
  exact ⟨t, ht.trans (rcmp_eq ox oy), hC⟩

end Go.Proofs.YtpadpcjdakfokaaGreatDoor.Ev

/- The reference's intervals are the program's: plain Lean. -/
namespace Go.Proofs.YtpadpcjdakfokaaGreatDoor.Ev
open Go

end Go.Proofs.YtpadpcjdakfokaaGreatDoor.Ev

/- Contracts of the reference: intervals. Printed by gen.py. -/
namespace Go.Proofs.YtpadpcjdakfokaaGreatDoor.Ev
open Go Go.Proofs
set_option linter.unusedVariables false
set_option linter.unusedSimpArgs false

theorem c_r8None   : ∃ t : Iv, t = Iv.none ∧ CallsA Tryz.prog 112 [] (t.av) := by
  refine ⟨_, rfl, ?_⟩
  generalize hr : Iv.none = r
  refine callsA_of hG hm Tryz.func112 (by kernel_rfl) ?_
  intro E hE lp hl
  cbv
  repeat' (first
    | (refine E_br hE (fun h => ?_) (fun h => ?_) <;> cbv)
    | (refine E_nm hE (fun v hv => ?_); cbv)
    | fail)
  all_goals (subst hE; subst hr)
  all_goals (try simp only [realE, cmp_eql, cmp_neq, cmp_lss, cmp_leq, cmp_gtr, cmp_geq, intBinR, decide_eq_true_eq, decide_eq_false_iff_not, SI.val, SB.val, Num.eta, Iv.eta] at *)
  all_goals (try simp_all [Iv.none, Num.zero])
  all_goals (try omega)
  all_goals (try simp only [Bool.and_assoc])
  all_goals (try rfl)
  all_goals ((repeat' split) <;> (try simp_all) <;> (try omega))

theorem c_r8May (x : Iv) (o1 : x.lo.ok) (o2 : x.hi.ok) : ∃ t : Bool, t = x.may ∧ CallsA Tryz.prog 182 [x.av] (.bool (.s t)) := by
  refine ⟨_, rfl, ?_⟩
  generalize hr : x.may = r
  refine callsA_of hG hm Tryz.func182 (by kernel_rfl) ?_
  intro E hE lp hl
  cbv
  repeat' (first
    | (refine E_br hE (fun h => ?_) (fun h => ?_) <;> cbv)
    | (refine E_nm hE (fun v hv => ?_); cbv)
    | (apply E_pcallX hE (c_r8None ); (case hm => rfl); (case hle => exact u_up); intro t ht; cbv)
    | (apply E_callX hE (c_rMay ⟨_, _, _, _⟩); (case hf => rfl); (case hc => (cbv <;> trivial)); (case hle => exact u_up); intro t ht; cbv)
    | (apply E_pcallX hE (c_r5Cmp ⟨_, _, _, _⟩ ⟨_, _, _, _⟩ ?_ ?_); (case hm => rfl); (case hle => exact u_up); all_goals (first | (intro t ht; cbv) | (subst hE; (try simp only [realE, cmp_eql, cmp_neq, cmp_lss, cmp_leq, cmp_gtr, cmp_geq, intBinR, decide_eq_true_eq, decide_eq_false_iff_not, SI.val, SB.val, Num.eta, Iv.eta] at *); first | assumption | omega)))
    | (apply E_pcallX hE (c_rInf _); (case hm => rfl); (case hle => exact u_up); intro t ht; cbv)
    | fail)
  all_goals (subst hE; subst hr)
  all_goals (try simp only [realE, cmp_eql, cmp_neq, cmp_lss, cmp_leq, cmp_gtr, cmp_geq, intBinR, decide_eq_true_eq, decide_eq_false_iff_not, SI.val, SB.val, Num.eta, Iv.eta] at *)
  all_goals (try simp_all [Iv.may, Iv.none, Num.zero, Iv.eq_iff, Num.eq_iff, Num.inf])
  all_goals (try omega)
  all_goals (try simp only [Bool.and_assoc])
  all_goals (try rfl)
  all_goals ((repeat' split) <;> (try simp_all) <;> (try omega))

theorem c_r8Fair (x : Iv) (o1 : x.lo.ok) (o2 : x.hi.ok) : ∃ t : Iv, t = x.fair ∧ CallsA Tryz.prog 120 [x.av] (t.av) := by
  refine ⟨_, rfl, ?_⟩
  generalize hr : x.fair = r
  refine callsA_of hG hm Tryz.func120 (by kernel_rfl) ?_
  intro E hE lp hl
  cbv
  repeat' (first
    | (refine E_br hE (fun h => ?_) (fun h => ?_) <;> cbv)
    | (refine E_nm hE (fun v hv => ?_); cbv)
    | (apply E_callX hE (c_r8May ⟨_, ⟨_, _, _, _⟩, ⟨_, _, _, _⟩⟩ ?_ ?_); (case hf => rfl); (case hc => (cbv <;> trivial)); (case hle => exact u_up); all_goals (first | (intro t ht; cbv) | (subst hE; (try simp only [realE, cmp_eql, cmp_neq, cmp_lss, cmp_leq, cmp_gtr, cmp_geq, intBinR, decide_eq_true_eq, decide_eq_false_iff_not, SI.val, SB.val, Num.eta, Iv.eta] at *); first | assumption | omega)))
    | (apply E_callX hE (c_r8None ); (case hf => rfl); (case hc => (cbv <;> trivial)); (case hle => exact u_up); intro t ht; cbv)
    | fail)
  all_goals (subst hE; subst hr)
  all_goals (try simp only [realE, cmp_eql, cmp_neq, cmp_lss, cmp_leq, cmp_gtr, cmp_geq, intBinR, decide_eq_true_eq, decide_eq_false_iff_not, SI.val, SB.val, Num.eta, Iv.eta] at *)
  all_goals (try simp_all [Iv.fair])
  all_goals (try omega)
  all_goals (try simp only [Bool.and_assoc])
  all_goals (try rfl)
  all_goals ((repeat' split) <;> (try simp_all) <;> (try omega))

theorem c_r8Make (lo hi : Num) (o1 : lo.ok) (o2 : hi.ok) : ∃ t : Iv, t = Iv.make lo hi ∧ CallsA Tryz.prog 66 [lo.av, hi.av] t.av := by
  refine ⟨_, rfl, ?_⟩
  rw [Iv.make_eq]
  generalize hr : Iv.fair ⟨false, lo.fair, hi.fair⟩ = r
  have f1 := Num.fair_ok o1
  have f2 := Num.fair_ok o2
  refine callsA_of hG hm Tryz.func66 (by kernel_rfl) ?_
  intro E hE lp hl'
  cbv
  (apply E_pcallX hE (c_r6Fair ⟨_, _, _, _⟩); (case hm => rfl); (case hle => exact u_up); all_goals (first | (intro a ha; cbv) | (assumption)))
  (apply E_pcallX hE (c_r6Fair ⟨_, _, _, _⟩); (case hm => rfl); (case hle => exact u_up); all_goals (first | (intro b hb; cbv) | (assumption)))
  (apply E_pcallX hE (c_r8Fair ⟨_, ⟨_, _, _, _⟩, ⟨_, _, _, _⟩⟩ ?_ ?_); (case hm => rfl); (case hle => exact u_up); all_goals (first | (intro t ht; cbv) | (first | (show a.ok; rw [show a = lo.fair from ha]; exact f1) | (show b.ok; rw [show b = hi.fair from hb]; exact f2))))
  have T : t = r := by
    rw [← hr, ← show a = lo.fair from ha, ← show b = hi.fair from hb]; exact ht
  rw [T]; exact ⟨rfl, rfl, rfl, rfl, rfl, rfl, rfl, rfl, rfl, trivial⟩
end Go.Proofs.YtpadpcjdakfokaaGreatDoor.Ev

/- Contracts of the reference: the sum of two numbers. Printed by gen.py. -/
namespace Go.Proofs.YtpadpcjdakfokaaGreatDoor.Ev
open Go Go.Proofs
set_option linter.unusedVariables false
set_option linter.unusedSimpArgs false

attribute [local irreducible] Lb
theorem sum_len {a b : List Int} (ha : Lb a) (hb : Lb b) : (lim (lv a + lv b)).length ≤ a.length + b.length + 1 := by
  have l1 := lv_lt ha
  have l2 := lv_lt hb
  have p1 : (4294967296 : Nat) ^ a.length ≤ 4294967296 ^ (a.length + b.length) := Nat.pow_le_pow_right (by decide) (by omega)
  have p2 : (4294967296 : Nat) ^ b.length ≤ 4294967296 ^ (a.length + b.length) := Nat.pow_le_pow_right (by decide) (by omega)
  refine lim_length_le ?_
  rw [Nat.pow_succ]; omega
theorem c_r2Add (na : Bool) (a : List Int) (nb : Bool) (b : List Int) (ha : Lb a) (hb : Lb b) (hla : a.length ≤ 100000) (hlb : b.length ≤ 100000) :
    ∃ t : Bool × List Int, t = ((wsum na (lv a) nb (lv b)).1, lim (wsum na (lv a) nb (lv b)).2) ∧ CallsA Tryz.prog 85 [.agg [.bool (.s na), .sli .u32 a], .agg [.bool (.s nb), .sli .u32 b]] (.agg [.bool (.s t.1), .sli .u32 t.2]) := by
  refine ⟨_, rfl, ?_⟩
  generalize hr : (((wsum na (lv a) nb (lv b)).1, lim (wsum na (lv a) nb (lv b)).2) : Bool × List Int) = r
  have same : na = nb → ∀ s : List Int, s = lim (lv a + lv b) → Lb s ∧ s.length ≤ 268435456 ∧ ∀ t : Bool × List Int, t = (na && decide (lv s ≠ 0), lim (lv s)) → t = r := by
    intro h s hs
    refine ⟨by rw [hs]; exact lim_lb _, by rw [hs]; have := sum_len ha hb; omega, fun t ht => ?_⟩
    rw [ht, ← hr, hs, lv_lim]; unfold wsum; rw [if_pos h]
  have less : na ≠ nb → lv a < lv b → ∀ s : List Int, s = lim (lv b - lv a) → Lb s ∧ s.length ≤ 268435456 ∧ ∀ t : Bool × List Int, t = (nb && decide (lv s ≠ 0), lim (lv s)) → t = r := by
    intro h g s hs
    refine ⟨by rw [hs]; exact lim_lb _, by rw [hs]; have := lim_len_of hb (Nat.sub_le (lv b) (lv a)); omega, fun t ht => ?_⟩
    rw [ht, ← hr, hs, lv_lim]; unfold wsum; rw [if_neg h, if_pos g]
  have more : na ≠ nb → ¬ lv a < lv b → ∀ s : List Int, s = lim (lv a - lv b) → Lb s ∧ s.length ≤ 268435456 ∧ ∀ t : Bool × List Int, t = (na && decide (lv s ≠ 0), lim (lv s)) → t = r := by
    intro h g s hs
    refine ⟨by rw [hs]; exact lim_lb _, by rw [hs]; have := lim_len_of ha (Nat.sub_le (lv a) (lv b)); omega, fun t ht => ?_⟩
    rw [ht, ← hr, hs, lv_lim]; unfold wsum; rw [if_neg h, if_neg g]
  have subs : ∀ (x y : List Int) (s : List Int × Bool), s = (if lv x < lv y then ([], false) else (lim (lv x - lv y), true)) → (s.2 = false → lv x < lv y) ∧ (s.2 = true → ¬ lv x < lv y ∧ s.1 = lim (lv x - lv y)) := by
    intro x y s hs
    subst hs
    by_cases k : lv x < lv y
    · rw [if_pos k]; exact ⟨fun _ => k, fun h => by cases h⟩
    · rw [if_neg k]; exact ⟨fun h => by (cases h), fun _ => ⟨k, rfl⟩⟩
  have subs2 : ∀ (x y : List Int) (s : List Int × Bool), lv y < lv x → s = (if lv x < lv y then ([], false) else (lim (lv x - lv y), true)) → s.1 = lim (lv x - lv y) := by
    intro x y s h hs
    rw [hs, if_neg (by omega)]
  clear hr
  refine callsA_of hG hm Tryz.func85 (by kernel_rfl) ?_
  intro E hE lp hl'
  cbv
  refine E_br hE (fun g => ?_) (fun g => ?_) <;> cbv
  · have gn : na = nb := by subst hE; have k : (na == nb) = true := g; simpa using k
    (apply E_pcallX hE (c_rAdd _ _ ha hb ?_ ?_); (case hm => rfl); (case hle => exact u_up); all_goals (first | (intro s hs; cbv) | (first | exact Nat.lt_of_le_of_lt hla (by decide) | exact Nat.lt_of_le_of_lt hlb (by decide))))
    have S := same gn s hs
    (apply E_pcallX hE (c_r2Make _ _ S.1 S.2.1); (case hm => rfl); (case hle => exact u_up); all_goals (first | (intro t ht; cbv) | (assumption)))
    rw [← S.2.2 t ht]; exact ⟨rfl, rfl, trivial⟩
  · have gn : na ≠ nb := by subst hE; have k : (na == nb) = false := g; simpa using k
    (apply E_callX hE (c_rSub _ _ ha hb ?_ ?_); (case hf => rfl); (case hc => (cbv <;> trivial)); (case hle => exact u_up); all_goals (first | (intro s hs; cbv) | (first | exact Nat.lt_of_le_of_lt hla (by decide) | exact Nat.lt_of_le_of_lt hlb (by decide))))
    have D := subs a b s hs
    clear hs
    refine E_br hE (fun g2 => ?_) (fun g2 => ?_) <;> cbv
    · have S := more gn (D.2 g2).1 s.1 (D.2 g2).2
      (apply E_callX hE (c_r2Make _ _ S.1 S.2.1); (case hf => rfl); (case hc => (cbv <;> trivial)); (case hle => exact u_up); all_goals (first | (intro t ht; cbv) | (assumption)))
      rw [← S.2.2 t ht]; exact ⟨rfl, rfl, trivial⟩
    · have lt := D.1 g2
      (apply E_callX hE (c_rSub _ _ hb ha ?_ ?_); (case hf => rfl); (case hc => (cbv <;> trivial)); (case hle => exact u_up); all_goals (first | (intro u hu; cbv) | (first | exact Nat.lt_of_le_of_lt hla (by decide) | exact Nat.lt_of_le_of_lt hlb (by decide))))
      have S := less gn lt u.1 (subs2 b a u lt hu)
      (apply E_callX hE (c_r2Make _ _ S.1 S.2.1); (case hf => rfl); (case hc => (cbv <;> trivial)); (case hle => exact u_up); all_goals (first | (intro t ht; cbv) | (assumption)))
      rw [← S.2.2 t ht]; exact ⟨rfl, rfl, trivial⟩

/-- of an exponent that is not too far from nought, if any -/
def Num.near (n : Num) : Prop := n.kind = 1 → -50000 ≤ n.e ∧ n.e ≤ 50000
end Go.Proofs.YtpadpcjdakfokaaGreatDoor.Ev

/- Handing on within: a place in the call's own memory becomes what is only read, ahead of a loop. -/
namespace Go.Proofs.YtpadpcjdakfokaaGreatDoor.Ev
open Go Go.RowKit
set_option linter.unusedVariables false
set_option linter.unusedSimpArgs false

def isMs : AV → Bool
  | .ms _ _ _ _ => true
  | _ => false

section
variable {P : Program} {G : Nat → TI}

/-- AHEAD OF A LOOP: what a temporary has of the call's own memory is only read from here on. -/
theorem E_frz {E : Env} (hE : E = realE P) {n : Nat} {lp : Code → St → (Ex → St → Prop) → Prop} (hlp : Loops P n lp) {c : Code} {t : List (Nat × AV)} {h : List Blk} {K : Ex → St → Prop}
    (d : Nat) {y : AV} {h' : List Blk} {v : AV} (hd : lookT t d = v) (hv : isMs v = true) (hf : frz1 E h v = some (y, h')) (hcl : clean1 h v) (hk : lp c ⟨(d, y) :: t, h'⟩ K) : lp c ⟨t, h⟩ K := by
  subst hE
  subst hlp
  subst hd
  intro hc base O0 I μ a w R
  have hr := R.tmps d
  have hl : LeafR (mkX base O0 μ h w) (lookT t d) (a.tmps.getD d undef) := by
    revert hv hr
    generalize lookT t d = v
    cases v <;> intro hv hr <;> first | exact hr | cases hv
  obtain ⟨F, q⟩ := frz1_sound R.hr hl hcl hf
  exact hk hc base O0 I μ a w ⟨R.size, R.defers, F.hr, (R.tmps.mono F.ext).refine (relV_of_ro q), R.ext.trans F.ext, R.below⟩
end
end Go.Proofs.YtpadpcjdakfokaaGreatDoor.Ev

/- Contracts: limbs cut of their noughts, their copies, which of two is less. Printed by gen.py. -/
namespace Go.Proofs.YtpadpcjdakfokaaGreatDoor.Ev
open Go Go.Proofs
set_option linter.unusedVariables false
set_option linter.unusedSimpArgs false

attribute [local irreducible] Lb
theorem c_cut (a : List Int) (ha : Lb a) (hb : a.length < 9223372036854775808) : ∃ t : List Int, t = lim (lv a) ∧ CallsA Tryz.prog 191 [.sli .u32 a] (.sli .u32 t) := by
  refine ⟨_, rfl, ?_⟩
  generalize hr : lim (lv a) = r
  refine callsA_of hG hm Tryz.func191 (by kernel_rfl) ?_
  intro E hE lp hl
  cbv
  refine E_loop hE hG hm hl (fun (p : List Int) => (⟨[(0, .sli .u32 p), (2, .s0)], []⟩ : St)) (fun p => p.length) (fun p => ∃ k : Nat, k ≤ a.length ∧ p = a.take k ∧ lv (a.take k) = lv a) ⟨a, ⟨a.length, Nat.le_refl _, by simp, by simp⟩, stLe rfl ?_⟩ ?_
  · (repeat' (first | exact t_nil | apply t_cons | exact u2_sli | exact u2_int | exact u2_bool | exact u2_ms | exact u2_ptr | exact (rfl : sle2 .s0 .s0)))
  rintro p ⟨k, hk, hp, hv⟩
  have hpl : p.length = k := by rw [hp]; simp; omega
  cbv
  repeat' (first
    | (refine E_br hE (fun h => ?_) (fun h => ?_) <;> cbv)
    | (refine E_nm hE (fun v hv => ?_); cbv)
    | (refine E_nilS hE (fun b hb => ?_); cbv)
    | fail)
  case refine_2.refine_1.refine_1.refine_1.refine_1.refine_1.refine_1 =>
    refine ⟨E.sub p 0 (E.bin .sub .i64 (E.len p) 1), ?_, ⟨k - 1, ?_, ?_, ?_⟩, stLe rfl ?_⟩
    rotate_right
    · (repeat' (first | exact t_nil | apply t_cons | exact u2_sli | exact u2_int | exact u2_bool | exact u2_ms | exact u2_ptr | exact (rfl : sle2 .s0 .s0)))
    all_goals (subst hE; simp only [NatCast.natCast, Int.ofNat_eq_natCast, realE, cmp_eql, cmp_neq, cmp_lss, cmp_leq, cmp_gtr, cmp_geq, intBinR, decide_eq_true_eq, decide_eq_false_iff_not, SI.val, SB.val, Num.eta, Iv.eta] at *)
    all_goals (rw [hpl] at *; rw [wi64_pred (by omega) (by omega)] at *)
    all_goals (have e0 : ((k : Int) - 1).toNat = k - 1 := by omega)
    · simp; omega
    · omega
    · rw [e0, hp]; simp [List.take_take]
    · rw [lv_cut_step (by omega) hk ?_, hv]
      rw [← getD_take (k := k) (by omega), ← hp, ← e0]; assumption
  all_goals (subst hE; simp only [NatCast.natCast, Int.ofNat_eq_natCast, realE, cmp_eql, cmp_neq, cmp_lss, cmp_leq, cmp_gtr, cmp_geq, intBinR, decide_eq_true_eq, decide_eq_false_iff_not, SI.val, SB.val, Num.eta, Iv.eta] at *)
  all_goals (rw [hpl] at *)
  all_goals (try (rw [wi64_pred (by omega) (by omega)] at *))
  all_goals (try (exfalso; omega))
  all_goals (rw [← hr, hp])
  · exact cut_end ha hk (.inr (by rw [← getD_take (k := k) (by omega), ← hp]; rw [show ((k : Int) - 1).toNat = k - 1 by omega] at h; exact h)) hv
  · exact cut_end ha hk (.inl (by omega)) hv

theorem c_Clone (a : List Int) (hlb : a.length ≤ 268435456) : ∃ t : List Int, t = a ∧ CallsA Tryz.prog 192 [.sli .u32 a] (.sli .u32 t) := by
  refine ⟨_, rfl, ?_⟩
  generalize hr : a = r
  refine callsA_of hG hm Tryz.func192 (by kernel_rfl) ?_
  intro E hE lp hl
  cbv
  repeat' (first
    | (refine E_br hE (fun h => ?_) (fun h => ?_) <;> cbv)
    | (refine E_nm hE (fun v hv => ?_); cbv)
    | (refine E_nilS hE (fun b hb => ?_); cbv)
    | fail)
  all_goals (subst hE; simp only [NatCast.natCast, Int.ofNat_eq_natCast, realE, cmp_eql, cmp_neq, cmp_lss, cmp_leq, cmp_gtr, cmp_geq, intBinR, decide_eq_true_eq, decide_eq_false_iff_not, SI.val, SB.val, Num.eta, Iv.eta] at *)
  · exact List.length_eq_zero_iff.1 (by have := hb h; omega)
  · simp
  · subst hr; omega

theorem c_natCmp (a b : List Int) (ha : Lb a) (hb : Lb b) (hla : a.length ≤ 268435456) (hlb : b.length ≤ 268435456) : ∃ t : Int, t = (if lv a < lv b then -1 else if lv b < lv a then 1 else 0 : Int) ∧ CallsA Tryz.prog 157 [.sli .u32 a, .sli .u32 b] (.int .i64 (.s t)) := by
  refine ⟨_, rfl, ?_⟩
  generalize hr : (if lv a < lv b then -1 else if lv b < lv a then 1 else 0 : Int) = r
  have hl1 := lim_length_le' ha
  have hl2 := lim_length_le' hb
  have l1 := lim_lb (lv a)
  have l2 := lim_lb (lv b)
  have v1 := lv_lim (lv a)
  have v2 := lv_lim (lv b)
  have k1 : (lim (lv a)).length < (lim (lv b)).length → r = -1 := by
    intro h; rw [← hr, if_pos (lim_len_lt h)]
  have k2 : (lim (lv b)).length < (lim (lv a)).length → r = 1 := by
    intro h; have := lim_len_lt h; rw [← hr, if_neg (by omega), if_pos this]
  have k3 : lv (lim (lv a)) < lv (lim (lv b)) → r = -1 := by
    intro h; rw [v1, v2] at h; rw [← hr, if_pos h]
  have k4 : lv (lim (lv b)) < lv (lim (lv a)) → r = 1 := by
    intro h; rw [v1, v2] at h; rw [← hr, if_neg (by omega), if_pos h]
  have k5 : lim (lv a) = lim (lv b) → r = 0 := by
    intro h; have := lim_inj h; rw [← hr, if_neg (by omega), if_neg (by omega)]
  refine callsA_of hG hm Tryz.func157 (by kernel_rfl) ?_
  intro E hE lp hl
  cbv
  (apply E_callX hE (c_cut a ha (by omega)); (case hf => rfl); (case hc => (cbv <;> trivial)); (case hle => exact ⟨u2_sli, trivial⟩); intro x hx; cbv)
  (apply E_callX hE (c_cut b hb (by omega)); (case hf => rfl); (case hc => (cbv <;> trivial)); (case hle => exact ⟨u2_sli, trivial⟩); intro y hy; cbv)
  repeat' (first
    | (refine E_br hE (fun h => ?_) (fun h => ?_) <;> cbv)
    | (refine E_nm hE (fun v hv => ?_); cbv)
    | (refine E_nilS hE (fun b hb => ?_); cbv)
    | fail)
  case hK.hK.refine_1 => subst hE; simp only [NatCast.natCast, Int.ofNat_eq_natCast, realE, cmp_eql, cmp_neq, cmp_lss, cmp_leq, cmp_gtr, cmp_geq, intBinR, decide_eq_true_eq, decide_eq_false_iff_not, SI.val, SB.val, Num.eta, Iv.eta] at *; rw [k1 (by rw [← hx, ← hy]; omega)]
  case hK.hK.refine_2.refine_1 => subst hE; simp only [NatCast.natCast, Int.ofNat_eq_natCast, realE, cmp_eql, cmp_neq, cmp_lss, cmp_leq, cmp_gtr, cmp_geq, intBinR, decide_eq_true_eq, decide_eq_false_iff_not, SI.val, SB.val, Num.eta, Iv.eta] at *; rw [k2 (by rw [← hx, ← hy]; omega)]
  have hlen : x.length = y.length := by subst hE; simp only [NatCast.natCast, Int.ofNat_eq_natCast, realE, cmp_eql, cmp_neq, cmp_lss, cmp_leq, cmp_gtr, cmp_geq, intBinR, decide_eq_true_eq, decide_eq_false_iff_not, SI.val, SB.val, Num.eta, Iv.eta] at *; omega
  rw [← hx] at k1 k2 k3 k4 k5 hl1 l1
  rw [← hy] at k1 k2 k3 k4 k5 hl2 l2
  obtain ⟨m, em⟩ : ∃ m : Int → Nat, ∀ i, m i = (x.length - i).toNat := ⟨_, fun _ => rfl⟩
  obtain ⟨ok, eok⟩ : ∃ ok : Int → Prop, ∀ i, ok i ↔ 0 ≤ i ∧ i ≤ x.length ∧ x.drop (x.length - i).toNat = y.drop (x.length - i).toNat := ⟨_, fun _ => Iff.rfl⟩
  refine E_loop hE hG hm hl (fun i : Int => (⟨[(0, .sli .u32 x), (1, .sli .u32 y), (24, .int .i64 (.s (E.len x))), (25, .int .i64 (.s i))], []⟩ : St)) m ok ⟨0, (eok 0).2 ⟨by omega, by omega, ?_⟩, stLe rfl ?_⟩ ?_
  · rw [show ((x.length : Int) - 0).toNat = x.length by omega, List.drop_length, List.drop_eq_nil_of_le (by omega)]
  · (repeat' (first | exact t_nil | apply t_cons | exact u2_sli | exact u2_int | exact u2_bool | exact u2_ms | exact u2_ptr | exact (rfl : sle2 .s0 .s0)))
  intro i hok
  obtain ⟨h1, h2, h3⟩ := (eok i).1 hok
  have low : ∀ v : Int, v = x.length - 1 - i → i < x.length → x.getD v.toNat 0 < y.getD v.toNat 0 → -1 = r := by
    intro v hv hi h
    exact (k3 (cmp_step l1 l2 (k := v.toNat) hlen (by omega) (by rw [show v.toNat + 1 = ((x.length : Int) - i).toNat by omega]; exact h3) h)).symm
  have high : ∀ v : Int, v = x.length - 1 - i → i < x.length → y.getD v.toNat 0 < x.getD v.toNat 0 → 1 = r := by
    intro v hv hi h
    exact (k4 (cmp_step l2 l1 (k := v.toNat) hlen.symm (by omega) (by rw [show v.toNat + 1 = ((x.length : Int) - i).toNat by omega]; exact h3.symm) h)).symm
  have same : ∀ v : Int, v = x.length - 1 - i → i < x.length → ¬ y.getD v.toNat 0 < x.getD v.toNat 0 → ¬ x.getD v.toNat 0 < y.getD v.toNat 0 → x.drop (x.length - (i + 1)).toNat = y.drop (x.length - (i + 1)).toNat := by
    intro v hv hi h h'
    rw [show ((x.length : Int) - (i + 1)).toNat = v.toNat by omega]
    exact drop_step hlen (by omega) (by rw [show v.toNat + 1 = ((x.length : Int) - i).toNat by omega]; exact h3) (by omega)
  have done : ¬ i < x.length → 0 = r := by
    intro h
    rw [k5 (by rw [show ((x.length : Int) - i).toNat = 0 by omega] at h3; simpa using h3)]
  clear h3 k1 k2 k3 k4 k5
  cbv
  repeat' (first
    | (refine E_br hE (fun h => ?_) (fun h => ?_) <;> cbv)
    | (refine E_nm hE (fun v hv => ?_); cbv)
    | (refine E_nilS hE (fun b hb => ?_); cbv)
    | fail)
  all_goals (try refine ⟨E.bin .add .i64 i 1, ?_, ?_, stLe rfl ?_⟩)
  all_goals (try ((repeat' (first | exact t_nil | apply t_cons | exact u2_sli | exact u2_int | exact u2_bool | exact u2_ms | exact u2_ptr | exact (rfl : sle2 .s0 .s0))); done))
  all_goals (subst hE; simp only [NatCast.natCast, Int.ofNat_eq_natCast, realE, cmp_eql, cmp_neq, cmp_lss, cmp_leq, cmp_gtr, cmp_geq, intBinR, decide_eq_true_eq, decide_eq_false_iff_not, SI.val, SB.val, Num.eta, Iv.eta] at *)
  all_goals (try exact done ‹_›)
  all_goals (have hi : i < x.length := ‹_›; try rw [wi64_succ h1 hi (by omega)])
  all_goals (have hv : ∀ v w, w = i → v = IntKind.i64.wrap (IntKind.i64.wrap ((x.length : Int) - 1) - w) → v = x.length - 1 - i := by (intro v w h h'; rw [wi64, wi64] at h'; omega))
  all_goals (replace hv := hv _ _ ‹_ = i› ‹_›)
  all_goals (first | omega | (rw [em, em]; omega) | exact low _ hv hi ‹_› | exact high _ hv hi ‹_› | exact (eok _).2 ⟨by omega, by omega, same _ hv hi ‹_› ‹_›⟩)

end Go.Proofs.YtpadpcjdakfokaaGreatDoor.Ev

/- Contracts: limbs of their own, cut of their noughts. Printed by gen.py. -/
namespace Go.Proofs.YtpadpcjdakfokaaGreatDoor.Ev
open Go Go.Proofs
set_option linter.unusedVariables false
set_option linter.unusedSimpArgs false

attribute [local irreducible] Lb
theorem c_Trim (a : List Int) (ha : Lb a) (hb : a.length ≤ 268435456) : ∃ t : List Int, t = lim (lv a) ∧ CallsA Tryz.prog 155 [.sli .u32 a] (.sli .u32 t) := by
  refine ⟨_, rfl, ?_⟩
  generalize hr : lim (lv a) = r
  have hl' := lim_length_le' ha
  refine callsA_of hG hm Tryz.func155 (by kernel_rfl) ?_
  intro E hE lp hl
  cbv
  repeat' (first
    | (refine E_br hE (fun h => ?_) (fun h => ?_) <;> cbv)
    | (refine E_nm hE (fun v hv => ?_); cbv)
    | (refine E_nilS hE (fun b hb => ?_); cbv)
    | (apply E_callX hE (c_cut _ ha ?_); (case hf => rfl); (case hc => (cbv <;> trivial)); (case hle => (repeat' (first | exact u_nil | apply u_cons | apply u2_agg | exact u2_int | exact u1_int | exact u2_bool | exact u1_bool | exact u2_sli | exact u1_sli | exact u2_s0 | exact u1_s0))); all_goals (first | (intro t ht; cbv) | (omega)))
    | (apply E_callX hE (c_Clone _ ?_); (case hf => rfl); (case hc => (cbv <;> trivial)); (case hle => (repeat' (first | exact u_nil | apply u_cons | apply u2_agg | exact u2_int | exact u1_int | exact u2_bool | exact u1_bool | exact u2_sli | exact u1_sli | exact u2_s0 | exact u1_s0))); all_goals (first | (intro t ht; cbv) | ((subst_vars; omega))))
    | fail)
  subst_vars
  rfl

end Go.Proofs.YtpadpcjdakfokaaGreatDoor.Ev

/- Contracts: sums and differences of words of 32 bits. Printed by gen.py out of C22a.spec. -/
namespace Go.Proofs.YtpadpcjdakfokaaGreatDoor.Ev
open Go Go.Proofs
set_option linter.unusedVariables false
set_option linter.unusedSimpArgs false

theorem c_Add32 (x : Int) (y : Int) (c : Int) (hx : 0 ≤ x) (hx' : x < 4294967296) (hy : 0 ≤ y) (hy' : y < 4294967296) (c0 : 0 ≤ c) (c1 : c ≤ 1) : ∃ t : Int × Int, t = ((x + y + c) % 4294967296, (x + y + c) / 4294967296) ∧ CallsA Tryz.prog 193 [.int .u32 (.s x), .int .u32 (.s y), .int .u32 (.s c)] (.tup [.int .u32 (.s t.1), .int .u32 (.s t.2)]) := by
  refine ⟨_, rfl, ?_⟩
  generalize hr : ((x + y + c) % 4294967296, (x + y + c) / 4294967296) = r
  refine callsA_of hG hm Tryz.func193 (by kernel_rfl) ?_
  intro E hE lp hl
  cbv
  repeat' (first
    | (refine E_br hE (fun h => ?_) (fun h => ?_) <;> cbv)
    | (refine E_nm hE (fun v hv => ?_); cbv)
    | fail)
  all_goals (subst hE; subst hr)
  all_goals (try simp only [realE, cmp_eql, cmp_neq, cmp_lss, cmp_leq, cmp_gtr, cmp_geq, intBinR, decide_eq_true_eq, decide_eq_false_iff_not, SI.val, SB.val, Num.eta, Iv.eta] at *)
  all_goals (simp only [shr32, wu64, wu32] at *)
  all_goals (refine ⟨?_, ?_, trivial⟩ <;> omega)

theorem c_Sub32 (x : Int) (y : Int) (c : Int) (hx : 0 ≤ x) (hx' : x < 4294967296) (hy : 0 ≤ y) (hy' : y < 4294967296) (c0 : 0 ≤ c) (c1 : c ≤ 1) : ∃ t : Int × Int, t = ((x - y - c) % 4294967296, (if x < y + c then 1 else 0 : Int)) ∧ CallsA Tryz.prog 211 [.int .u32 (.s x), .int .u32 (.s y), .int .u32 (.s c)] (.tup [.int .u32 (.s t.1), .int .u32 (.s t.2)]) := by
  refine ⟨_, rfl, ?_⟩
  generalize hr : ((x - y - c) % 4294967296, (if x < y + c then 1 else 0 : Int)) = r
  refine callsA_of hG hm Tryz.func211 (by kernel_rfl) ?_
  intro E hE lp hl
  cbv
  repeat' (first
    | (refine E_br hE (fun h => ?_) (fun h => ?_) <;> cbv)
    | (refine E_nm hE (fun v hv => ?_); cbv)
    | fail)
  all_goals (subst hE; subst hr)
  all_goals (try simp only [realE, cmp_eql, cmp_neq, cmp_lss, cmp_leq, cmp_gtr, cmp_geq, intBinR, decide_eq_true_eq, decide_eq_false_iff_not, SI.val, SB.val, Num.eta, Iv.eta] at *)
  rename_i d hd
  rw [shr31] at hv
  have e : d = (x - y - c) % 4294967296 := by rw [hd, wu32, wu32]; omega
  refine ⟨e, ?_, trivial⟩
  rw [hv]
  exact borrow32 hx hx' hy hy' (by omega) (by omega) (b := c) (by omega) e

end Go.Proofs.YtpadpcjdakfokaaGreatDoor.Ev

/- Contracts: the sum of limbs. Printed by gen.py. -/
namespace Go.Proofs.YtpadpcjdakfokaaGreatDoor.Ev
open Go Go.Proofs
set_option linter.unusedVariables false
set_option linter.unusedSimpArgs false


attribute [local irreducible] Lb
theorem sub_all {l : List Int} {n : Int} (h : n = l.length) : (l.drop (0 : Int).toNat).take n.toNat = l := by subst h; simp

def addI (E : Env) (x y : List Int) : Int × Int × List Int → St := fun p => ⟨[(0, .sli .u32 x), (1, .sli .u32 y), (5, .ms 0 1 (.l 0) (.s (E.bin .add .i64 (E.len x) 1))), (6, .int .u32 (.s p.2.1)), (21, .int .i64 (.s (E.len x))), (22, .int .i64 (.s p.1))], [.ints true .u32 p.2.2]⟩

theorem c_natAdd (a b : List Int) (ha : Lb a) (hb : Lb b) (hla : a.length < 268435456) (hlb : b.length < 268435456) : ∃ t : List Int, t = lim (lv a + lv b) ∧ CallsA Tryz.prog 132 [.sli .u32 a, .sli .u32 b] (.sli .u32 t) := by
  refine ⟨_, rfl, ?_⟩
  generalize hr : lim (lv a + lv b) = r
  refine callsA_of hG hm Tryz.func132 (by kernel_rfl) ?_
  intro E hE lp hl
  cbv
  refine E_br hE (fun h => ?_) (fun h => ?_)
  · have hsum : lv b + lv a = lv a + lv b := Nat.add_comm _ _
    have hxy : a.length ≤ b.length := by subst hE; simp only [NatCast.natCast, Int.ofNat_eq_natCast, realE, cmp_eql, cmp_neq, cmp_lss, cmp_leq, cmp_gtr, cmp_geq, intBinR, decide_eq_true_eq, decide_eq_false_iff_not, SI.val, SB.val, Num.eta, Iv.eta] at *; omega

    have h32 : IntKind.i64.wrap ((b.length : Int) + 1) = b.length + 1 := wi64_id (by omega) (by omega)
    cbv
    repeat' (first
    | (refine E_br hE (fun h => ?_) (fun h => ?_) <;> cbv)
    | (refine E_nm hE (fun v hv => ?_); cbv)
    | (refine E_nilS hE (fun b hb => ?_); cbv)
    | fail)
    all_goals (try (exfalso; subst hE; simp only [NatCast.natCast, Int.ofNat_eq_natCast, realE, cmp_eql, cmp_neq, cmp_lss, cmp_leq, cmp_gtr, cmp_geq, intBinR, decide_eq_true_eq, decide_eq_false_iff_not, SI.val, SB.val, Num.eta, Iv.eta] at *; rw [h32] at *; omega))
    obtain ⟨m, em⟩ : ∃ m : Int × Int × List Int → Nat, ∀ p, m p = (b.length - p.1).toNat := ⟨_, fun _ => rfl⟩
    obtain ⟨ok, eok⟩ : ∃ ok : Int × Int × List Int → Prop, ∀ p, ok p ↔ 0 ≤ p.1 ∧ p.1 ≤ b.length ∧ AddInv b a p.2.2 p.1.toNat p.2.1 := ⟨_, fun _ => Iff.rfl⟩
    refine E_loop hE hG hm hl (addI E b a) m ok ⟨(0, 0, E.rep (E.bin .add .i64 (E.len b) 1)), (eok _).2 ?_, stLe rfl ?_⟩ ?_
    · refine ⟨by show (0 : Int) ≤ 0; omega, by show (0 : Int) ≤ b.length; omega, ?_⟩
      have := AddInv.start b a
      subst hE; simp only [NatCast.natCast, Int.ofNat_eq_natCast, realE, cmp_eql, cmp_neq, cmp_lss, cmp_leq, cmp_gtr, cmp_geq, intBinR, decide_eq_true_eq, decide_eq_false_iff_not, SI.val, SB.val, Num.eta, Iv.eta] at *; rw [h32]
      exact this
    · (repeat' (first | exact t_nil | apply t_cons | exact u2_sli | exact u2_int | exact u2_bool | exact u2_ms | exact u2_ptr | exact (rfl : sle2 .s0 .s0)))
    rintro ⟨i, c, out⟩ hok
    obtain ⟨h1, h2, inv⟩ := (eok _).1 hok
    dsimp only at h1 h2 inv
    have hgx := hb.getD i.toNat
    have hgy := ha.getD i.toNat
    have hc0 := inv.c0
    have hc1 := inv.c1
    have hol := inv.len
    have next : ∀ (j k c' z : Int) (v : Int × Int), i < b.length → k = i → j = IntKind.i64.wrap (i + 1) → (z = a.getD k.toNat 0 ∨ (¬ k < a.length ∧ z = 0)) →
        v = ((b.getD k.toNat 0 + z + c) % 4294967296, (b.getD k.toNat 0 + z + c) / 4294967296) → c' = v.2 →
        m (j, c', out.set k.toNat v.1) < m (i, c, out) ∧ ok (j, c', out.set k.toNat v.1) := by
      intro j k c' z v h hk hj hz hv hc
      subst hk
      have hz : z = a.getD k.toNat 0 := by
        rcases hz with hz | ⟨hz, h0⟩
        · exact hz
        · rw [h0, getD_past (by omega)]
      have hj : j = k + 1 := by rw [hj, wi64_id (by omega) (by omega)]
      refine ⟨by rw [em, em]; show ((b.length : Int) - j).toNat < ((b.length : Int) - k).toNat; omega, (eok _).2 ⟨by show 0 ≤ j; omega, by show j ≤ (b.length : Int); omega, ?_⟩⟩
      have := inv.step hb ha (by omega)
      rw [← hz] at this
      rw [hc, hv, hj]
      show AddInv b a (out.set k.toNat ((b.getD k.toNat 0 + z + c) % 4294967296)) (k + 1).toNat ((b.getD k.toNat 0 + z + c) / 4294967296)
      rw [show (k + 1).toNat = k.toNat + 1 by omega]
      exact this
    have fin : ¬ i < b.length → Lb (out.set (b.length : Int).toNat c) ∧ lim (lv (out.set (b.length : Int).toNat c)) = r := by
      intro h
      rw [show i.toNat = b.length by omega] at inv
      obtain ⟨k1, k2⟩ := inv.stop hxy
      rw [Int.toNat_natCast]
      exact ⟨k1, by rw [k2, hsum, hr]⟩
    clear inv hok hr
    cbv
    repeat' (first
    | (refine E_br hE (fun h => ?_) (fun h => ?_) <;> cbv)
    | (refine E_nm hE (fun v hv => ?_); cbv)
    | (refine E_nilS hE (fun b hb => ?_); cbv)
    | (apply E_callX hE (c_Add32 _ _ _ ?_ ?_ ?_ ?_ ?_ ?_); (case hf => rfl); (case hc => (cbv <;> trivial)); (case hle => (repeat' (first | exact u_nil | apply u_cons | apply u2_agg | exact u2_int | exact u1_int | exact u2_bool | exact u1_bool | exact u2_sli | exact u1_sli | exact u2_s0 | exact u1_s0))); all_goals (first | (intro t ht; cbv) | (subst hE; (try simp only [NatCast.natCast, Int.ofNat_eq_natCast, realE, cmp_eql, cmp_neq, cmp_lss, cmp_leq, cmp_gtr, cmp_geq, intBinR, decide_eq_true_eq, decide_eq_false_iff_not, SI.val, SB.val, Num.eta, Iv.eta] at *); subst_vars; (first | assumption | omega))))
    | (apply E_callX hE (c_cut _ ?_ ?_); (case hf => rfl); (case hc => (cbv <;> trivial)); (case hle => (repeat' (first | exact u_nil | apply u_cons | apply u2_agg | exact u2_int | exact u1_int | exact u2_bool | exact u1_bool | exact u2_sli | exact u1_sli | exact u2_s0 | exact u1_s0))); all_goals (first | (intro t ht; cbv) | ((subst hE; simp only [NatCast.natCast, Int.ofNat_eq_natCast, realE, cmp_eql, cmp_neq, cmp_lss, cmp_leq, cmp_gtr, cmp_geq, intBinR, decide_eq_true_eq, decide_eq_false_iff_not, SI.val, SB.val, Num.eta, Iv.eta] at *; rw [h32] at *; rw [sub_all (by rw [List.length_set]; omega)]; first | exact (fin ‹_›).1 | (rw [List.length_set]; omega)))))
    | fail)
    all_goals (try refine ⟨(E.bin .add .i64 i 1, v, E.set out _ t.1), ?_, ?_, stLe rfl ?_⟩)
    all_goals (try ((repeat' (first | exact t_nil | apply t_cons | exact u2_sli | exact u2_int | exact u2_bool | exact u2_ms | exact u2_ptr | exact (rfl : sle2 .s0 .s0))); done))
    all_goals (subst hE; simp only [NatCast.natCast, Int.ofNat_eq_natCast, realE, cmp_eql, cmp_neq, cmp_lss, cmp_leq, cmp_gtr, cmp_geq, intBinR, decide_eq_true_eq, decide_eq_false_iff_not, SI.val, SB.val, Num.eta, Iv.eta] at *)
    all_goals (first | exact (next _ _ _ _ _ ‹_› ‹_› rfl (by first | exact .inl ‹_› | exact .inr ⟨‹_›, rfl⟩) ‹t = _› ‹_›).1 | exact (next _ _ _ _ _ ‹_› ‹_› rfl (by first | exact .inl ‹_› | exact .inr ⟨‹_›, rfl⟩) ‹t = _› ‹_›).2 | (exfalso; clear next fin; rw [h32] at *; omega) | skip)
    rw [‹t = _›, h32, sub_all (by rw [List.length_set]; omega), (fin ‹_›).2]
  · have hsum : lv a + lv b = lv a + lv b := rfl
    have hxy : b.length ≤ a.length := by subst hE; simp only [NatCast.natCast, Int.ofNat_eq_natCast, realE, cmp_eql, cmp_neq, cmp_lss, cmp_leq, cmp_gtr, cmp_geq, intBinR, decide_eq_true_eq, decide_eq_false_iff_not, SI.val, SB.val, Num.eta, Iv.eta] at *; omega

    have h32 : IntKind.i64.wrap ((a.length : Int) + 1) = a.length + 1 := wi64_id (by omega) (by omega)
    cbv
    repeat' (first
    | (refine E_br hE (fun h => ?_) (fun h => ?_) <;> cbv)
    | (refine E_nm hE (fun v hv => ?_); cbv)
    | (refine E_nilS hE (fun b hb => ?_); cbv)
    | fail)
    all_goals (try (exfalso; subst hE; simp only [NatCast.natCast, Int.ofNat_eq_natCast, realE, cmp_eql, cmp_neq, cmp_lss, cmp_leq, cmp_gtr, cmp_geq, intBinR, decide_eq_true_eq, decide_eq_false_iff_not, SI.val, SB.val, Num.eta, Iv.eta] at *; rw [h32] at *; omega))
    obtain ⟨m, em⟩ : ∃ m : Int × Int × List Int → Nat, ∀ p, m p = (a.length - p.1).toNat := ⟨_, fun _ => rfl⟩
    obtain ⟨ok, eok⟩ : ∃ ok : Int × Int × List Int → Prop, ∀ p, ok p ↔ 0 ≤ p.1 ∧ p.1 ≤ a.length ∧ AddInv a b p.2.2 p.1.toNat p.2.1 := ⟨_, fun _ => Iff.rfl⟩
    refine E_loop hE hG hm hl (addI E a b) m ok ⟨(0, 0, E.rep (E.bin .add .i64 (E.len a) 1)), (eok _).2 ?_, stLe rfl ?_⟩ ?_
    · refine ⟨by show (0 : Int) ≤ 0; omega, by show (0 : Int) ≤ a.length; omega, ?_⟩
      have := AddInv.start a b
      subst hE; simp only [NatCast.natCast, Int.ofNat_eq_natCast, realE, cmp_eql, cmp_neq, cmp_lss, cmp_leq, cmp_gtr, cmp_geq, intBinR, decide_eq_true_eq, decide_eq_false_iff_not, SI.val, SB.val, Num.eta, Iv.eta] at *; rw [h32]
      exact this
    · (repeat' (first | exact t_nil | apply t_cons | exact u2_sli | exact u2_int | exact u2_bool | exact u2_ms | exact u2_ptr | exact (rfl : sle2 .s0 .s0)))
    rintro ⟨i, c, out⟩ hok
    obtain ⟨h1, h2, inv⟩ := (eok _).1 hok
    dsimp only at h1 h2 inv
    have hgx := ha.getD i.toNat
    have hgy := hb.getD i.toNat
    have hc0 := inv.c0
    have hc1 := inv.c1
    have hol := inv.len
    have next : ∀ (j k c' z : Int) (v : Int × Int), i < a.length → k = i → j = IntKind.i64.wrap (i + 1) → (z = b.getD k.toNat 0 ∨ (¬ k < b.length ∧ z = 0)) →
        v = ((a.getD k.toNat 0 + z + c) % 4294967296, (a.getD k.toNat 0 + z + c) / 4294967296) → c' = v.2 →
        m (j, c', out.set k.toNat v.1) < m (i, c, out) ∧ ok (j, c', out.set k.toNat v.1) := by
      intro j k c' z v h hk hj hz hv hc
      subst hk
      have hz : z = b.getD k.toNat 0 := by
        rcases hz with hz | ⟨hz, h0⟩
        · exact hz
        · rw [h0, getD_past (by omega)]
      have hj : j = k + 1 := by rw [hj, wi64_id (by omega) (by omega)]
      refine ⟨by rw [em, em]; show ((a.length : Int) - j).toNat < ((a.length : Int) - k).toNat; omega, (eok _).2 ⟨by show 0 ≤ j; omega, by show j ≤ (a.length : Int); omega, ?_⟩⟩
      have := inv.step ha hb (by omega)
      rw [← hz] at this
      rw [hc, hv, hj]
      show AddInv a b (out.set k.toNat ((a.getD k.toNat 0 + z + c) % 4294967296)) (k + 1).toNat ((a.getD k.toNat 0 + z + c) / 4294967296)
      rw [show (k + 1).toNat = k.toNat + 1 by omega]
      exact this
    have fin : ¬ i < a.length → Lb (out.set (a.length : Int).toNat c) ∧ lim (lv (out.set (a.length : Int).toNat c)) = r := by
      intro h
      rw [show i.toNat = a.length by omega] at inv
      obtain ⟨k1, k2⟩ := inv.stop hxy
      rw [Int.toNat_natCast]
      exact ⟨k1, by rw [k2, hsum, hr]⟩
    clear inv hok hr
    cbv
    repeat' (first
    | (refine E_br hE (fun h => ?_) (fun h => ?_) <;> cbv)
    | (refine E_nm hE (fun v hv => ?_); cbv)
    | (refine E_nilS hE (fun b hb => ?_); cbv)
    | (apply E_callX hE (c_Add32 _ _ _ ?_ ?_ ?_ ?_ ?_ ?_); (case hf => rfl); (case hc => (cbv <;> trivial)); (case hle => (repeat' (first | exact u_nil | apply u_cons | apply u2_agg | exact u2_int | exact u1_int | exact u2_bool | exact u1_bool | exact u2_sli | exact u1_sli | exact u2_s0 | exact u1_s0))); all_goals (first | (intro t ht; cbv) | (subst hE; (try simp only [NatCast.natCast, Int.ofNat_eq_natCast, realE, cmp_eql, cmp_neq, cmp_lss, cmp_leq, cmp_gtr, cmp_geq, intBinR, decide_eq_true_eq, decide_eq_false_iff_not, SI.val, SB.val, Num.eta, Iv.eta] at *); subst_vars; (first | assumption | omega))))
    | (apply E_callX hE (c_cut _ ?_ ?_); (case hf => rfl); (case hc => (cbv <;> trivial)); (case hle => (repeat' (first | exact u_nil | apply u_cons | apply u2_agg | exact u2_int | exact u1_int | exact u2_bool | exact u1_bool | exact u2_sli | exact u1_sli | exact u2_s0 | exact u1_s0))); all_goals (first | (intro t ht; cbv) | ((subst hE; simp only [NatCast.natCast, Int.ofNat_eq_natCast, realE, cmp_eql, cmp_neq, cmp_lss, cmp_leq, cmp_gtr, cmp_geq, intBinR, decide_eq_true_eq, decide_eq_false_iff_not, SI.val, SB.val, Num.eta, Iv.eta] at *; rw [h32] at *; rw [sub_all (by rw [List.length_set]; omega)]; first | exact (fin ‹_›).1 | (rw [List.length_set]; omega)))))
    | fail)
    all_goals (try refine ⟨(E.bin .add .i64 i 1, v, E.set out _ t.1), ?_, ?_, stLe rfl ?_⟩)
    all_goals (try ((repeat' (first | exact t_nil | apply t_cons | exact u2_sli | exact u2_int | exact u2_bool | exact u2_ms | exact u2_ptr | exact (rfl : sle2 .s0 .s0))); done))
    all_goals (subst hE; simp only [NatCast.natCast, Int.ofNat_eq_natCast, realE, cmp_eql, cmp_neq, cmp_lss, cmp_leq, cmp_gtr, cmp_geq, intBinR, decide_eq_true_eq, decide_eq_false_iff_not, SI.val, SB.val, Num.eta, Iv.eta] at *)
    all_goals (first | exact (next _ _ _ _ _ ‹_› ‹_› rfl (by first | exact .inl ‹_› | exact .inr ⟨‹_›, rfl⟩) ‹t = _› ‹_›).1 | exact (next _ _ _ _ _ ‹_› ‹_› rfl (by first | exact .inl ‹_› | exact .inr ⟨‹_›, rfl⟩) ‹t = _› ‹_›).2 | (exfalso; clear next fin; rw [h32] at *; omega) | skip)
    rw [‹t = _›, h32, sub_all (by rw [List.length_set]; omega), (fin ‹_›).2]

end Go.Proofs.YtpadpcjdakfokaaGreatDoor.Ev

/- Contracts: the product of limbs. Printed by gen.py. -/
namespace Go.Proofs.YtpadpcjdakfokaaGreatDoor.Ev
open Go Go.Proofs
set_option linter.unusedVariables false
set_option linter.unusedSimpArgs false


attribute [local irreducible] Lb
def mulO (E : Env) (a b : List Int) : Int × List Int → St := fun p => ⟨[(0, .sli .u32 a), (1, .sli .u32 b), (5, .ms 0 1 (.l 0) (.s (E.bin .add .i64 (E.len a) (E.len b)))), (18, .sli .u32 a), (19, .int .i64 (.s (E.len a))), (20, .int .i64 (.s p.1))], [.ints true .u32 p.2]⟩
def mulI (E : Env) (a b : List Int) (i i' x : Int) : Int × Int × List Int → St := fun p => ⟨[(0, .sli .u32 a), (1, .sli .u32 b), (5, .ms 0 1 (.l 0) (.s (E.bin .add .i64 (E.len a) (E.len b)))), (18, .sli .u32 a), (19, .int .i64 (.s (E.len a))), (20, .int .i64 (.s i)),
   (6, .int .i64 (.s i')), (7, .int .u32 (.s x)), (8, .int .u64 (.s p.2.1)), (25, .sli .u32 b), (26, .int .i64 (.s (E.len b))), (27, .int .i64 (.s p.1))], [.ints true .u32 p.2.2]⟩
set_option maxHeartbeats 1000000 in
theorem c_natMul (a b : List Int) (ha : Lb a) (hb : Lb b) (hla : a.length < 134217728) (hlb : b.length < 134217728) : ∃ t : List Int, t = lim (lv a * lv b) ∧ CallsA Tryz.prog 156 [.sli .u32 a, .sli .u32 b] (.sli .u32 t) := by
  refine ⟨_, rfl, ?_⟩
  generalize hr : lim (lv a * lv b) = r
  have h32 : IntKind.i64.wrap ((a.length : Int) + b.length) = a.length + b.length := wi64_id (by omega) (by omega)
  obtain ⟨m, em⟩ : ∃ m : Int × List Int → Nat, ∀ p, m p = (a.length - p.1).toNat := ⟨_, fun _ => rfl⟩
  obtain ⟨ok, eok⟩ : ∃ ok : Int × List Int → Prop, ∀ p, ok p ↔ 0 ≤ p.1 ∧ p.1 ≤ a.length ∧ MulInv a b p.2 p.1.toNat 0 0 := ⟨_, fun _ => Iff.rfl⟩
  obtain ⟨m2, em2⟩ : ∃ m : Int × Int × List Int → Nat, ∀ p, m p = (b.length - p.1).toNat := ⟨_, fun _ => rfl⟩
  obtain ⟨ok2, eok2⟩ : ∃ ok : Int → Int × Int × List Int → Prop, ∀ i p, ok i p ↔ 0 ≤ p.1 ∧ p.1 ≤ b.length ∧ MulInv a b p.2.2 i.toNat p.1.toNat p.2.1 := ⟨_, fun _ _ => Iff.rfl⟩
  refine callsA_of hG hm Tryz.func156 (by kernel_rfl) ?_
  intro E hE lp hl
  cbv
  repeat' (first
    | (refine E_br hE (fun h => ?_) (fun h => ?_) <;> cbv)
    | (refine E_nm hE (fun v hv => ?_); cbv)
    | (refine E_nilS hE (fun b hb => ?_); cbv)
    | fail)
  all_goals (try (exfalso; subst hE; simp only [NatCast.natCast, Int.ofNat_eq_natCast, realE, cmp_eql, cmp_neq, cmp_lss, cmp_leq, cmp_gtr, cmp_geq, intBinR, decide_eq_true_eq, decide_eq_false_iff_not, SI.val, SB.val, Num.eta, Iv.eta] at *; rw [h32] at *; omega))
  refine E_loop hE hG hm hl (mulO E a b) m ok ⟨(0, E.rep (E.bin .add .i64 (E.len a) (E.len b))), (eok _).2 ?_, stLe rfl ?_⟩ ?_
  · refine ⟨by show (0 : Int) ≤ 0; omega, by show (0 : Int) ≤ a.length; omega, ?_⟩
    have := MulInv.start a b
    subst hE; simp only [NatCast.natCast, Int.ofNat_eq_natCast, realE, cmp_eql, cmp_neq, cmp_lss, cmp_leq, cmp_gtr, cmp_geq, intBinR, decide_eq_true_eq, decide_eq_false_iff_not, SI.val, SB.val, Num.eta, Iv.eta] at *; rw [h32]
    exact this
  · (repeat' (first | exact t_nil | apply t_cons | exact u2_sli | exact u2_int | exact u2_bool | exact u2_ms | exact u2_ptr | exact (rfl : sle2 .s0 .s0)))
  rintro ⟨i, out⟩ hok
  obtain ⟨h1, h2, inv⟩ := (eok _).1 hok
  dsimp only at h1 h2 inv
  simp only [NatCast.natCast, Int.ofNat_eq_natCast] at h2 em eok em2 eok2
  have hol := inv.len
  have fin : ¬ i < a.length → Lb out ∧ lim (lv out) = r := by
    intro h
    rw [show i.toNat = a.length by omega] at inv
    exact ⟨inv.lb, by rw [inv.stop, hr]⟩
  clear hr hok
  cbv
  repeat' (first
    | (refine E_br hE (fun h => ?_) (fun h => ?_) <;> cbv)
    | (refine E_nm hE (fun v hv => ?_); cbv)
    | (refine E_nilS hE (fun b hb => ?_); cbv)
    | (apply E_callX hE (c_cut _ ?_ ?_); (case hf => rfl); (case hc => (cbv <;> trivial)); (case hle => exact u_up); all_goals (first | (intro t ht; cbv) | ((subst hE; simp only [NatCast.natCast, Int.ofNat_eq_natCast, realE, cmp_eql, cmp_neq, cmp_lss, cmp_leq, cmp_gtr, cmp_geq, intBinR, decide_eq_true_eq, decide_eq_false_iff_not, SI.val, SB.val, Num.eta, Iv.eta] at *; rw [h32] at *; rw [sub_all (by omega)]; first | exact (fin ‹_›).1 | omega))))
    | fail)
  case hK => subst hE; simp only [NatCast.natCast, Int.ofNat_eq_natCast, realE, cmp_eql, cmp_neq, cmp_lss, cmp_leq, cmp_gtr, cmp_geq, intBinR, decide_eq_true_eq, decide_eq_false_iff_not, SI.val, SB.val, Num.eta, Iv.eta] at *; rw [‹t = _›, h32, sub_all (by omega), (fin ‹_›).2]
  all_goals (try (exfalso; subst hE; simp only [NatCast.natCast, Int.ofNat_eq_natCast, realE, cmp_eql, cmp_neq, cmp_lss, cmp_leq, cmp_gtr, cmp_geq, intBinR, decide_eq_true_eq, decide_eq_false_iff_not, SI.val, SB.val, Num.eta, Iv.eta] at *; clear fin; rw [h32] at *; omega))
  rename_i i' ei
  have ex := hv
  clear hv
  have hilt : i < a.length := by subst hE; exact lss_t ‹_›
  refine E_loop hE hG hm hl (mulI E a b i i' v) m2 (ok2 i) ⟨(0, 0, out), (eok2 _ _).2 ⟨by show (0 : Int) ≤ 0; omega, by show (0 : Int) ≤ b.length; omega, inv⟩, stLe rfl ?_⟩ ?_
  · (repeat' (first | exact t_nil | apply t_cons | exact u2_sli | exact u2_int | exact u2_bool | exact u2_ms | exact u2_ptr | exact (rfl : sle2 .s0 .s0)))
  rintro ⟨k, c, out⟩ hok
  have h3 : 0 ≤ k := ((eok2 _ _).1 hok).1
  have h4 : k ≤ b.length := ((eok2 _ _).1 hok).2.1
  have inv2 : MulInv a b out i.toNat k.toNat c := ((eok2 _ _).1 hok).2.2
  have hol2 := inv2.len
  clear inv hol fin
  cbv
  repeat' (first
    | (refine E_br hE (fun h => ?_) (fun h => ?_) <;> cbv)
    | (refine E_nm hE (fun v hv => ?_); cbv)
    | (refine E_nilS hE (fun b hb => ?_); cbv)
    | fail)
  all_goals (try refine ⟨(E.bin .add .i64 k 1, v, E.set out (E.bin .add .i64 i' _) (E.conv .u32 _)), ?_, ?_, stLe rfl ?_⟩)
  all_goals (try refine ⟨(E.bin .add .i64 i 1, E.set out (E.bin .add .i64 i' (E.len b)) (E.conv .u32 c)), ?_, ?_, stLe rfl ?_⟩)
  all_goals (try ((repeat' (first | exact t_nil | apply t_cons | exact u2_sli | exact u2_int | exact u2_bool | exact u2_ms | exact u2_ptr | exact (rfl : sle2 .s0 .s0))); done))
  all_goals (subst hE)
  all_goals (try (first | (rw [em2, em2]; exact (mul_next ha hb hla hlb h1 hilt h3 (lss_t ‹_›) inv2 ei ‹_› ex ‹_› ‹_› ‹_› rfl).2.2.1) | (rw [eok2]; have q := mul_next ha hb hla hlb h1 hilt h3 (lss_t ‹_›) inv2 ei ‹_› ex ‹_› ‹_› ‹_› rfl; exact ⟨q.1, q.2.1, q.2.2.2⟩) | (rw [em, em]; exact (mul_exit hla hlb h1 hilt h4 (lss_f ‹_›) inv2 ei rfl).2.2.1) | (rw [eok]; have q := mul_exit hla hlb h1 hilt h4 (lss_f ‹_›) inv2 ei rfl; exact ⟨q.1, q.2.1, q.2.2.2⟩)))
  all_goals (clear inv2 hok eok eok2 em em2; simp only [NatCast.natCast, Int.ofNat_eq_natCast, realE, cmp_eql, cmp_neq, cmp_lss, cmp_leq, cmp_gtr, cmp_geq, intBinR, decide_eq_true_eq, decide_eq_false_iff_not, SI.val, SB.val, Num.eta, Iv.eta] at *; (try rw [h32] at *); clear h32; (try simp only [wi64] at *); omega)

end Go.Proofs.YtpadpcjdakfokaaGreatDoor.Ev

/- Contracts: whole numbers of any length. Printed by gen.py. -/
namespace Go.Proofs.YtpadpcjdakfokaaGreatDoor.Ev
open Go Go.Proofs
set_option linter.unusedVariables false
set_option linter.unusedSimpArgs false

attribute [local irreducible] Lb
theorem mulLen {a b : List Int} (ha : Lb a) (hb : Lb b) : (lim (lv a * lv b)).length ≤ a.length + b.length :=
  lim_length_le (by rw [Nat.pow_add]; exact Nat.mul_lt_mul'' (lv_lt ha) (lv_lt hb))
theorem limp (n : Nat) : 0 < (lim n).length ↔ n ≠ 0 := by
  constructor
  · intro h e; rw [e] at h; exact absurd h (by decide)
  · intro h
    rcases Nat.eq_zero_or_pos (lim n).length with k | k
    · exact absurd (lim_eq_nil.1 (List.length_eq_zero_iff.1 k)) h
    · exact k
theorem c_wMake (neg : Bool) (m : List Int) (hm_ : Lb m) (hl : m.length ≤ 268435456) : ∃ t : Bool × List Int, t = (neg && decide (lv m ≠ 0), lim (lv m)) ∧ CallsA Tryz.prog 73 [.bool (.s neg), .sli .u32 m] (.agg [.bool (.s t.1), .sli .u32 t.2]) := by
  refine ⟨_, rfl, ?_⟩
  generalize hr : ((neg && decide (lv m ≠ 0), lim (lv m)) : Bool × List Int) = r
  have pos := limp (lv m)
  obtain ⟨x, ex⟩ : ∃ x, lim (lv m) = x := ⟨_, rfl⟩
  rw [ex] at hr pos
  have yes : neg = true → ∀ b : Bool, b = decide ((0 : Int) < (x.length : Int)) → (b, x) = r := by
    intro h b hb
    rw [← hr, h, hb]
    have : decide ((0 : Int) < (x.length : Int)) = decide (lv m ≠ 0) := by
      by_cases z : lv m = 0
      · rw [decide_eq_false (by have := fun q => pos.1 q; omega), decide_eq_false (by simp [z])]
      · rw [decide_eq_true (by have := pos.2 z; omega), decide_eq_true z]
    rw [this]; rfl
  have no : neg = false → (false, x) = r := by intro h; rw [← hr, h]; rfl
  clear hr pos
  refine callsA_of hG hm Tryz.func73 (by kernel_rfl) ?_
  intro E hE lp hl'
  cbv
  (first | (apply E_pcallX hE (c_Trim _ hm_ ?_); (case hm => rfl); (case hle => (repeat' (first | exact u_nil | apply u_cons | apply u2_agg | exact u2_int | exact u1_int | exact u2_bool | exact u1_bool | exact u2_sli | exact u1_sli | exact u2_s0 | exact u1_s0))); all_goals (first | (intro y hy; cbv) | (exact hl))) | (apply E_callX hE (c_Trim _ hm_ ?_); (case hf => rfl); (case hc => (cbv <;> trivial)); (case hle => (repeat' (first | exact u_nil | apply u_cons | apply u2_agg | exact u2_int | exact u1_int | exact u2_bool | exact u1_bool | exact u2_sli | exact u1_sli | exact u2_s0 | exact u1_s0))); all_goals (first | (intro y hy; cbv) | (exact hl))))
  have Y : y = x := hy.trans ex
  rw [Y]
  clear hy Y
  refine E_br hE (fun g => ?_) (fun g => ?_) <;> cbv
  · rw [← yes g (E.cmp .gtr (E.len x) 0) (by subst hE; rfl)]; exact ⟨rfl, rfl, trivial⟩
  · rw [← no g]; exact ⟨rfl, rfl, trivial⟩

theorem c_wMul2 (na : Bool) (a : List Int) (nb : Bool) (b : List Int) (ha : Lb a) (hb : Lb b) (hla : a.length < 60000000) (hlb : b.length < 60000000) :
    ∃ t : Bool × List Int, t = ((na != nb) && decide (lv a * lv b ≠ 0), lim (lv a * lv b)) ∧ CallsA Tryz.prog 74 [.slc 2 (.l 2) (fun i => getRow [[.bool (.s na), .sli .u32 a], [.bool (.s nb), .sli .u32 b]] (Int.ofNat i))] (.agg [.bool (.s t.1), .sli .u32 t.2]) := by
  refine ⟨_, rfl, ?_⟩
  generalize hr : (((na != nb) && decide (lv a * lv b ≠ 0), lim (lv a * lv b)) : Bool × List Int) = r
  have l1 : Lb [(1 : Int)] := Lb.cons (by decide) (by decide) Lb.nil
  have m1 : ∀ u, u = lim (lv [(1 : Int)] * lv a) → Lb u ∧ u.length < 134217728 ∧ lv u = lv a := by
    intro u hu
    have e : lv [(1 : Int)] * lv a = lv a := by show 1 * lv a = lv a; omega
    rw [e] at hu
    have l := lim_length_le' ha
    rw [hu]; exact ⟨lim_lb _, by omega, lv_lim _⟩
  have m2 : ∀ u v, lv u = lv a → v = lim (lv u * lv b) → Lb v ∧ v.length ≤ 268435456 ∧ lv v = lv a * lv b := by
    intro u v hu hv
    rw [hu] at hv
    have l := mulLen ha hb
    rw [hv]; exact ⟨lim_lb _, by omega, lv_lim _⟩
  have fin : ∀ v (t : Bool × List Int) (n : Bool), lv v = lv a * lv b → n = (na != nb) → t = (n && decide (lv v ≠ 0), lim (lv v)) → t = r := by
    intro v t n h1 h2 h3; rw [h3, h1, h2, hr]
  clear hr
  refine callsA_of hG hm Tryz.func74 (by kernel_rfl) ?_
  intro E hE lp hl'
  have es : E.sub [1] 0 1 = [1] := by subst hE; rfl
  cbv
  refine E_frz hE hl' (d := 4) rfl rfl rfl trivial ?_
  refine E_rounds hE hG hm hl' 3 ?_
  cbv
  (first | (apply E_pcallX hE (c_natMul _ _ ?_ ha ?_ ?_); (case hm => rfl); (case hle => (repeat' (first | exact u_nil | apply u_cons | apply u2_agg | exact u2_int | exact u1_int | exact u2_bool | exact u1_bool | exact u2_sli | exact u1_sli | exact u2_s0 | exact u1_s0))); all_goals (first | (intro u hu; cbv) | (first | (show Lb (E.sub [1] 0 1); rw [es]; exact l1) | (show (E.sub [1] 0 1).length < 134217728; rw [es]; show (1 : Nat) < 134217728; decide) | exact Nat.lt_of_lt_of_le hla (by decide)))) | (apply E_callX hE (c_natMul _ _ ?_ ha ?_ ?_); (case hf => rfl); (case hc => (cbv <;> trivial)); (case hle => (repeat' (first | exact u_nil | apply u_cons | apply u2_agg | exact u2_int | exact u1_int | exact u2_bool | exact u1_bool | exact u2_sli | exact u1_sli | exact u2_s0 | exact u1_s0))); all_goals (first | (intro u hu; cbv) | (first | (show Lb (E.sub [1] 0 1); rw [es]; exact l1) | (show (E.sub [1] 0 1).length < 134217728; rw [es]; show (1 : Nat) < 134217728; decide) | exact Nat.lt_of_lt_of_le hla (by decide)))))
  have U := m1 u (by have k : u = lim (lv (E.sub [1] 0 1) * lv a) := hu; rw [es] at k; exact k)
  clear hu m1
  (first | (apply E_pcallX hE (c_natMul _ _ U.1 hb U.2.1 ?_); (case hm => rfl); (case hle => (repeat' (first | exact u_nil | apply u_cons | apply u2_agg | exact u2_int | exact u1_int | exact u2_bool | exact u1_bool | exact u2_sli | exact u1_sli | exact u2_s0 | exact u1_s0))); all_goals (first | (intro v hv; cbv) | (exact Nat.lt_of_lt_of_le hlb (by decide)))) | (apply E_callX hE (c_natMul _ _ U.1 hb U.2.1 ?_); (case hf => rfl); (case hc => (cbv <;> trivial)); (case hle => (repeat' (first | exact u_nil | apply u_cons | apply u2_agg | exact u2_int | exact u1_int | exact u2_bool | exact u1_bool | exact u2_sli | exact u1_sli | exact u2_s0 | exact u1_s0))); all_goals (first | (intro v hv; cbv) | (exact Nat.lt_of_lt_of_le hlb (by decide)))))
  have V := m2 u v U.2.2 hv
  clear hv m2
  (first | (apply E_pcallX hE (c_wMake _ _ V.1 V.2.1); (case hm => rfl); (case hle => (repeat' (first | exact u_nil | apply u_cons | apply u2_agg | exact u2_int | exact u1_int | exact u2_bool | exact u1_bool | exact u2_sli | exact u1_sli | exact u2_s0 | exact u1_s0))); all_goals (first | (intro t ht; cbv) | (assumption))) | (apply E_callX hE (c_wMake _ _ V.1 V.2.1); (case hf => rfl); (case hc => (cbv <;> trivial)); (case hle => (repeat' (first | exact u_nil | apply u_cons | apply u2_agg | exact u2_int | exact u1_int | exact u2_bool | exact u1_bool | exact u2_sli | exact u1_sli | exact u2_s0 | exact u1_s0))); all_goals (first | (intro t ht; cbv) | (assumption))))
  rw [← fin v t _ V.2.2 (by subst hE; cases na <;> cases nb <;> rfl) ht]; exact ⟨rfl, rfl, trivial⟩
theorem c_wNeg (na : Bool) (a : List Int) (ha : Lb a) (hla : a.length ≤ 268435456) :
    ∃ t : Bool × List Int, t = (!na && decide (lv a ≠ 0), lim (lv a)) ∧ CallsA Tryz.prog 76 [.agg [.bool (.s na), .sli .u32 a]] (.agg [.bool (.s t.1), .sli .u32 t.2]) := by
  refine ⟨_, rfl, ?_⟩
  generalize hr : ((!na && decide (lv a ≠ 0), lim (lv a)) : Bool × List Int) = r
  refine callsA_of hG hm Tryz.func76 (by kernel_rfl) ?_
  intro E hE lp hl'
  have en : E.bnot na = !na := by subst hE; rfl
  cbv
  (first | (apply E_pcallX hE (c_wMake _ _ ha hla); (case hm => rfl); (case hle => (repeat' (first | exact u_nil | apply u_cons | apply u2_agg | exact u2_int | exact u1_int | exact u2_bool | exact u1_bool | exact u2_sli | exact u1_sli | exact u2_s0 | exact u1_s0))); all_goals (first | (intro t ht; cbv) | (assumption))) | (apply E_callX hE (c_wMake _ _ ha hla); (case hf => rfl); (case hc => (cbv <;> trivial)); (case hle => (repeat' (first | exact u_nil | apply u_cons | apply u2_agg | exact u2_int | exact u1_int | exact u2_bool | exact u1_bool | exact u2_sli | exact u1_sli | exact u2_s0 | exact u1_s0))); all_goals (first | (intro t ht; cbv) | (assumption))))
  have k : t = (E.bnot na && decide (lv a ≠ 0), lim (lv a)) := ht
  rw [en, hr] at k
  rw [k]; exact ⟨rfl, rfl, trivial⟩

end Go.Proofs.YtpadpcjdakfokaaGreatDoor.Ev

/- Contracts: limbs shifted. Printed by gen.py. -/
namespace Go.Proofs.YtpadpcjdakfokaaGreatDoor.Ev
open Go Go.Proofs
set_option linter.unusedVariables false
set_option linter.unusedSimpArgs false


attribute [local irreducible] Lb
def shlS (E : Env) (x : List Int) (l r : Int) : Int × List Int → St := fun p => ⟨[(0, .sli .u32 x), (5, .int .i64 (.s l)), (6, .int .i64 (.s r)), (7, .ms 0 1 (.l 0) (.s (E.bin .add .i64 (E.bin .add .i64 (E.len x) l) 1))), (36, .sli .u32 x), (37, .int .i64 (.s (E.len x))), (38, .int .i64 (.s p.1))], [.ints true .u32 p.2]⟩
set_option maxHeartbeats 1000000 in
theorem c_natShl (a : List Int) (n : Int) (ha : Lb a) (hla : a.length < 67108864) : ∃ t : List Int, t = (if n < 1 then lim (lv a) else if 16777216 < n then [] else lim (lv a * 2 ^ n.toNat)) ∧ CallsA Tryz.prog 130 [.sli .u32 a, .int .i64 (.s n)] (.sli .u32 t) := by
  refine ⟨_, rfl, ?_⟩
  generalize hr : (if n < 1 then lim (lv a) else if 16777216 < n then [] else lim (lv a * 2 ^ n.toNat)) = r
  have hlx := lim_length_le' ha
  have hx := lim_lb (lv a)
  have vx := lv_lim (lv a)
  obtain ⟨x, ex⟩ : ∃ x, lim (lv a) = x := ⟨_, rfl⟩
  rw [ex] at hlx hx vx
  obtain ⟨m, em⟩ : ∃ m : Int × List Int → Nat, ∀ p, m p = (x.length - p.1).toNat := ⟨_, fun _ => rfl⟩
  obtain ⟨ok, eok⟩ : ∃ ok : Int × List Int → Prop, ∀ p, ok p ↔ 0 ≤ p.1 ∧ p.1 ≤ x.length ∧ ShlInv x p.2 (n / 32).toNat (n % 32).toNat p.1.toNat := ⟨_, fun _ => Iff.rfl⟩
  have eN : ∀ l : Int, 1 ≤ n → n ≤ 16777216 → l = intBinR .quo .i64 n 32 → IntKind.i64.wrap (IntKind.i64.wrap ((x.length : Int) + l) + 1) = x.length + n / 32 + 1 := by
    intro l n1 n2 el
    have : l = n / 32 := by rw [el]; exact quo32 (by omega) (by omega)
    rw [this, wi64_id (n := (x.length : Int) + n / 32) (by omega) (by omega), wi64_id (by omega) (by omega)]
  refine callsA_of hG hm Tryz.func130 (by kernel_rfl) ?_
  intro E hE lp hl
  cbv
  (apply E_callX hE (c_cut a ha (by omega)); (case hf => rfl); (case hc => (cbv <;> trivial)); (case hle => exact ⟨u2_sli, trivial⟩); intro x' hx'; cbv)
  rw [hx'.trans ex]
  clear hx' x'
  refine E_br hE (fun h => ?_) (fun h => ?_)
  · have e : x = r := by subst hE; rw [← hr, if_pos (lss_t h), ex]
    cbv
    repeat' (first
    | (refine E_br hE (fun h => ?_) (fun h => ?_) <;> cbv)
    | (refine E_nm hE (fun v hv => ?_); cbv)
    | (refine E_nilS hE (fun b hb => ?_); cbv)
    | (apply E_callX hE (c_Clone _ ?_); (case hf => rfl); (case hc => (cbv <;> trivial)); (case hle => exact u_up); all_goals (first | (intro t ht; cbv) | (omega)))
    | fail)
    exact ‹_ = x›.trans e
  have n1 : 1 ≤ n := by subst hE; have := lss_f h; omega
  cbv
  repeat' (first
    | (refine E_br hE (fun h => ?_) (fun h => ?_) <;> cbv)
    | (refine E_nm hE (fun v hv => ?_); cbv)
    | (refine E_nilS hE (fun b hb => ?_); cbv)
    | fail)
  · have n2 : 16777216 < n := by subst hE; exact gtr_t ‹_›
    rw [← hr, if_neg (by omega), if_pos n2]
  · have e0 : x.length = 0 := by subst hE; have := eql_t h; simp only [realE] at this; omega
    have e1 : x = [] := List.length_eq_zero_iff.1 e0
    rw [e1] at vx
    rw [← hr, if_neg (by omega)]
    split
    · rfl
    · rw [← vx]; simp [lv, lim_zero]
  all_goals (have n2 : n ≤ 16777216 := (by subst hE; have := gtr_f ‹(realE Tryz.prog).cmp .gtr n 16777216 = false›; omega))
  all_goals (try (exfalso; have := eN _ n1 n2 (by subst hE; assumption); subst hE; simp only [NatCast.natCast, Int.ofNat_eq_natCast, realE, cmp_eql, cmp_neq, cmp_lss, cmp_leq, cmp_gtr, cmp_geq, intBinR, decide_eq_true_eq, decide_eq_false_iff_not, SI.val, SB.val, Num.eta, Iv.eta] at *; rw [this] at *; omega))
  rename_i l el _ _
  replace eN := eN l n1 n2 (by subst hE; exact el)
  simp only [NatCast.natCast, Int.ofNat_eq_natCast] at eN
  have er := hv
  have l1 : l = n / 32 := by subst hE; rw [el]; exact quo32 (by omega) (by omega)
  have r1 : 0 ≤ v := by
    have : v = n % 32 := by subst hE; rw [hv]; exact rem32 (by omega)
    omega
  clear hv
  refine E_loop hE hG hm hl (shlS E x l v) m ok ⟨(0, E.rep (E.bin .add .i64 (E.bin .add .i64 (E.len x) l) 1)), (eok _).2 ?_, stLe rfl ?_⟩ ?_
  · refine ⟨by show (0 : Int) ≤ 0; omega, by show (0 : Int) ≤ x.length; omega, ?_⟩
    have := ShlInv.start x (n / 32).toNat (n % 32).toNat
    subst hE; simp only [NatCast.natCast, Int.ofNat_eq_natCast, realE, cmp_eql, cmp_neq, cmp_lss, cmp_leq, cmp_gtr, cmp_geq, intBinR, decide_eq_true_eq, decide_eq_false_iff_not, SI.val, SB.val, Num.eta, Iv.eta] at *; rw [eN, show ((x.length : Int) + n / 32 + 1).toNat = x.length + (n / 32).toNat + 1 by omega]
    exact this
  · (repeat' (first | exact t_nil | apply t_cons | exact u2_sli | exact u2_int | exact u2_bool | exact u2_ms | exact u2_ptr | exact (rfl : sle2 .s0 .s0)))
  rintro ⟨i, out⟩ hok
  have h1 : 0 ≤ i := ((eok _).1 hok).1
  have h2 : i ≤ x.length := ((eok _).1 hok).2.1
  have inv : ShlInv x out (n / 32).toNat (n % 32).toNat i.toNat := ((eok _).1 hok).2.2
  have hol := inv.len
  have fin : ¬ i < x.length → Lb out ∧ lim (lv out) = r := by
    intro h
    have inv' := inv
    rw [show i.toNat = x.length by omega] at inv'
    refine ⟨inv.lb, ?_⟩
    rw [inv'.stop, ← hr, if_neg (by omega), if_neg (by omega), vx, show 32 * (n / 32).toNat + (n % 32).toNat = n.toNat by omega]
  have ht : lim (lv a * 2 ^ n.toNat) = r := by rw [← hr, if_neg (by omega), if_neg (by omega)]
  clear hok hr ex
  cbv
  repeat' (first
    | (refine E_br hE (fun h => ?_) (fun h => ?_) <;> cbv)
    | (refine E_nm hE (fun v hv => ?_); cbv)
    | (refine E_nilS hE (fun b hb => ?_); cbv)
    | (apply E_callX hE (c_cut _ ?_ ?_); (case hf => rfl); (case hc => (cbv <;> trivial)); (case hle => exact u_up); all_goals (first | (intro t ht; cbv) | ((subst hE; simp only [NatCast.natCast, Int.ofNat_eq_natCast, realE, cmp_eql, cmp_neq, cmp_lss, cmp_leq, cmp_gtr, cmp_geq, intBinR, decide_eq_true_eq, decide_eq_false_iff_not, SI.val, SB.val, Num.eta, Iv.eta] at *; rw [eN] at *; rw [sub_all (by omega)]; first | exact (fin ‹_›).1 | omega))))
    | fail)
  case hK => subst hE; simp only [NatCast.natCast, Int.ofNat_eq_natCast, realE, cmp_eql, cmp_neq, cmp_lss, cmp_leq, cmp_gtr, cmp_geq, intBinR, decide_eq_true_eq, decide_eq_false_iff_not, SI.val, SB.val, Num.eta, Iv.eta] at *; rw [‹t = _›, eN, sub_all (by omega), (fin ‹_›).2]
  all_goals (try refine ⟨(E.bin .add .i64 i 1, _), ?_, ?_, stLe rfl ?_⟩)
  all_goals (try ((repeat' (first | exact t_nil | apply t_cons | exact u2_sli | exact u2_int | exact u2_bool | exact u2_ms | exact u2_ptr | exact (rfl : sle2 .s0 .s0))); done))
  all_goals (subst hE)
  all_goals (try (first | (rw [em, em]; exact (shl_next hx (by omega) n1 n2 h1 (lss_t ‹_›) inv ‹_› el er ‹_› ‹_› rfl).2.2.1) | (rw [eok]; have q := shl_next hx (by omega) n1 n2 h1 (lss_t ‹_›) inv ‹_› el er ‹_› ‹_› rfl; exact ⟨q.1, q.2.1, q.2.2.2⟩)))
  all_goals (clear inv eok em fin ht er el; simp only [NatCast.natCast, Int.ofNat_eq_natCast, realE, cmp_eql, cmp_neq, cmp_lss, cmp_leq, cmp_gtr, cmp_geq, intBinR, decide_eq_true_eq, decide_eq_false_iff_not, SI.val, SB.val, Num.eta, Iv.eta] at *; (try rw [eN] at *); clear eN; (try simp only [wi64] at *); omega)
def shrS (E : Env) (x : List Int) (l r : Int) : Int × List Int → St := fun p => ⟨[(0, .sli .u32 x), (5, .int .i64 (.s l)), (6, .int .i64 (.s r)), (7, .ms 0 1 (.l 0) (.s (E.bin .sub .i64 (E.len x) l))), (33, .int .i64 (.s (E.bin .sub .i64 (E.len x) l))), (34, .int .i64 (.s p.1))], [.ints true .u32 p.2]⟩
set_option maxHeartbeats 1000000 in
theorem c_natShr (a : List Int) (n : Int) (ha : Lb a) (hla : a.length < 67108864) : ∃ t : List Int, t = lim (lv a / 2 ^ n.toNat) ∧ CallsA Tryz.prog 131 [.sli .u32 a, .int .i64 (.s n)] (.sli .u32 t) := by
  refine ⟨_, rfl, ?_⟩
  generalize hr : lim (lv a / 2 ^ n.toNat) = r
  have hlx := lim_length_le' ha
  have hx := lim_lb (lv a)
  have vx := lv_lim (lv a)
  obtain ⟨x, ex⟩ : ∃ x, lim (lv a) = x := ⟨_, rfl⟩
  rw [ex] at hlx hx vx
  obtain ⟨m, em⟩ : ∃ m : Int × List Int → Nat, ∀ p, m p = (x.length - p.1).toNat := ⟨_, fun _ => rfl⟩
  obtain ⟨ok, eok⟩ : ∃ ok : Int × List Int → Prop, ∀ p, ok p ↔ 0 ≤ p.1 ∧ p.1 ≤ (x.length : Int) - n / 32 ∧ ShrInv x p.2 (n / 32).toNat (n % 32).toNat p.1.toNat := ⟨_, fun _ => Iff.rfl⟩
  have eN : ∀ l : Int, 1 ≤ n → n < 32 * x.length → l = intBinR .quo .i64 n 32 → IntKind.i64.wrap ((x.length : Int) - l) = x.length - n / 32 := by
    intro l n1 n2 el
    have : l = n / 32 := by rw [el]; exact quo32 (by omega) (by omega)
    rw [this, wi64_id (by omega) (by omega)]
  have e32 : IntKind.i64.wrap (32 * (x.length : Int)) = 32 * x.length := wi64_id (by omega) (by omega)
  have big : 32 * (x.length : Int) ≤ n → lv a / 2 ^ n.toNat = 0 := by
    intro h
    have h1 := lv_lt hx
    rw [vx] at h1
    apply Nat.div_eq_of_lt
    have h2 : 4294967296 ^ x.length = 2 ^ (32 * x.length) := by rw [Nat.pow_mul]
    have h3 : 2 ^ (32 * x.length) ≤ 2 ^ n.toNat := Nat.pow_le_pow_right (by omega) (by omega)
    omega
  refine callsA_of hG hm Tryz.func131 (by kernel_rfl) ?_
  intro E hE lp hl
  cbv
  (apply E_callX hE (c_cut a ha (by omega)); (case hf => rfl); (case hc => (cbv <;> trivial)); (case hle => exact ⟨u2_sli, trivial⟩); intro x' hx'; cbv)
  rw [hx'.trans ex]
  clear hx' x'
  refine E_br hE (fun h => ?_) (fun h => ?_)
  · have e : x = r := by subst hE; have := lss_t h; rw [← hr, ← ex, show n.toNat = 0 by omega, Nat.pow_zero, Nat.div_one]
    cbv
    repeat' (first
    | (refine E_br hE (fun h => ?_) (fun h => ?_) <;> cbv)
    | (refine E_nm hE (fun v hv => ?_); cbv)
    | (refine E_nilS hE (fun b hb => ?_); cbv)
    | (apply E_callX hE (c_Clone _ ?_); (case hf => rfl); (case hc => (cbv <;> trivial)); (case hle => exact u_up); all_goals (first | (intro t ht; cbv) | (omega)))
    | fail)
    exact ‹_ = x›.trans e
  have n1 : 1 ≤ n := by subst hE; have := lss_f h; omega
  refine E_br hE (fun h => ?_) (fun h => ?_)
  · have e : [] = r := by
      rw [← hr, big (by subst hE; have := geq_t h; simp only [realE, intBinR, NatCast.natCast, Int.ofNat_eq_natCast] at this e32; rw [e32] at this; omega)]; rfl
    cbv
    exact e.symm
  have n2 : n < 32 * x.length := by subst hE; have := geq_f h; simp only [realE, intBinR, NatCast.natCast, Int.ofNat_eq_natCast] at this e32; rw [e32] at this; omega
  cbv
  repeat' (first
    | (refine E_br hE (fun h => ?_) (fun h => ?_) <;> cbv)
    | (refine E_nm hE (fun v hv => ?_); cbv)
    | (refine E_nilS hE (fun b hb => ?_); cbv)
    | fail)
  all_goals (try (exfalso; have := eN _ n1 n2 (by subst hE; assumption); subst hE; simp only [NatCast.natCast, Int.ofNat_eq_natCast, realE, cmp_eql, cmp_neq, cmp_lss, cmp_leq, cmp_gtr, cmp_geq, intBinR, decide_eq_true_eq, decide_eq_false_iff_not, SI.val, SB.val, Num.eta, Iv.eta] at *; rw [this] at *; omega))
  rename_i l el _ _
  replace n2 : n < 32 * (x.length : Int) := n2
  replace eN := eN l n1 n2 (by subst hE; exact el)
  simp only [NatCast.natCast, Int.ofNat_eq_natCast] at eN
  have er := hv
  have l1 : l = n / 32 := by subst hE; rw [el]; exact quo32 (by omega) (by omega)
  have r1 : 0 ≤ v := by
    have : v = n % 32 := by subst hE; rw [hv]; exact rem32 (by omega)
    omega
  clear hv
  refine E_loop hE hG hm hl (shrS E x l v) m ok ⟨(0, E.rep (E.bin .sub .i64 (E.len x) l)), (eok _).2 ?_, stLe rfl ?_⟩ ?_
  · refine ⟨by show (0 : Int) ≤ 0; omega, by show (0 : Int) ≤ x.length - n / 32; omega, ?_⟩
    have := ShrInv.start x (n / 32).toNat (n % 32).toNat
    subst hE; simp only [NatCast.natCast, Int.ofNat_eq_natCast, realE, cmp_eql, cmp_neq, cmp_lss, cmp_leq, cmp_gtr, cmp_geq, intBinR, decide_eq_true_eq, decide_eq_false_iff_not, SI.val, SB.val, Num.eta, Iv.eta] at *; rw [eN, show ((x.length : Int) - n / 32).toNat = x.length - (n / 32).toNat by omega]
    exact this
  · (repeat' (first | exact t_nil | apply t_cons | exact u2_sli | exact u2_int | exact u2_bool | exact u2_ms | exact u2_ptr | exact (rfl : sle2 .s0 .s0)))
  rintro ⟨i, out⟩ hok
  have h1 : 0 ≤ i := ((eok _).1 hok).1
  have h2 : i ≤ x.length - n / 32 := ((eok _).1 hok).2.1
  have inv : ShrInv x out (n / 32).toNat (n % 32).toNat i.toNat := ((eok _).1 hok).2.2
  have hol := inv.len
  have fin : ¬ i < (x.length : Int) - n / 32 → Lb out ∧ lim (lv out) = r := by
    intro h
    have inv' := inv
    rw [show i.toNat = x.length - (n / 32).toNat by omega] at inv'
    refine ⟨inv.lb, ?_⟩
    rw [inv'.stop hx (by omega), ← hr, vx, show 32 * (n / 32).toNat + (n % 32).toNat = n.toNat by omega]
  clear hok hr ex
  cbv
  repeat' (first
    | (refine E_br hE (fun h => ?_) (fun h => ?_) <;> cbv)
    | (refine E_nm hE (fun v hv => ?_); cbv)
    | (refine E_nilS hE (fun b hb => ?_); cbv)
    | (apply E_callX hE (c_cut _ ?_ ?_); (case hf => rfl); (case hc => (cbv <;> trivial)); (case hle => exact u_up); all_goals (first | (intro t ht; cbv) | ((subst hE; simp only [NatCast.natCast, Int.ofNat_eq_natCast, realE, cmp_eql, cmp_neq, cmp_lss, cmp_leq, cmp_gtr, cmp_geq, intBinR, decide_eq_true_eq, decide_eq_false_iff_not, SI.val, SB.val, Num.eta, Iv.eta] at *; rw [eN] at *; rw [sub_all (by omega)]; first | exact (fin ‹_›).1 | omega))))
    | fail)
  case hK => subst hE; simp only [NatCast.natCast, Int.ofNat_eq_natCast, realE, cmp_eql, cmp_neq, cmp_lss, cmp_leq, cmp_gtr, cmp_geq, intBinR, decide_eq_true_eq, decide_eq_false_iff_not, SI.val, SB.val, Num.eta, Iv.eta] at *; rw [‹t = _›, eN, sub_all (by omega), (fin (by rw [← eN]; assumption)).2]
  all_goals (try refine ⟨(E.bin .add .i64 i 1, _), ?_, ?_, stLe rfl ?_⟩)
  all_goals (try ((repeat' (first | exact t_nil | apply t_cons | exact u2_sli | exact u2_int | exact u2_bool | exact u2_ms | exact u2_ptr | exact (rfl : sle2 .s0 .s0))); done))
  all_goals (subst hE)
  all_goals (try (
    have hi : i < IntKind.i64.wrap ((x.length : Int) - l) := lss_t ‹_›
    rw [eN] at hi
    first
      | (rw [em, em]; exact (shr_next hx (by omega) n1 n2 h1 hi inv ‹_› el er ‹_› (by first | exact .inr ‹_› | exact .inl ⟨lss_f ‹_›, rfl⟩) rfl).2.2.1)
      | (rw [eok]; have q := shr_next hx (by omega) n1 n2 h1 hi inv ‹_› el er ‹_› (by first | exact .inr ‹_› | exact .inl ⟨lss_f ‹_›, rfl⟩) rfl; exact ⟨q.1, q.2.1, q.2.2.2⟩)))
  all_goals (clear inv eok em fin er el e32 big; simp only [NatCast.natCast, Int.ofNat_eq_natCast, realE, cmp_eql, cmp_neq, cmp_lss, cmp_leq, cmp_gtr, cmp_geq, intBinR, decide_eq_true_eq, decide_eq_false_iff_not, SI.val, SB.val, Num.eta, Iv.eta] at *; (try rw [eN] at *); clear eN; (try simp only [wi64] at *); omega)

end Go.Proofs.YtpadpcjdakfokaaGreatDoor.Ev

/- Contracts: the product of intervals. -/
namespace Go.Proofs.YtpadpcjdakfokaaGreatDoor.Ev
open Go Go.Proofs
set_option linter.unusedVariables false

end Go.Proofs.YtpadpcjdakfokaaGreatDoor.Ev

/- Contracts: a division of two words by one. -/
namespace Go.Proofs.YtpadpcjdakfokaaGreatDoor.Ev
open Go Go.Proofs
set_option linter.unusedVariables false
end Go.Proofs.YtpadpcjdakfokaaGreatDoor.Ev

/- Contracts: words of 32 bits. Printed by gen.py out of C22.spec. -/
namespace Go.Proofs.YtpadpcjdakfokaaGreatDoor.Ev
open Go Go.Proofs
set_option linter.unusedVariables false
set_option linter.unusedSimpArgs false

theorem c_Div32 (hi : Int) (lo : Int) (y : Int) (hhi : 0 ≤ hi) (hhi' : hi < 4294967296) (hlo : 0 ≤ lo) (hlo' : lo < 4294967296) (hy : 0 ≤ y) (hy' : y < 4294967296) (hlt : hi < y) : ∃ t : Int × Int, t = ((hi * 4294967296 + lo) / y, (hi * 4294967296 + lo) % y) ∧ CallsA Tryz.prog 229 [.int .u32 (.s hi), .int .u32 (.s lo), .int .u32 (.s y)] (.tup [.int .u32 (.s t.1), .int .u32 (.s t.2)]) := by
  refine ⟨_, rfl, ?_⟩
  generalize hr : ((hi * 4294967296 + lo) / y, (hi * 4294967296 + lo) % y) = r
  refine callsA_of hG hm Tryz.func229 (by kernel_rfl) ?_
  intro E hE lp hl
  cbv
  repeat' (first
    | (refine E_br hE (fun h => ?_) (fun h => ?_) <;> cbv)
    | (refine E_nm hE (fun v hv => ?_); cbv)
    | fail)
  all_goals (subst hE; subst hr)
  all_goals (try simp only [realE, cmp_eql, cmp_neq, cmp_lss, cmp_leq, cmp_gtr, cmp_geq, intBinR, decide_eq_true_eq, decide_eq_false_iff_not, SI.val, SB.val, Num.eta, Iv.eta] at *)
  all_goals (try (exfalso; rw [wu64] at *; omega))
  all_goals (try (exfalso; omega))
  rename_i v1 v2 e1 e2 _ _ _
  rw [div32_word hhi hhi' hlo hlo'] at e1
  subst e1
  obtain ⟨q1, q2⟩ := div32_parts hhi hlo hlo' hlt hy'
  exact ⟨e2.trans q1, hv.trans q2, trivial⟩

theorem c_Len32 (x : Int) (hx : 0 ≤ x) (hx' : x < 4294967296) : ∃ t : Int, t = blen x ∧ CallsA Tryz.prog 201 [.int .u32 (.s x)] (.int .i64 (.s t)) := by
  refine ⟨_, rfl, ?_⟩
  generalize hr : blen x = r
  refine callsA_of hG hm Tryz.func201 (by kernel_rfl) ?_
  intro E hE lp hl
  cbv
  repeat' (first
    | (refine E_br hE (fun h => ?_) (fun h => ?_) <;> cbv)
    | (refine E_nm hE (fun v hv => ?_); cbv)
    | fail)
  all_goals (try (generalize hL : (⟨⟨[0, 1, 2, 2, 3, 3, 3, 3, 4, 4, 4, 4, 4, 4, 4, 4, 5, 5, 5, 5, 5, 5, 5, 5, 5, 5, 5, 5, 5, 5, 5, 5, 6, 6, 6, 6, 6, 6, 6, 6, 6, 6, 6, 6, 6, 6, 6, 6, 6, 6, 6, 6, 6, 6, 6, 6, 6, 6, 6, 6, 6, 6, 6, 6, 7, 7, 7, 7, 7, 7, 7, 7, 7, 7, 7, 7, 7, 7, 7, 7, 7, 7, 7, 7, 7, 7, 7, 7, 7, 7, 7, 7, 7, 7, 7, 7, 7, 7, 7, 7, 7, 7, 7, 7, 7, 7, 7, 7, 7, 7, 7, 7, 7, 7, 7, 7, 7, 7, 7, 7, 7, 7, 7, 7, 7, 7, 7, 7, 8, 8, 8, 8, 8, 8, 8, 8, 8, 8, 8, 8, 8, 8, 8, 8, 8, 8, 8, 8, 8, 8, 8, 8, 8, 8, 8, 8, 8, 8, 8, 8, 8, 8, 8, 8, 8, 8, 8, 8, 8, 8, 8, 8, 8, 8, 8, 8, 8, 8, 8, 8, 8, 8, 8, 8, 8, 8, 8, 8, 8, 8, 8, 8, 8, 8, 8, 8, 8, 8, 8, 8, 8, 8, 8, 8, 8, 8, 8, 8, 8, 8, 8, 8, 8, 8, 8, 8, 8, 8, 8, 8, 8, 8, 8, 8, 8, 8, 8, 8, 8, 8, 8, 8, 8, 8, 8, 8, 8, 8, 8, 8, 8, 8, 8, 8, 8, 8, 8, 8, 8, 8, 8, 8, 8, 8, 8, 8]⟩⟩ : ByteArray) = L at *; replace hL := len8_str hL; obtain ⟨hL1, hL2⟩ := hL))
  all_goals (subst hE; subst hr)
  all_goals (try simp only [realE, cmp_eql, cmp_neq, cmp_lss, cmp_leq, cmp_gtr, cmp_geq, intBinR, decide_eq_true_eq, decide_eq_false_iff_not, SI.val, SB.val, Num.eta, Iv.eta] at *)
  all_goals (simp only [shr8', shr16', wu8, wi64] at *)
  all_goals (try omega)
  all_goals (try rw [hL2 _ (by omega) (by omega)] at hv)
  all_goals (have b1 := blen_nonneg x; have b2 := blen_le 32 (x := x) (by omega))
  all_goals (try have s2 := len16 ‹(65536 : Int) ≤ _› ‹_ = _ / (65536 : Int)›)
  all_goals (try have s3 := len8 ‹(256 : Int) ≤ _› ‹_ = _ / (256 : Int)›)
  all_goals omega

theorem c_LZ32 (x : Int) (hx : 0 ≤ x) (hx' : x < 4294967296) : ∃ t : Int, t = 32 - blen x ∧ CallsA Tryz.prog 203 [.int .u32 (.s x)] (.int .i64 (.s t)) := by
  refine ⟨_, rfl, ?_⟩
  generalize hr : 32 - blen x = r
  refine callsA_of hG hm Tryz.func203 (by kernel_rfl) ?_
  intro E hE lp hl
  cbv
  repeat' (first
    | (refine E_br hE (fun h => ?_) (fun h => ?_) <;> cbv)
    | (refine E_nm hE (fun v hv => ?_); cbv)
    | (apply E_callX hE (c_Len32 _ ?_ ?_); (case hf => rfl); (case hc => (cbv <;> trivial)); (case hle => (repeat' (first | exact u_nil | apply u_cons | apply u2_agg | exact u2_int | exact u1_int | exact u2_bool | exact u1_bool | exact u2_sli | exact u1_sli | exact u2_s0 | exact u1_s0))); all_goals (first | (intro t ht; cbv) | (subst hE; (try simp only [realE, cmp_eql, cmp_neq, cmp_lss, cmp_leq, cmp_gtr, cmp_geq, intBinR, decide_eq_true_eq, decide_eq_false_iff_not, SI.val, SB.val, Num.eta, Iv.eta] at *); first | assumption | omega)))
    | (apply E_pcallX hE (c_Len32 _ ?_ ?_); (case hm => rfl); (case hle => (repeat' (first | exact u_nil | apply u_cons | apply u2_agg | exact u2_int | exact u1_int | exact u2_bool | exact u1_bool | exact u2_sli | exact u1_sli | exact u2_s0 | exact u1_s0))); all_goals (first | (intro t ht; cbv) | (subst hE; (try simp only [realE, cmp_eql, cmp_neq, cmp_lss, cmp_leq, cmp_gtr, cmp_geq, intBinR, decide_eq_true_eq, decide_eq_false_iff_not, SI.val, SB.val, Num.eta, Iv.eta] at *); first | assumption | omega)))
    | fail)
  all_goals (subst hE; subst hr)
  all_goals (try simp only [realE, cmp_eql, cmp_neq, cmp_lss, cmp_leq, cmp_gtr, cmp_geq, intBinR, decide_eq_true_eq, decide_eq_false_iff_not, SI.val, SB.val, Num.eta, Iv.eta] at *)
  all_goals (try simp only [wi64] at *)
  all_goals (have b1 := blen_nonneg x; have b2 := blen_le 32 (x := x) (by omega); omega)

end Go.Proofs.YtpadpcjdakfokaaGreatDoor.Ev

/- Contracts: how many bits limbs have; a short division. Printed by gen.py. -/
namespace Go.Proofs.YtpadpcjdakfokaaGreatDoor.Ev
open Go Go.Proofs
set_option linter.unusedVariables false
set_option linter.unusedSimpArgs false


attribute [local irreducible] Lb
theorem c_natLen (a : List Int) (ha : Lb a) (hla : a.length < 67108864) : ∃ t : Int, t = blen (lv a) ∧ CallsA Tryz.prog 141 [.sli .u32 a] (.int .i64 (.s t)) := by
  refine ⟨_, rfl, ?_⟩
  generalize hr : blen (lv a : Int) = r
  have hlx := lim_length_le' ha
  have hx := lim_lb (lv a)
  have vx := lv_lim (lv a)
  have lx := (lim_cn (lv a)).last
  obtain ⟨x, ex⟩ : ∃ x, lim (lv a) = x := ⟨_, rfl⟩
  rw [ex] at hlx hx vx lx
  have k1 : x.length = 0 → r = 0 := by
    intro h
    have : x = [] := List.length_eq_zero_iff.1 h
    rw [this] at vx
    rw [← hr, ← vx]; rfl
  have k2 : ¬ (x.length : Int) = 0 → ∀ t : Int, t = blen (x.getD (intBinR .sub .i64 x.length 1).toNat 0) → r = intBinR .add .i64 (intBinR .mul .i64 32 (intBinR .sub .i64 x.length 1)) t := by
    intro h t ht
    have hne : x ≠ [] := by intro e; rw [e] at h; simp at h
    have := blen_len hx hne (lx hne)
    have e1 : intBinR .sub .i64 x.length 1 = (x.length : Int) - 1 := by show IntKind.i64.wrap _ = _; rw [wi64_id (by omega) (by omega)]
    rw [e1] at ht ⊢
    have e2 : intBinR .mul .i64 32 ((x.length : Int) - 1) = 32 * ((x.length : Int) - 1) := by show IntKind.i64.wrap _ = _; rw [wi64_id (by omega) (by omega)]
    rw [e2, ← hr, ← vx, this]
    rw [show ((x.length : Int) - 1).toNat = x.length - 1 by omega] at ht
    have hg := hx.getD (x.length - 1)
    have b1 := blen_nonneg (x.getD (x.length - 1) 0)
    have b2 := blen_le 32 (x := x.getD (x.length - 1) 0) (by omega)
    rw [ht]
    show _ = IntKind.i64.wrap _
    rw [wi64_id (by omega) (by omega)]
  refine callsA_of hG hm Tryz.func141 (by kernel_rfl) ?_
  intro E hE lp hl
  cbv
  (apply E_callX hE (c_cut a ha (by omega)); (case hf => rfl); (case hc => (cbv <;> trivial)); (case hle => exact ⟨u2_sli, trivial⟩); intro x' hx'; cbv)
  rw [hx'.trans ex]
  clear hx' x'
  repeat' (first
    | (refine E_br hE (fun h => ?_) (fun h => ?_) <;> cbv)
    | (refine E_nm hE (fun v hv => ?_); cbv)
    | (refine E_nilS hE (fun b hb => ?_); cbv)
    | (apply E_callX hE (c_Len32 _ ?_ ?_); (case hf => rfl); (case hc => (cbv <;> trivial)); (case hle => (repeat' (first | exact u_nil | apply u_cons | apply u2_agg | exact u2_int | exact u1_int | exact u2_bool | exact u1_bool | exact u2_sli | exact u1_sli | exact u2_s0 | exact u1_s0))); all_goals (first | (intro t ht; cbv) | ((subst hE; first | exact (hx.getD _).1 | exact (hx.getD _).2))))
    | fail)
  all_goals (try (subst hE; first | exact (k1 (by have := eql_t h; simp only [realE] at this; omega)).symm | exact hv.trans (k2 (eql_f ‹_›) t ht).symm))
  all_goals (clear k1 k2 hr; subst hE; simp only [NatCast.natCast, Int.ofNat_eq_natCast, realE, cmp_eql, cmp_neq, cmp_lss, cmp_leq, cmp_gtr, cmp_geq, intBinR, decide_eq_true_eq, decide_eq_false_iff_not, SI.val, SB.val, Num.eta, Iv.eta] at *; (try simp only [wi64] at *); omega)

theorem short_next {a q : List Int} {d i k left j : Int} (ha : Lb a) (hla : a.length < 67108864) (hd : d < 4294967296) (h1 : 0 ≤ i) (h2 : i < a.length)
    (inv : ShortInv a q d (a.length - i.toNat) left) {i' : Int} (ei : i' = i) (ek : k = intBinR .sub .i64 (intBinR .sub .i64 a.length 1) i') (ej : j = intBinR .add .i64 i 1) {t : Int × Int}
    (et : t = ((left * 4294967296 + a.getD k.toNat 0) / d, (left * 4294967296 + a.getD k.toNat 0) % d)) {t2 : Int} (e2 : t2 = t.2) :
    0 ≤ j ∧ j ≤ a.length ∧ ((a.length : Int) - j).toNat < ((a.length : Int) - i).toNat ∧ ShortInv a (q.set k.toNat t.1) d (a.length - j.toNat) t2 := by
  subst ei
  have ej' : j = i' + 1 := by rw [ej]; show IntKind.i64.wrap (i' + 1) = _; rw [wi64_id (by omega) (by omega)]
  have ek' : k = a.length - 1 - i' := by
    rw [ek]; show IntKind.i64.wrap (IntKind.i64.wrap ((a.length : Int) - 1) - i') = _
    rw [wi64_id (n := (a.length : Int) - 1) (by omega) (by omega), wi64_id (by omega) (by omega)]
  rw [show a.length - i'.toNat = k.toNat + 1 by omega] at inv
  have st := inv.step ha hd (by omega)
  rw [e2, et, show a.length - j.toNat = k.toNat by omega]
  exact ⟨by omega, by omega, by omega, st⟩

def shortS (E : Env) (a : List Int) (d : Int) : Int × Int × List Int → St := fun p => ⟨[(0, .sli .u32 a), (1, .int .u32 (.s d)), (4, .ms 0 1 (.l 0) (.s (E.len a))), (6, .int .u32 (.s p.2.1)), (13, .int .i64 (.s (E.len a))), (14, .int .i64 (.s p.1))], [.ints true .u32 p.2.2]⟩
set_option maxHeartbeats 1000000 in
theorem c_short (a : List Int) (d : Int) (ha : Lb a) (hla : a.length < 67108864) (hd0 : 0 < d) (hd : d < 4294967296) : ∃ t : List Int × List Int, t = (lim (lv a / d.toNat), lim (lv a % d.toNat)) ∧ CallsA Tryz.prog 202 [.sli .u32 a, .int .u32 (.s d)] (.tup [.sli .u32 t.1, .sli .u32 t.2]) := by
  refine ⟨_, rfl, ?_⟩
  generalize hr : (lim (lv a / d.toNat), lim (lv a % d.toNat)) = r
  obtain ⟨m, em⟩ : ∃ m : Int × Int × List Int → Nat, ∀ p, m p = (a.length - p.1).toNat := ⟨_, fun _ => rfl⟩
  obtain ⟨ok, eok⟩ : ∃ ok : Int × Int × List Int → Prop, ∀ p, ok p ↔ 0 ≤ p.1 ∧ p.1 ≤ a.length ∧ ShortInv a p.2.2 d (a.length - p.1.toNat) p.2.1 := ⟨_, fun _ => Iff.rfl⟩
  refine callsA_of hG hm Tryz.func202 (by kernel_rfl) ?_
  intro E hE lp hl
  cbv
  repeat' (first
    | (refine E_br hE (fun h => ?_) (fun h => ?_) <;> cbv)
    | (refine E_nm hE (fun v hv => ?_); cbv)
    | (refine E_nilS hE (fun b hb => ?_); cbv)
    | fail)
  all_goals (try (exfalso; subst hE; simp only [NatCast.natCast, Int.ofNat_eq_natCast, realE, cmp_eql, cmp_neq, cmp_lss, cmp_leq, cmp_gtr, cmp_geq, intBinR, decide_eq_true_eq, decide_eq_false_iff_not, SI.val, SB.val, Num.eta, Iv.eta] at *; omega))
  refine E_loop hE hG hm hl (shortS E a d) m ok ⟨(0, 0, E.rep (E.len a)), (eok _).2 ?_, stLe rfl ?_⟩ ?_
  · refine ⟨by show (0 : Int) ≤ 0; omega, by show (0 : Int) ≤ a.length; omega, ?_⟩
    have := ShortInv.start a hd0
    subst hE; simp only [NatCast.natCast, Int.ofNat_eq_natCast, realE, cmp_eql, cmp_neq, cmp_lss, cmp_leq, cmp_gtr, cmp_geq, intBinR, decide_eq_true_eq, decide_eq_false_iff_not, SI.val, SB.val, Num.eta, Iv.eta] at *
    exact this
  · (repeat' (first | exact t_nil | apply t_cons | exact u2_sli | exact u2_int | exact u2_bool | exact u2_ms | exact u2_ptr | exact (rfl : sle2 .s0 .s0)))
  rintro ⟨i, left, q⟩ hok
  have h1 : 0 ≤ i := ((eok _).1 hok).1
  have h2 : i ≤ a.length := ((eok _).1 hok).2.1
  have inv : ShortInv a q d (a.length - i.toNat) left := ((eok _).1 hok).2.2
  have hol := inv.len
  have l0 := inv.l0
  have l1 := inv.l1
  have lq : Lb q := inv.lb
  have ll : Lb [left] := Lb.cons l0 (by omega) Lb.nil
  have fin : ¬ i < a.length → (lim (lv q), lim (lv [left])) = r := by
    intro h
    rw [show a.length - i.toNat = 0 by omega] at inv
    obtain ⟨f1, f2⟩ := inv.stop
    rw [← hr, f1]
    congr 2
    simp only [lv]
    omega
  clear hok hr
  cbv
  repeat' (first
    | (refine E_br hE (fun h => ?_) (fun h => ?_) <;> cbv)
    | (refine E_nm hE (fun v hv => ?_); cbv)
    | (refine E_nilS hE (fun b hb => ?_); cbv)
    | (apply E_callX hE (c_Div32 _ _ _ ?_ ?_ ?_ ?_ ?_ ?_ ?_); (case hf => rfl); (case hc => (cbv <;> trivial)); (case hle => (repeat' (first | exact u_nil | apply u_cons | apply u2_agg | exact u2_int | exact u1_int | exact u2_bool | exact u1_bool | exact u2_sli | exact u1_sli | exact u2_s0 | exact u1_s0))); all_goals (first | (intro t ht; cbv) | (((try simp only [SI.val]); first | omega | (subst hE; first | exact (ha.getD _).1 | exact (ha.getD _).2)))))
    | (apply E_callX hE (c_cut _ ?_ ?_); (case hf => rfl); (case hc => (cbv <;> trivial)); (case hle => (repeat' (first | exact u_nil | apply u_cons | apply u2_agg | exact u2_int | exact u1_int | exact u2_bool | exact u1_bool | exact u2_sli | exact u1_sli | exact u2_s0 | exact u1_s0))); all_goals (first | (intro t ht; cbv) | ((subst hE; first | exact ll | (simp only [NatCast.natCast, Int.ofNat_eq_natCast, realE, cmp_eql, cmp_neq, cmp_lss, cmp_leq, cmp_gtr, cmp_geq, intBinR, decide_eq_true_eq, decide_eq_false_iff_not, SI.val, SB.val, Num.eta, Iv.eta] at *; (try rw [sub_all (by omega)]); first | assumption | omega | (simp; done))))))
    | fail)
  all_goals (try refine ⟨(E.bin .add .i64 i 1, v, E.set q _ t.1), ?_, ?_, stLe rfl ?_⟩)
  all_goals (try ((repeat' (first | exact t_nil | apply t_cons | exact u2_sli | exact u2_int | exact u2_bool | exact u2_ms | exact u2_ptr | exact (rfl : sle2 .s0 .s0))); done))
  all_goals (subst hE)
  all_goals (try (first | (rw [em, em]; exact (short_next ha hla hd h1 (lss_t ‹_›) inv ‹_ = i› ‹_› rfl ‹t = _› ‹_›).2.2.1) | (rw [eok]; have q := short_next ha hla hd h1 (lss_t ‹_›) inv ‹_ = i› ‹_› rfl ‹t = _› ‹_›; exact ⟨q.1, q.2.1, q.2.2.2⟩)))
  case refine_1.refine_1.refine_1.refine_3.refine_2.hK.hK => have f := fin (lss_f ‹_›); rename_i q' hq'; rw [← f]; simp only [NatCast.natCast, Int.ofNat_eq_natCast, realE, cmp_eql, cmp_neq, cmp_lss, cmp_leq, cmp_gtr, cmp_geq, intBinR, decide_eq_true_eq, decide_eq_false_iff_not, SI.val, SB.val, Num.eta, Iv.eta] at *; refine ⟨?_, ‹_ = _›, trivial⟩; rw [hq', sub_all (by omega)]
  all_goals (clear inv eok em fin; simp only [NatCast.natCast, Int.ofNat_eq_natCast, realE, cmp_eql, cmp_neq, cmp_lss, cmp_leq, cmp_gtr, cmp_geq, intBinR, decide_eq_true_eq, decide_eq_false_iff_not, SI.val, SB.val, Num.eta, Iv.eta] at *; (try simp only [wi64] at *); omega)

end Go.Proofs.YtpadpcjdakfokaaGreatDoor.Ev

/- Contracts: the guess of a limb of a quotient. Printed by gen.py. -/
namespace Go.Proofs.YtpadpcjdakfokaaGreatDoor.Ev
open Go Go.Proofs
set_option linter.unusedVariables false
set_option linter.unusedSimpArgs false


def guessS (r2 r1 r0 d1 d0 t : Int) : Int × Int → St := fun p => ⟨[(0, .int .u32 (.s r2)), (1, .int .u32 (.s r1)), (2, .int .u32 (.s r0)), (3, .int .u32 (.s d1)), (4, .int .u32 (.s d0)), (11, .int .u64 (.s t)), (12, .int .u64 (.s p.1)), (13, .int .u64 (.s p.2))], []⟩
theorem c_guess (r2 r1 r0 d1 d0 : Int) (I : GuessIn r2 r1 r0 d1 d0) : ∃ t : Int, t = guessQ r2 r1 r0 d1 d0 ∧ CallsA Tryz.prog 204 [.int .u32 (.s r2), .int .u32 (.s r1), .int .u32 (.s r0), .int .u32 (.s d1), .int .u32 (.s d0)] (.int .u32 (.s t)) := by
  refine ⟨_, rfl, ?_⟩
  generalize hr : guessQ r2 r1 r0 d1 d0 = r
  obtain ⟨m, em⟩ : ∃ m : Int × Int → Nat, ∀ p, m p = p.1.toNat := ⟨_, fun _ => rfl⟩
  obtain ⟨ok, eok⟩ : ∃ ok : Int × Int → Prop, ∀ p, ok p ↔ GuessInv r2 r1 r0 d1 d0 p.1 p.2 := ⟨_, fun _ => Iff.rfl⟩
  have hd := I.d1b
  refine callsA_of hG hm Tryz.func204 (by kernel_rfl) ?_
  intro E hE lp hl
  cbv
  repeat' (first
    | (refine E_br hE (fun h => ?_) (fun h => ?_) <;> cbv)
    | (refine E_nm hE (fun v hv => ?_); cbv)
    | (refine E_nilS hE (fun b hb => ?_); cbv)
    | fail)
  · subst hE; have h' : IntKind.u64.wrap d1 = 0 := eql_t h; rw [wu64_id (by omega) (by omega)] at h'; omega
  · subst hE; have h' : IntKind.u64.wrap d1 = 0 := eql_t h; rw [wu64_id (by omega) (by omega)] at h'; omega
  rename_i t et _ q eq
  refine E_loop hE hG hm hl (guessS r2 r1 r0 d1 d0 t) m ok ⟨(q, v), (eok _).2 ?_, stLe rfl ?_⟩ ?_
  · subst hE; exact guess_start I et eq hv
  · (repeat' (first | exact t_nil | apply t_cons | exact u2_sli | exact u2_int | exact u2_bool | exact u2_ms | exact u2_ptr | exact (rfl : sle2 .s0 .s0)))
  clear eq hv et
  rintro ⟨q, left⟩ hok
  have inv : GuessInv r2 r1 r0 d1 d0 q left := (eok _).1 hok
  clear hok
  cbv
  repeat' (first
    | (refine E_br hE (fun h => ?_) (fun h => ?_) <;> cbv)
    | (refine E_nm hE (fun v hv => ?_); cbv)
    | (refine E_nilS hE (fun b hb => ?_); cbv)
    | fail)
  all_goals (try (rename_i q' eq'; refine ⟨(q', v), ?_, ?_, stLe rfl ?_⟩))
  all_goals (try ((repeat' (first | exact t_nil | apply t_cons | exact u2_sli | exact u2_int | exact u2_bool | exact u2_ms | exact u2_ptr | exact (rfl : sle2 .s0 .s0))); done))
  all_goals (subst hE)
  all_goals (first
    | (rw [em, em]; exact (guess_step I inv (by first | exact .inl (gtr_t ‹_›) | exact .inr ⟨gtr_f ‹_›, gtr_t ‹_›⟩) ‹_› ‹_› (gtr_f ‹_›)).1)
    | (rw [eok]; exact (guess_step I inv (by first | exact .inl (gtr_t ‹_›) | exact .inr ⟨gtr_f ‹_›, gtr_t ‹_›⟩) ‹_› ‹_› (gtr_f ‹_›)).2)
    | (rw [← hr, hv]; exact guess_brk I inv (by first | exact .inl (gtr_t ‹_›) | exact .inr ⟨gtr_f ‹_›, gtr_t ‹_›⟩) ‹_› ‹_› (gtr_t ‹_›))
    | (rw [← hr, hv]; exact guess_done I inv (gtr_f ‹_›) (gtr_f ‹_›)))

end Go.Proofs.YtpadpcjdakfokaaGreatDoor.Ev

/- The steps of a long division, as the words of the program reckon them. -/
namespace Go.Proofs.YtpadpcjdakfokaaGreatDoor.Ev
open Go

theorem less_next {r0 d r : List Int} {q at_ i carry borrow : Int} (hd : Lb d) (hq : 0 ≤ q ∧ q < 4294967296) (hlr : r0.length < 134217728) (h1 : 0 ≤ i) (h2 : i < d.length) (ha : 0 ≤ at_) (hat : at_ + d.length < r0.length)
    (inv : LessInv r0 d q at_.toNat r i.toNat carry borrow) {i' y v b' j : Int} {t : Int × Int} (ei : i' = i) (ey : y = d.getD i.toNat 0)
    (ev : v = intBinR .add .u64 (intBinR .mul .u64 (IntKind.u64.wrap y) (IntKind.u64.wrap q)) carry)
    (et : t = ((r.getD (intBinR .add .i64 at_ i').toNat 0 - IntKind.u32.wrap v - borrow) % 4294967296, if r.getD (intBinR .add .i64 at_ i').toNat 0 < IntKind.u32.wrap v + borrow then 1 else 0))
    (eb : b' = t.2) (ej : j = intBinR .add .i64 i 1) {c' : Int} (ec : c' = intBinR .shr .u64 v 32) :
    0 ≤ j ∧ j ≤ d.length ∧ ((d.length : Int) - j).toNat < ((d.length : Int) - i).toNat ∧ LessInv r0 d q at_.toNat (r.set (intBinR .add .i64 at_ i').toNat t.1) j.toNat c' b' := by
  have hy := hd.getD i.toNat
  subst ei
  have st := inv.step hd hq (by omega)
  rw [← ey] at st hy
  have c0 := inv.c0
  have c1 := inv.c1
  have e := less_digit hy hq ⟨c0, c1⟩
  have eai : (intBinR .add .i64 at_ i').toNat = at_.toNat + i'.toNat := by
    show (IntKind.i64.wrap (at_ + i')).toNat = _
    rw [wi64_id (by omega) (by omega)]; omega
  have ej' : j = i' + 1 := by rw [ej]; show IntKind.i64.wrap (i' + 1) = _; rw [wi64_id (by omega) (by omega)]
  have ev' : v = y * q + carry := by
    rw [ev, wu64_id hy.1 (by omega), wu64_id hq.1 (by omega)]
    have : intBinR .mul .u64 y q = y * q := wu64_id e.1 (by omega)
    rw [this]
    exact wu64_id (by omega) (by omega)
  have ec' : c' = v / 4294967296 := by rw [ec]; exact shr32 v
  rw [eai] at et ⊢
  rw [wu32, ev'] at et
  rw [eb, et, ec', ev', ej', show (i' + 1).toNat = i'.toNat + 1 by omega]
  exact ⟨by omega, by omega, by omega, st⟩

/-- what a guess times the divisor taken away leaves -/
structure LessR (r0 d : List Int) (q : Int) (at_ : Nat) (r : List Int) (b : Bool) : Prop where
  len : r.length = r0.length
  lb : Lb r
  same : ∀ j, at_ + d.length + 1 ≤ j → r.getD j 0 = r0.getD j 0
  val : lv r + 4294967296 ^ at_ * (q.toNat * lv d) = lv r0 + (if b then 4294967296 ^ (at_ + d.length + 1) else 0)

theorem less_stop {r0 d r : List Int} {q at_ i carry borrow : Int} (hlr : r0.length < 134217728) (h2 : i ≤ d.length) (h3 : ¬ i < d.length) (ha : 0 ≤ at_) (hat : at_ + d.length < r0.length)
    (inv : LessInv r0 d q at_.toNat r i.toNat carry borrow) {b' : Int} {b : Bool} {t : Int × Int}
    (et : t = ((r.getD (intBinR .add .i64 at_ d.length).toNat 0 - IntKind.u32.wrap carry - borrow) % 4294967296, if r.getD (intBinR .add .i64 at_ d.length).toNat 0 < IntKind.u32.wrap carry + borrow then 1 else 0))
    (eb : b' = t.2) (e : b = cmpR .neq b' 0) : LessR r0 d q at_.toNat (r.set (intBinR .add .i64 at_ d.length).toNat t.1) b := by
  have c0 := inv.c0
  have c1 := inv.c1
  rw [show i.toNat = d.length by omega] at inv
  obtain ⟨k1, k2, k3, k4⟩ := inv.stop (by omega)
  have eai : (intBinR .add .i64 at_ d.length).toNat = at_.toNat + d.length := by
    show (IntKind.i64.wrap (at_ + d.length)).toNat = _
    rw [wi64_id (by omega) (by omega)]; omega
  rw [eai] at et ⊢
  rw [wu32, Int.emod_eq_of_lt c0 c1] at et
  have e1 : t.1 = (r.getD (at_.toNat + d.length) 0 - carry - borrow) % 4294967296 := by rw [et]
  have e2 : b' = if r.getD (at_.toNat + d.length) 0 < carry + borrow then 1 else 0 := by rw [eb, et]
  rw [e1]
  refine ⟨k1, k2, k3, ?_⟩
  rw [k4]
  congr 1
  rw [e, e2]
  split
  · simp [cmpR]
  · simp [cmpR]

theorem more_next {r0 d r : List Int} {at_ i c : Int} (hd : Lb d) (hlr : r0.length < 134217728) (h1 : 0 ≤ i) (h2 : i < d.length) (ha : 0 ≤ at_) (hat : at_ + d.length < r0.length)
    (inv : MoreInv r0 d at_.toNat r i.toNat c) {i' y c' j : Int} {t : Int × Int} (ei : i' = i) (ey : y = d.getD i.toNat 0)
    (et : t = ((r.getD (intBinR .add .i64 at_ i').toNat 0 + y + c) % 4294967296, (r.getD (intBinR .add .i64 at_ i').toNat 0 + y + c) / 4294967296))
    (ec : c' = t.2) (ej : j = intBinR .add .i64 i 1) :
    0 ≤ j ∧ j ≤ d.length ∧ ((d.length : Int) - j).toNat < ((d.length : Int) - i).toNat ∧ MoreInv r0 d at_.toNat (r.set (intBinR .add .i64 at_ i').toNat t.1) j.toNat c' := by
  subst ei
  have st := inv.step hd (by omega)
  rw [← ey] at st
  have eai : (intBinR .add .i64 at_ i').toNat = at_.toNat + i'.toNat := by
    show (IntKind.i64.wrap (at_ + i')).toNat = _
    rw [wi64_id (by omega) (by omega)]; omega
  have ej' : j = i' + 1 := by rw [ej]; show IntKind.i64.wrap (i' + 1) = _; rw [wi64_id (by omega) (by omega)]
  rw [eai] at et ⊢
  rw [ec, et, ej', show (i' + 1).toNat = i'.toNat + 1 by omega]
  exact ⟨by omega, by omega, by omega, st⟩

structure MoreR (r0 d : List Int) (at_ : Nat) (r : List Int) : Prop where
  len : r.length = r0.length
  lb : Lb r
  same : ∀ j, at_ + d.length + 1 ≤ j → r.getD j 0 = r0.getD j 0
  val : ∃ c : Int, 0 ≤ c ∧ c ≤ 1 ∧ lv r + 4294967296 ^ (at_ + d.length + 1) * c.toNat = lv r0 + 4294967296 ^ at_ * lv d

theorem more_stop {r0 d r : List Int} {at_ i c : Int} (hlr : r0.length < 134217728) (h2 : i ≤ d.length) (h3 : ¬ i < d.length) (ha : 0 ≤ at_) (hat : at_ + d.length < r0.length)
    (inv : MoreInv r0 d at_.toNat r i.toNat c) {v : Int} (ev : v = intBinR .add .u32 (r.getD (intBinR .add .i64 at_ d.length).toNat 0) c) : MoreR r0 d at_.toNat (r.set (intBinR .add .i64 at_ d.length).toNat v) := by
  have c0 := inv.c0
  have c1 := inv.c1
  rw [show i.toNat = d.length by omega] at inv
  have hx := inv.lb.getD (at_.toNat + d.length)
  obtain ⟨k1, k2, k3, k4⟩ := inv.stop (by omega)
  have eai : (intBinR .add .i64 at_ d.length).toNat = at_.toNat + d.length := by
    show (IntKind.i64.wrap (at_ + d.length)).toNat = _
    rw [wi64_id (by omega) (by omega)]; omega
  rw [eai] at ev ⊢
  have ev' : v = (r.getD (at_.toNat + d.length) 0 + c) % 4294967296 := by rw [ev]; exact wu32 _
  rw [ev']
  exact ⟨k1, k2, k3, _, by omega, by omega, k4⟩
end Go.Proofs.YtpadpcjdakfokaaGreatDoor.Ev

/- Calls that write the caller's memory, or hand back memory that they have made: contracts of them. -/
namespace Go.Proofs.YtpadpcjdakfokaaGreatDoor.Ev
open Go Go.RowKit
set_option linter.unusedVariables false
set_option linter.unusedSimpArgs false
variable {P : Program} {G : Nat → TI}

/-- A result and the memory behind the call, told under other names; the first n0 blocks keep theirs. -/
def ResLe (n0 : Nat) (ρ : List Nat) (v : AV) (h : List Blk) (r : AV) (h' : List Blk) : Prop :=
  blksM ρ h ρ h' ∧ apartN ρ h' [] = true ∧ idPre ρ n0 = true ∧ n0 ≤ lenB h' ∧ blksIn (lenB h') h' ∧ AVle v (rn3 ρ r) ∧ in3 (lenB h') r = true

theorem callsH_named {f : FuncId} {args : List AV} {h : List Blk} {K K' : AV → List Blk → Prop} (hC : CallsH P f args h K')
    (hK : ∀ v h1, K' v h1 → ∃ ρ r h2, ResLe (lenB h) ρ v h1 r h2 ∧ K r h2) : CallsH P f args h K := by
  intro base O0 μ w vals H hl ha
  refine (hC base O0 μ w vals H hl ha).mono ?_
  rintro e w' ⟨val, v, h1, μ1, rfl, hk, hv, H1, X1, hB⟩
  obtain ⟨ρ, r, h2, ⟨q1, q2, q3, q4, q5, q6, q7⟩, hr⟩ := hK v h1 hk
  have hlen := blksM_len q1
  have N : Named ρ h1 h2 := by
    refine ⟨hlen, fun b x hb hx => ?_, (apartN_at q2 hlen).2, q5⟩
    have := blksM_at q1 hb hx
    exact getBlk_some this (rnB_dead hx)
  refine ⟨val, r, h2, fun b => μ1 (nth0 ρ b), rfl, hr, rel_named N (q6 _ _ hv) q7, H1.named N, ?_, hB⟩
  rw [lenB_eq] at q3
  rw [lenB_eq, lenB_eq] at q4
  refine ⟨fun n hn => N.ok (X1.o n hn), fun b hb => ?_, by simp only [mkX]; omega, fun b hb n hn => ?_, X1.cell, X1.shape⟩
  · have := idPre_at q3 b (by simpa only [mkX] using hb)
    show μ1 (nth0 ρ b) = _
    rw [this]
    exact X1.mu b hb
  · have := idPre_at q3 b (by simpa only [mkX] using hb)
    have hd := N.dim hn
    rw [this] at hd
    exact X1.dim b hb n hd

theorem callsH_mono {f : FuncId} {args : List AV} {h : List Blk} {K K' : AV → List Blk → Prop} (hC : CallsH P f args h K') (hK : ∀ v h1, K' v h1 → K v h1) : CallsH P f args h K := by
  intro base O0 μ w vals H hl ha
  refine (hC base O0 μ w vals H hl ha).mono ?_
  rintro e w' ⟨val, v, h1, μ1, rfl, hk, hr⟩
  exact ⟨val, v, h1, μ1, rfl, hK v h1 hk, hr⟩

/-- A contract of a call over memory, out of a run. -/
theorem callsH_of (hG : GOK P G) (hm : P.follows .mixedOrders = true) {f : FuncId} {fn : Func} (hf : P.funcs[f]? = some fn) {args : List AV} (ho : fnOK fn args.length = true)
    {h : List Blk} {K : AV → List Blk → Prop} (hv : ∀ E, E = realE P → ∀ lp, Loops P fn.ntmps lp → evF E G lp fn args h K) : CallsH P f args h K :=
  E_in rfl hG hm hf ho (fz := none) (fun lp hl => hv _ rfl lp hl)

theorem E_callH {E : Env} (hE : E = realE P) {f : FuncId} {args : List AV} {h : List Blk} {K K' : AV → List Blk → Prop} {fz : Option (List AV × List Blk)} (hC : CallsH P f args h K') (hK : ∀ v h1, K' v h1 → K v h1) : E.call f args h fz K := by
  subst hE; exact callsH_mono hC hK
end Go.Proofs.YtpadpcjdakfokaaGreatDoor.Ev

/- Contracts: a guess times the divisor taken away, and given back: both write the caller's memory. Printed by gen.py. -/
namespace Go.Proofs.YtpadpcjdakfokaaGreatDoor.Ev
open Go Go.Proofs
set_option linter.unusedVariables false
set_option linter.unusedSimpArgs false


attribute [local irreducible] Lb
def lessS (E : Env) (d z Q : List Int) (q at_ n : Int) : Int × Int × Int × List Int → St := fun p => ⟨[(0, .ms 2 1 (.l 0) (.s n)), (1, .sli .u32 d), (2, .int .u32 (.s q)), (3, .int .i64 (.s at_)), (9, .int .u32 (.s p.2.2.1)), (10, .int .u64 (.s p.2.1)), (14, .sli .u32 d), (15, .int .i64 (.s (E.len d))), (16, .int .i64 (.s p.1))],
  [.dead, .ints true .u32 z, .ints true .u32 p.2.2.2, .ints true .u32 Q]⟩
set_option maxHeartbeats 2000000 in
theorem h_less (d z R Q : List Int) (q at_ n : Int) (hd : Lb d) (hR : Lb R) (hq : 0 ≤ q ∧ q < 4294967296) (hlr : R.length < 134217728) (ha : 0 ≤ at_) (hat : at_ + d.length < R.length) (hn : at_ + d.length < n) (hn2 : n ≤ R.length) :
    CallsH Tryz.prog 205 [.ms 2 1 (.l 0) (.s n), .sli .u32 d, .int .u32 (.s q), .int .i64 (.s at_)] [.dead, .ints true .u32 z, .ints true .u32 R, .ints true .u32 Q]
      (fun v h => ∃ r b, v = .bool (.s b) ∧ h = [.dead, .ints true .u32 z, .ints true .u32 r, .ints true .u32 Q] ∧ LessR R d q at_.toNat r b) := by
  obtain ⟨m, em⟩ : ∃ m : Int × Int × Int × List Int → Nat, ∀ p, m p = (d.length - p.1).toNat := ⟨_, fun _ => rfl⟩
  obtain ⟨ok, eok⟩ : ∃ ok : Int × Int × Int × List Int → Prop, ∀ p, ok p ↔ 0 ≤ p.1 ∧ p.1 ≤ d.length ∧ LessInv R d q at_.toNat p.2.2.2 p.1.toNat p.2.1 p.2.2.1 := ⟨_, fun _ => Iff.rfl⟩
  refine callsH_of hG hm Tryz.func205 (by kernel_rfl) ?_
  intro E hE lp hl
  cbv
  repeat' (first
    | (refine E_br hE (fun h => ?_) (fun h => ?_) <;> cbv)
    | (refine E_nm hE (fun v hv => ?_); cbv)
    | (refine E_nilS hE (fun b hb => ?_); cbv)
    | fail)
  refine E_loop hE hG hm hl (lessS E d z Q q at_ n) m ok ⟨(0, 0, 0, R), (eok _).2 ⟨by show (0 : Int) ≤ 0; omega, by show (0 : Int) ≤ d.length; omega, LessInv.start d q at_.toNat hR⟩, stLe rfl ?_⟩ ?_
  · (repeat' (first | exact t_nil | apply t_cons | exact u2_sli | exact u2_int | exact u2_bool | exact u2_ms | exact u2_ptr | exact (rfl : sle2 .s0 .s0)))
  rintro ⟨i, carry, borrow, r⟩ hok
  have h1 : 0 ≤ i := ((eok _).1 hok).1
  have h2 : i ≤ d.length := ((eok _).1 hok).2.1
  have inv : LessInv R d q at_.toNat r i.toNat carry borrow := ((eok _).1 hok).2.2
  have lr := inv.lb
  have hol := inv.len
  have b0 := inv.b0
  have b1 := inv.b1
  have w1 : ∀ x : Int, 0 ≤ IntKind.u32.wrap x := fun x => by rw [wu32]; omega
  have w2 : ∀ x : Int, IntKind.u32.wrap x < 4294967296 := fun x => by rw [wu32]; omega
  clear hok
  cbv
  repeat' (first
    | (refine E_br hE (fun h => ?_) (fun h => ?_) <;> cbv)
    | (refine E_nm hE (fun v hv => ?_); cbv)
    | (refine E_nilS hE (fun b hb => ?_); cbv)
    | (apply E_callX hE (c_Sub32 _ _ _ ?_ ?_ ?_ ?_ ?_ ?_); (case hf => rfl); (case hc => (cbv <;> trivial)); (case hle => exact u_up); all_goals (first | (intro t ht; cbv) | (((try simp only [SI.val]); first | omega | (subst hE; first | exact (lr.getD _).1 | exact (lr.getD _).2 | exact w1 _ | exact w2 _)))))
    | fail)
  all_goals (try (rename_i c' ec _ _ _; refine ⟨(E.bin .add .i64 i 1, c', v, E.set r (E.bin .add .i64 at_ _) t.1), ?_, ?_, stLe rfl ?_⟩))
  all_goals (try ((repeat' (first | exact t_nil | apply t_cons | exact u2_sli | exact u2_int | exact u2_bool | exact u2_ms | exact u2_ptr | exact (rfl : sle2 .s0 .s0))); done))
  all_goals (subst hE)
  all_goals (try (first
    | (rw [em, em]; exact (less_next hd hq hlr h1 (lss_t ‹_›) ha hat inv ‹_ = i› ‹_› ‹_› ‹t = _› ‹_› rfl ‹_›).2.2.1)
    | (rw [eok]; have q := less_next hd hq hlr h1 (lss_t ‹_›) ha hat inv ‹_ = i› ‹_› ‹_› ‹t = _› ‹_› rfl ‹_›; exact ⟨q.1, q.2.1, q.2.2.2⟩)
    | exact ⟨_, _, rfl, rfl, less_stop hlr h2 (lss_f ‹_›) ha hat inv ‹t = _› ‹_› rfl⟩))
  all_goals (clear inv eok em w1 w2; simp only [NatCast.natCast, Int.ofNat_eq_natCast, realE, cmp_eql, cmp_neq, cmp_lss, cmp_leq, cmp_gtr, cmp_geq, intBinR, decide_eq_true_eq, decide_eq_false_iff_not, SI.val, SB.val, Num.eta, Iv.eta] at *; (try simp only [wi64] at *); subst_vars; omega)

def moreS (E : Env) (d z Q : List Int) (at_ n : Int) : Int × Int × List Int → St := fun p => ⟨[(0, .ms 2 1 (.l 0) (.s n)), (1, .sli .u32 d), (2, .int .i64 (.s at_)), (6, .int .u32 (.s p.2.1)), (9, .sli .u32 d), (10, .int .i64 (.s (E.len d))), (11, .int .i64 (.s p.1))],
  [.dead, .ints true .u32 z, .ints true .u32 p.2.2, .ints true .u32 Q]⟩
set_option maxHeartbeats 2000000 in
theorem h_more (d z R Q : List Int) (at_ n : Int) (hd : Lb d) (hR : Lb R) (hlr : R.length < 134217728) (ha : 0 ≤ at_) (hat : at_ + d.length < R.length) (hn : at_ + d.length < n) (hn2 : n ≤ R.length) :
    CallsH Tryz.prog 206 [.ms 2 1 (.l 0) (.s n), .sli .u32 d, .int .i64 (.s at_)] [.dead, .ints true .u32 z, .ints true .u32 R, .ints true .u32 Q]
      (fun v h => ∃ r, v = .tup [] ∧ h = [.dead, .ints true .u32 z, .ints true .u32 r, .ints true .u32 Q] ∧ MoreR R d at_.toNat r) := by
  obtain ⟨m, em⟩ : ∃ m : Int × Int × List Int → Nat, ∀ p, m p = (d.length - p.1).toNat := ⟨_, fun _ => rfl⟩
  obtain ⟨ok, eok⟩ : ∃ ok : Int × Int × List Int → Prop, ∀ p, ok p ↔ 0 ≤ p.1 ∧ p.1 ≤ d.length ∧ MoreInv R d at_.toNat p.2.2 p.1.toNat p.2.1 := ⟨_, fun _ => Iff.rfl⟩
  refine callsH_of hG hm Tryz.func206 (by kernel_rfl) ?_
  intro E hE lp hl
  cbv
  repeat' (first
    | (refine E_br hE (fun h => ?_) (fun h => ?_) <;> cbv)
    | (refine E_nm hE (fun v hv => ?_); cbv)
    | (refine E_nilS hE (fun b hb => ?_); cbv)
    | fail)
  refine E_loop hE hG hm hl (moreS E d z Q at_ n) m ok ⟨(0, 0, R), (eok _).2 ⟨by show (0 : Int) ≤ 0; omega, by show (0 : Int) ≤ d.length; omega, MoreInv.start d at_.toNat hR⟩, stLe rfl ?_⟩ ?_
  · (repeat' (first | exact t_nil | apply t_cons | exact u2_sli | exact u2_int | exact u2_bool | exact u2_ms | exact u2_ptr | exact (rfl : sle2 .s0 .s0)))
  rintro ⟨i, c, r⟩ hok
  have h1 : 0 ≤ i := ((eok _).1 hok).1
  have h2 : i ≤ d.length := ((eok _).1 hok).2.1
  have inv : MoreInv R d at_.toNat r i.toNat c := ((eok _).1 hok).2.2
  have lr := inv.lb
  have hol := inv.len
  have c0 := inv.c0
  have c1 := inv.c1
  have g1 : ∀ v, v = E.get d i → 0 ≤ v := by subst hE; intro v e; rw [e]; exact (hd.getD _).1
  have g2 : ∀ v, v = E.get d i → v < 4294967296 := by subst hE; intro v e; rw [e]; exact (hd.getD _).2
  clear hok
  cbv
  repeat' (first
    | (refine E_br hE (fun h => ?_) (fun h => ?_) <;> cbv)
    | (refine E_nm hE (fun v hv => ?_); cbv)
    | (refine E_nilS hE (fun b hb => ?_); cbv)
    | (apply E_callX hE (c_Add32 _ _ _ ?_ ?_ ?_ ?_ ?_ ?_); (case hf => rfl); (case hc => (cbv <;> trivial)); (case hle => exact u_up); all_goals (first | (intro t ht; cbv) | (((try simp only [SI.val]); first | omega | exact g1 _ ‹_› | exact g2 _ ‹_› | (subst hE; first | exact (lr.getD _).1 | exact (lr.getD _).2)))))
    | fail)
  all_goals (try (refine ⟨(E.bin .add .i64 i 1, v, E.set r (E.bin .add .i64 at_ _) t.1), ?_, ?_, stLe rfl ?_⟩))
  all_goals (try ((repeat' (first | exact t_nil | apply t_cons | exact u2_sli | exact u2_int | exact u2_bool | exact u2_ms | exact u2_ptr | exact (rfl : sle2 .s0 .s0))); done))
  all_goals (subst hE)
  all_goals (try (first
    | (rw [em, em]; exact (more_next hd hlr h1 (lss_t ‹_›) ha hat inv ‹_ = i› ‹_› ‹t = _› ‹_› rfl).2.2.1)
    | (rw [eok]; have q := more_next hd hlr h1 (lss_t ‹_›) ha hat inv ‹_ = i› ‹_› ‹t = _› ‹_› rfl; exact ⟨q.1, q.2.1, q.2.2.2⟩)
    | exact ⟨_, rfl, rfl, more_stop hlr h2 (lss_f ‹_›) ha hat inv rfl⟩))
  all_goals (clear inv eok em g1 g2; simp only [NatCast.natCast, Int.ofNat_eq_natCast, realE, cmp_eql, cmp_neq, cmp_lss, cmp_leq, cmp_gtr, cmp_geq, intBinR, decide_eq_true_eq, decide_eq_false_iff_not, SI.val, SB.val, Num.eta, Iv.eta] at *; (try simp only [wi64] at *); subst_vars; omega)
  all_goals trace_state

end Go.Proofs.YtpadpcjdakfokaaGreatDoor.Ev

/- Contracts: limbs shifted, into memory that the caller writes. Printed by gen.py. -/
namespace Go.Proofs.YtpadpcjdakfokaaGreatDoor.Ev
open Go Go.Proofs
set_option linter.unusedVariables false
set_option linter.unusedSimpArgs false


attribute [local irreducible] Lb
set_option maxHeartbeats 1000000 in
theorem h_cut (L : List Int) (n : Int) (hL : Lb L) (hl : L.length < 268435456) (hn : n = L.length) :
    CallsH Tryz.prog 191 [.ms 0 1 (.l 0) (.s n)] [.ints true .u32 L] (fun v h => ∃ k : Int, v = .ms 0 1 (.l 0) (.s k) ∧ h = [.ints true .u32 L] ∧ 0 ≤ k ∧ k ≤ L.length ∧ L.take k.toNat = lim (lv L)) := by
  obtain ⟨m, em⟩ : ∃ m : Int → Nat, ∀ p, m p = p.toNat := ⟨_, fun _ => rfl⟩
  obtain ⟨ok, eok⟩ : ∃ ok : Int → Prop, ∀ p, ok p ↔ 0 ≤ p ∧ p ≤ L.length ∧ lv (L.take p.toNat) = lv L := ⟨_, fun _ => Iff.rfl⟩
  have s0 : 0 ≤ n ∧ n ≤ L.length ∧ lv (L.take n.toNat) = lv L := ⟨by omega, by omega, by rw [hn, Int.toNat_natCast, List.take_length]⟩
  refine callsH_of hG hm Tryz.func191 (by kernel_rfl) ?_
  intro E hE lp hl'
  cbv
  refine E_loop hE hG hm hl' (fun p : Int => (⟨[(0, .ms 0 1 (.l 0) (.s p)), (2, .s0)], [.ints true .u32 L]⟩ : St)) m ok ⟨n, (eok _).2 s0, stLe rfl ?_⟩ ?_
  · (repeat' (first | exact t_nil | apply t_cons | exact u2_sli | exact u2_int | exact u2_bool | exact u2_ms | exact u2_ptr | exact (rfl : sle2 .s0 .s0)))
  intro k hok
  have h1 : 0 ≤ k := ((eok _).1 hok).1
  have h2 : k ≤ L.length := ((eok _).1 hok).2.1
  have h3 : lv (L.take k.toNat) = lv L := ((eok _).1 hok).2.2
  have next : ∀ j : Int, 0 < k → j = intBinR .sub .i64 k 1 → L.getD j.toNat 0 = 0 → 0 ≤ j ∧ j ≤ L.length ∧ j.toNat < k.toNat ∧ lv (L.take j.toNat) = lv L := by
    intro j h0 hj hz
    have hj' : j = k - 1 := by rw [hj]; exact wi64_id (by omega) (by omega)
    refine ⟨by omega, by omega, by omega, ?_⟩
    rw [show j.toNat = k.toNat - 1 by omega] at hz ⊢
    rw [lv_cut_step (by omega) (by omega) hz, h3]
  have fin : (k = 0 ∨ L.getD (intBinR .sub .i64 k 1).toNat 0 ≠ 0) → L.take k.toNat = lim (lv L) := by
    intro h
    refine cut_end hL (by omega) ?_ h3
    rcases h with h | h
    · exact .inl (by omega)
    · rcases Int.lt_or_le 0 k with h0 | h0
      · have e : intBinR .sub .i64 k 1 = k - 1 := wi64_id (by omega) (by omega)
        rw [e, show (k - 1).toNat = k.toNat - 1 by omega] at h
        exact .inr h
      · exact .inl (by omega)
  clear hok
  cbv
  repeat' (first
    | (refine E_br hE (fun h => ?_) (fun h => ?_) <;> cbv)
    | (refine E_nm hE (fun v hv => ?_); cbv)
    | (refine E_nilS hE (fun b hb => ?_); cbv)
    | fail)
  all_goals (try (refine ⟨E.bin .sub .i64 k 1, ?_, ?_, stLe rfl ?_⟩))
  all_goals (try ((repeat' (first | exact t_nil | apply t_cons | exact u2_sli | exact u2_int | exact u2_bool | exact u2_ms | exact u2_ptr | exact (rfl : sle2 .s0 .s0))); done))
  all_goals (subst hE)
  all_goals (try (first
    | (rw [em, em]; exact (next _ (gtr_t ‹_›) rfl (eql_t ‹_›)).2.2.1)
    | (rw [eok]; have q := next _ (gtr_t ‹_›) rfl (eql_t ‹_›); exact ⟨q.1, q.2.1, q.2.2.2⟩)
    | exact ⟨k, rfl, rfl, h1, h2, fin (.inr (eql_f ‹_›))⟩
    | exact ⟨k, rfl, rfl, h1, h2, fin (.inl (by have := gtr_f ‹_›; omega))⟩))
  all_goals (clear next fin eok em s0; simp only [NatCast.natCast, Int.ofNat_eq_natCast, realE, cmp_eql, cmp_neq, cmp_lss, cmp_leq, cmp_gtr, cmp_geq, intBinR, decide_eq_true_eq, decide_eq_false_iff_not, SI.val, SB.val, Num.eta, Iv.eta] at *; (try simp only [wi64] at *); omega)

theorem h_Clone (a : List Int) (ha : 0 < a.length) (hl : a.length ≤ 268435456) :
    CallsH Tryz.prog 192 [.sli .u32 a] [] (fun v h => ∃ L k, v = .ms 0 1 (.l 0) (.s k) ∧ h = [.ints true .u32 L] ∧ k = (a.length : Int) ∧ L = a) := by
  refine callsH_named (callsH_of (K := fun v h => ∃ L k, v = .ms 1 1 (.l 0) (.s k) ∧ h = [.dead, .ints true .u32 L] ∧ k = (a.length : Int) ∧ L = a) hG hm Tryz.func192 (by kernel_rfl) ?_) ?_
  · intro E hE lp hl'
    cbv
    repeat' (first
    | (refine E_br hE (fun h => ?_) (fun h => ?_) <;> cbv)
    | (refine E_nm hE (fun v hv => ?_); cbv)
    | (refine E_nilS hE (fun b hb => ?_); cbv)
    | fail)
    all_goals (subst hE)
    · exfalso; have := hb h; simp only [realE] at this; omega
    · exact ⟨_, _, rfl, rfl, rfl, rfl⟩
    · have := leq_f h; simp only [realE] at this; omega
  · rintro v h ⟨L, k, rfl, rfl, hk, hL⟩
    exact ⟨[1], .ms 0 1 (.l 0) (.s k), [.ints true .u32 L], ⟨⟨rfl, trivial⟩, rfl, rfl, Nat.zero_le _, trivial, ms_le rfl rfl, rfl⟩, L, k, rfl, rfl, hk, hL⟩
set_option maxHeartbeats 1000000 in
theorem h_Shl (a : List Int) (n : Int) (ha : Lb a) (hla : a.length < 67108864) (ha0 : 0 < lv a) (hn0 : 0 ≤ n) (hn1 : n ≤ 16777216) :
    CallsH Tryz.prog 130 [.sli .u32 a, .int .i64 (.s n)] [] (fun v h => ∃ L k, v = .ms 0 1 (.l 0) (.s k) ∧ h = [.ints true .u32 L] ∧ 0 ≤ k ∧ k ≤ L.length ∧ L.take k.toNat = lim (lv a * 2 ^ n.toNat) ∧ L.length ≤ 134217728) := by
  generalize hr : lim (lv a * 2 ^ n.toNat) = r
  have hlx := lim_length_le' ha
  have hx := lim_lb (lv a)
  have vx := lv_lim (lv a)
  obtain ⟨x, ex⟩ : ∃ x, lim (lv a) = x := ⟨_, rfl⟩
  rw [ex] at hlx hx vx
  have hx0 : 0 < x.length := by
    rcases Nat.eq_zero_or_pos x.length with h | h
    · rw [List.length_eq_zero_iff.1 h] at vx; simp only [lv] at vx; omega
    · exact h
  obtain ⟨m, em⟩ : ∃ m : Int × List Int → Nat, ∀ p, m p = (x.length - p.1).toNat := ⟨_, fun _ => rfl⟩
  obtain ⟨ok, eok⟩ : ∃ ok : Int × List Int → Prop, ∀ p, ok p ↔ 0 ≤ p.1 ∧ p.1 ≤ x.length ∧ ShlInv x p.2 (n / 32).toNat (n % 32).toNat p.1.toNat := ⟨_, fun _ => Iff.rfl⟩
  have eN : ∀ l : Int, 1 ≤ n → n ≤ 16777216 → l = intBinR .quo .i64 n 32 → IntKind.i64.wrap (IntKind.i64.wrap ((x.length : Int) + l) + 1) = x.length + n / 32 + 1 := by
    intro l n1 n2 el
    have : l = n / 32 := by rw [el]; exact quo32 (by omega) (by omega)
    rw [this, wi64_id (n := (x.length : Int) + n / 32) (by omega) (by omega), wi64_id (by omega) (by omega)]
  refine callsH_of hG hm Tryz.func130 (by kernel_rfl) ?_
  intro E hE lp hl
  cbv
  (apply E_callX hE (c_cut a ha (by omega)); (case hf => rfl); (case hc => (cbv <;> trivial)); (case hle => exact ⟨u2_sli, trivial⟩); intro x' hx'; cbv)
  rw [hx'.trans ex]
  clear hx' x'
  refine E_br hE (fun h => ?_) (fun h => ?_)
  · have e : x = r := by subst hE; have := lss_t h; rw [← hr, show n.toNat = 0 by omega, Nat.pow_zero, Nat.mul_one, ex]
    cbv
    refine E_callH hE (h_Clone x hx0 (by omega)) ?_
    rintro v h1 ⟨L, k, rfl, rfl, hk, hL⟩
    cbv
    exact ⟨L, k, rfl, rfl, by rw [hk]; exact Int.natCast_nonneg _, by rw [hk, hL]; exact Int.le_refl _, by rw [hk, hL, Int.toNat_natCast, List.take_length]; exact e, by rw [hL]; omega⟩
  have n1 : 1 ≤ n := by subst hE; have := lss_f h; omega
  cbv
  repeat' (first
    | (refine E_br hE (fun h => ?_) (fun h => ?_) <;> cbv)
    | (refine E_nm hE (fun v hv => ?_); cbv)
    | (refine E_nilS hE (fun b hb => ?_); cbv)
    | fail)
  · exfalso; subst hE; have := gtr_t ‹_›; omega
  · exfalso
    have e0 : x.length = 0 := by subst hE; have := eql_t h; simp only [realE] at this; omega
    omega
  all_goals (have n2 : n ≤ 16777216 := (by subst hE; have := gtr_f ‹(realE Tryz.prog).cmp .gtr n 16777216 = false›; omega))
  all_goals (try (exfalso; have := eN _ n1 n2 (by subst hE; assumption); subst hE; simp only [NatCast.natCast, Int.ofNat_eq_natCast, realE, cmp_eql, cmp_neq, cmp_lss, cmp_leq, cmp_gtr, cmp_geq, intBinR, decide_eq_true_eq, decide_eq_false_iff_not, SI.val, SB.val, Num.eta, Iv.eta] at *; rw [this] at *; omega))
  rename_i l el _ _
  replace eN := eN l n1 n2 (by subst hE; exact el)
  simp only [NatCast.natCast, Int.ofNat_eq_natCast] at eN
  have er := hv
  have l1 : l = n / 32 := by subst hE; rw [el]; exact quo32 (by omega) (by omega)
  have r1 : 0 ≤ v := by
    have : v = n % 32 := by subst hE; rw [hv]; exact rem32 (by omega)
    omega
  clear hv
  refine E_loop hE hG hm hl (shlS E x l v) m ok ⟨(0, E.rep (E.bin .add .i64 (E.bin .add .i64 (E.len x) l) 1)), (eok _).2 ?_, stLe rfl ?_⟩ ?_
  · refine ⟨by show (0 : Int) ≤ 0; omega, by show (0 : Int) ≤ x.length; omega, ?_⟩
    have := ShlInv.start x (n / 32).toNat (n % 32).toNat
    subst hE; simp only [NatCast.natCast, Int.ofNat_eq_natCast, realE, cmp_eql, cmp_neq, cmp_lss, cmp_leq, cmp_gtr, cmp_geq, intBinR, decide_eq_true_eq, decide_eq_false_iff_not, SI.val, SB.val, Num.eta, Iv.eta] at *; rw [eN, show ((x.length : Int) + n / 32 + 1).toNat = x.length + (n / 32).toNat + 1 by omega]
    exact this
  · (repeat' (first | exact t_nil | apply t_cons | exact u2_sli | exact u2_int | exact u2_bool | exact u2_ms | exact u2_ptr | exact (rfl : sle2 .s0 .s0)))
  rintro ⟨i, out⟩ hok
  have h1 : 0 ≤ i := ((eok _).1 hok).1
  have h2 : i ≤ x.length := ((eok _).1 hok).2.1
  have inv : ShlInv x out (n / 32).toNat (n % 32).toNat i.toNat := ((eok _).1 hok).2.2
  have hol := inv.len
  have fin : ¬ i < x.length → lim (lv out) = r := by
    intro h
    have inv' := inv
    rw [show i.toNat = x.length by omega] at inv'
    rw [inv'.stop, ← hr, vx, show 32 * (n / 32).toNat + (n % 32).toNat = n.toNat by omega]
  have lo := inv.lb
  have hol2 : out.length ≤ 134217728 := by omega
  have eNN : E.bin .add .i64 (E.bin .add .i64 (E.len x) l) 1 = (out.length : Int) := by
    subst hE; show IntKind.i64.wrap (IntKind.i64.wrap ((x.length : Int) + l) + 1) = _; rw [eN]; omega
  clear hok hr ex
  cbv
  repeat' (first
    | (refine E_br hE (fun h => ?_) (fun h => ?_) <;> cbv)
    | (refine E_nm hE (fun v hv => ?_); cbv)
    | (refine E_nilS hE (fun b hb => ?_); cbv)
    | fail)
  all_goals (try (
    refine E_callH hE (h_cut out (E.bin .add .i64 (E.bin .add .i64 (E.len x) l) 1) lo (by omega) eNN) ?_
    rintro v h1 ⟨k, rfl, rfl, k1, k2, k3⟩
    cbv
    exact ⟨out, k, rfl, rfl, k1, k2, k3.trans (fin (by subst hE; exact lss_f ‹_›)), hol2⟩))
  all_goals (try refine ⟨(E.bin .add .i64 i 1, _), ?_, ?_, stLe rfl ?_⟩)
  all_goals (try ((repeat' (first | exact t_nil | apply t_cons | exact u2_sli | exact u2_int | exact u2_bool | exact u2_ms | exact u2_ptr | exact (rfl : sle2 .s0 .s0))); done))
  all_goals (subst hE)
  all_goals (try (first | (rw [em, em]; exact (shl_next hx (by omega) n1 n2 h1 (lss_t ‹_›) inv ‹_› el er ‹_› ‹_› rfl).2.2.1) | (rw [eok]; have q := shl_next hx (by omega) n1 n2 h1 (lss_t ‹_›) inv ‹_› el er ‹_› ‹_› rfl; exact ⟨q.1, q.2.1, q.2.2.2⟩)))
  all_goals (clear inv eok em fin er el; simp only [NatCast.natCast, Int.ofNat_eq_natCast, realE, cmp_eql, cmp_neq, cmp_lss, cmp_leq, cmp_gtr, cmp_geq, intBinR, decide_eq_true_eq, decide_eq_false_iff_not, SI.val, SB.val, Num.eta, Iv.eta] at *; (try rw [eN] at *); clear eN; (try simp only [wi64] at *); omega)
end Go.Proofs.YtpadpcjdakfokaaGreatDoor.Ev

/- A long division's start, rounds and end, as the words of the program reckon them. -/
namespace Go.Proofs.YtpadpcjdakfokaaGreatDoor.Ev
open Go

theorem lim_length_ge {n k : Nat} (h : 0 < k) (hk : 4294967296 ^ (k - 1) ≤ n) : k ≤ (lim n).length := by
  have := lim_length_lt hk
  omega

theorem lv_ge_last {a : List Int} (h : Lb a) (hne : a ≠ []) (h0 : a.getD (a.length - 1) 0 ≠ 0) : 4294967296 ^ (a.length - 1) ≤ lv a := by
  have hl : 0 < a.length := List.length_pos_iff.2 hne
  have e := lv_take_succ (a := a) (i := a.length - 1) (by omega)
  rw [show a.length - 1 + 1 = a.length by omega, lv_take_all] at e
  have hg := h.getD (a.length - 1)
  have : 4294967296 ^ (a.length - 1) * 1 ≤ 4294967296 ^ (a.length - 1) * (a.getD (a.length - 1) 0).toNat := Nat.mul_le_mul_left _ (by omega)
  omega

/-- The divisor, moved up as far as its limbs go. -/
theorem norm_len {y : List Int} {by_ : Int} (h : Lb y) (hne : y ≠ []) (h0 : y.getD (y.length - 1) 0 ≠ 0) (e : by_ = 32 - blen (y.getD (y.length - 1) 0)) :
    0 ≤ by_ ∧ by_ < 32 ∧ (lim (lv y * 2 ^ by_.toNat)).length = y.length := by
  have hl : 0 < y.length := List.length_pos_iff.2 hne
  have hg := h.getD (y.length - 1)
  have b1 := blen_le 32 (x := y.getD (y.length - 1) 0) (by omega)
  obtain ⟨n, q1, q2, q3⟩ := blen_pos (x := y.getD (y.length - 1) 0) (by omega)
  have hb : 0 ≤ by_ ∧ by_ < 32 := by omega
  refine ⟨hb.1, hb.2, ?_⟩
  have hL := blen_len h hne h0
  have hN : blen (lv y : Int) = ((32 * (y.length - 1) + n : Nat) : Int) + 1 := by rw [hL, q1]; omega
  obtain ⟨k1, k2⟩ := (blen_nat_iff _).1 hN
  have p : (4294967296 : Nat) ^ y.length = 2 ^ (32 * (y.length - 1) + n + 1) * 2 ^ by_.toNat := by
    rw [← Nat.pow_add, show (4294967296 : Nat) = 2 ^ 32 by rfl, ← Nat.pow_mul]
    congr 1
    omega
  apply Nat.le_antisymm
  · apply lim_length_le
    rw [p]
    exact Nat.mul_lt_mul_of_pos_right k2 (Nat.two_pow_pos _)
  · apply lim_length_ge hl
    have := lv_ge_last h hne h0
    have h2 : lv y * 1 ≤ lv y * 2 ^ by_.toNat := Nat.mul_le_mul_left _ (Nat.two_pow_pos _)
    omega

theorem div_start {x y : List Int} {k : Nat} (hx : Lb x) (hy : Lb y) (hxn : x ≠ []) (hyn : y ≠ []) (hx0 : x.getD (x.length - 1) 0 ≠ 0) (hy0 : y.getD (y.length - 1) 0 ≠ 0) (hle : y.length ≤ x.length) :
    DivInv (lv x * 2 ^ k) (lv y * 2 ^ k) y.length (lim (lv x * 2 ^ k) ++ [0, 0]) (List.replicate (x.length - y.length + 1) 0) (x.length - y.length + 1) := by
  have hyl : 0 < y.length := List.length_pos_iff.2 hyn
  have hxl : 0 < x.length := List.length_pos_iff.2 hxn
  have g1 := lv_ge_last hx hxn hx0
  have g2 := lv_ge_last hy hyn hy0
  have g3 := lv_lt hx
  have e0 : lv (lim (lv x * 2 ^ k) ++ [0, 0]) = lv x * 2 ^ k := by
    rw [lv_append, lv_lim]
    simp [lv]
  refine ⟨?_, (lim_lb _).append (Lb.cons (by omega) (by omega) (Lb.cons (by omega) (by omega) Lb.nil)), Lb.replicate _, fun j _ => getD_replicate0 _ _, ?_, ?_⟩
  · have : x.length ≤ (lim (lv x * 2 ^ k)).length := by
      apply lim_length_ge hxl
      have : lv x * 1 ≤ lv x * 2 ^ k := Nat.mul_le_mul_left _ (Nat.two_pow_pos _)
      omega
    simp only [List.length_replicate, List.length_append, List.length_cons, List.length_nil]
    omega
  · rw [lv_replicate, e0]; omega
  · rw [e0]
    have e1 : lv y * 2 ^ k * 4294967296 ^ (x.length - y.length + 1) = 2 ^ k * (lv y * 4294967296 ^ (x.length - y.length + 1)) := by grind
    have e2 : 4294967296 ^ (y.length - 1) * 4294967296 ^ (x.length - y.length + 1) = 4294967296 ^ x.length := by
      rw [← Nat.pow_add]; congr 1; omega
    have e3 : 4294967296 ^ (y.length - 1) * 4294967296 ^ (x.length - y.length + 1) ≤ lv y * 4294967296 ^ (x.length - y.length + 1) := Nat.mul_le_mul_right _ g2
    rw [e1, Nat.mul_comm (lv x)]
    exact Nat.mul_lt_mul_of_pos_left (by omega) (Nat.two_pow_pos _)

section
variable {A : Nat} {d R Q : List Int} {at_ top i i' : Int}
/-- where a round works -/
theorem div_at (hl : Q.length < 134217728) (h1 : 0 ≤ i) (h2 : i < Q.length) (ei : i' = i) (ea : at_ = intBinR .sub .i64 (intBinR .sub .i64 Q.length 1) i') : at_ = Q.length - 1 - i := by
  subst ei
  rw [ea]
  show IntKind.i64.wrap (IntKind.i64.wrap ((Q.length : Int) - 1) - i') = _
  rw [wi64_id (n := (Q.length : Int) - 1) (by omega) (by omega), wi64_id (by omega) (by omega)]

theorem div_guess (hi : DivInv A (lv d) d.length R Q (at_.toNat + 1)) (hd : Lb d) (hn : 2 ≤ d.length) (h0 : d.getD (d.length - 1) 0 ≠ 0) (hl : R.length < 134217728) (ha : 0 ≤ at_) (hat : at_ < Q.length)
    (et : top = intBinR .add .i64 at_ d.length) :
    GuessIn (R.getD top.toNat 0) (R.getD (intBinR .sub .i64 top 1).toNat 0) (R.getD (intBinR .sub .i64 top 2).toNat 0) (d.getD (intBinR .sub .i64 d.length 1).toNat 0) (d.getD (intBinR .sub .i64 d.length 2).toNat 0) ∧
    (guessQ (R.getD top.toNat 0) (R.getD (intBinR .sub .i64 top 1).toNat 0) (R.getD (intBinR .sub .i64 top 2).toNat 0) (d.getD (intBinR .sub .i64 d.length 1).toNat 0) (d.getD (intBinR .sub .i64 d.length 2).toNat 0)
      = guessQ (R.getD (at_.toNat + d.length) 0) (R.getD (at_.toNat + d.length - 1) 0) (R.getD (at_.toNat + d.length - 2) 0) (d.getD (d.length - 1) 0) (d.getD (d.length - 2) 0)) := by
  have hr := hi.lenr
  have et' : top = at_ + d.length := by rw [et]; exact wi64_id (by omega) (by omega)
  have e1 : (intBinR .sub .i64 top 1).toNat = at_.toNat + d.length - 1 := by
    have : intBinR .sub .i64 top 1 = top - 1 := wi64_id (by omega) (by omega)
    omega
  have e2 : (intBinR .sub .i64 top 2).toNat = at_.toNat + d.length - 2 := by
    have : intBinR .sub .i64 top 2 = top - 2 := wi64_id (by omega) (by omega)
    omega
  have e3 : (intBinR .sub .i64 d.length 1).toNat = d.length - 1 := by
    have : intBinR .sub .i64 (d.length : Int) 1 = d.length - 1 := wi64_id (by omega) (by omega)
    omega
  have e4 : (intBinR .sub .i64 d.length 2).toNat = d.length - 2 := by
    have : intBinR .sub .i64 (d.length : Int) 2 = d.length - 2 := wi64_id (by omega) (by omega)
    omega
  rw [e1, e2, e3, e4, show top.toNat = at_.toNat + d.length by omega]
  exact ⟨hi.in_ hd hn rfl (by omega) h0, rfl⟩

theorem div_same {g : Int} {r : List Int} (hi : DivInv A (lv d) d.length R Q (at_.toNat + 1)) (hd : Lb d) (hn : 2 ≤ d.length) (h0 : d.getD (d.length - 1) 0 ≠ 0) (ha : 0 ≤ at_) (hat : at_ < Q.length)
    (eg : g = guessQ (R.getD (at_.toNat + d.length) 0) (R.getD (at_.toNat + d.length - 1) 0) (R.getD (at_.toNat + d.length - 2) 0) (d.getD (d.length - 1) 0) (d.getD (d.length - 2) 0))
    (hr : LessR R d g at_.toNat r false) : DivInv A (lv d) d.length r (Q.set at_.toNat g) at_.toNat := by
  have ok := guessQ_ok (hi.in_ hd hn rfl (by omega) h0)
  rw [← eg] at ok
  have nr := hi.near hd hn rfl (by omega) h0 ok
  have g2 := lv_ge_last hd (by intro e; rw [e] at hn; simp at hn) h0
  have hD : 0 < lv d := Nat.lt_of_lt_of_le (Nat.pow_pos (by omega)) g2
  have v := hr.val
  have q0 := ok.q0
  have q1 := ok.q1
  exact hi.same (by omega) hD hr.len hr.lb ⟨q0, by omega⟩ nr.1 (by simpa using v)

theorem div_less {g g' : Int} {r1 r : List Int} (hi : DivInv A (lv d) d.length R Q (at_.toNat + 1)) (hd : Lb d) (hn : 2 ≤ d.length) (h0 : d.getD (d.length - 1) 0 ≠ 0) (ha : 0 ≤ at_) (hat : at_ < Q.length)
    (eg : g = guessQ (R.getD (at_.toNat + d.length) 0) (R.getD (at_.toNat + d.length - 1) 0) (R.getD (at_.toNat + d.length - 2) 0) (d.getD (d.length - 1) 0) (d.getD (d.length - 2) 0))
    (hr1 : LessR R d g at_.toNat r1 true) (hr : MoreR r1 d at_.toNat r) (eg' : g' = intBinR .sub .u32 g 1) : DivInv A (lv d) d.length r (Q.set at_.toNat g') at_.toNat := by
  have ok := guessQ_ok (hi.in_ hd hn rfl (by omega) h0)
  rw [← eg] at ok
  have nr := hi.near hd hn rfl (by omega) h0 ok
  have g2 := lv_ge_last hd (by intro e; rw [e] at hn; simp at hn) h0
  have hD : 0 < lv d := Nat.lt_of_lt_of_le (Nat.pow_pos (by omega)) g2
  have v1 := hr1.val
  obtain ⟨c, c0, c1, v⟩ := hr.val
  have q0 := ok.q0
  have q1 := ok.q1
  obtain ⟨p1, p2⟩ := hi.less (by omega) hD (lv_lt hd) (hr.len.trans hr1.len) hr1.lb hr.lb ⟨q0, by omega⟩ nr.2 (fun j hj => (hr.same j hj).trans (hr1.same j hj)) hr1.same ⟨c0, c1⟩ (by simpa using v1) v
  have e : g' = g - 1 := by rw [eg']; show IntKind.u32.wrap (g - 1) = _; rw [wu32]; omega
  rw [e]; exact p2
end

theorem lv_take_of_lt {R : List Int} {n : Nat} (h : n ≤ R.length) (hlt : lv R < 4294967296 ^ n) : lv (R.take n) = lv R := by
  have e := lv_take_drop R n h
  rcases Nat.eq_zero_or_pos (lv (R.drop n)) with h0 | h0
  · rw [h0] at e; omega
  · have : 4294967296 ^ n * 1 ≤ 4294967296 ^ n * lv (R.drop n) := Nat.mul_le_mul_left _ h0
    omega

theorem div_stop {x y R Q : List Int} {k m : Nat} (hy : Lb y) (hyn : y ≠ []) (hy0 : 0 < lv y) (hm : y.length + 1 ≤ m) (hmR : m ≤ R.length) (hlen : (lim (lv y * 2 ^ k)).length = y.length)
    (hi : DivInv (lv x * 2 ^ k) (lv y * 2 ^ k) y.length R Q 0) : lv Q = lv x / lv y ∧ lv (R.take m) / 2 ^ k = lv x % lv y := by
  obtain ⟨s1, s2⟩ := hi.stop
  have p : 0 < 2 ^ k := Nat.two_pow_pos k
  have hlt : lv R < 4294967296 ^ m := by
    have h1 : lv y * 2 ^ k < 4294967296 ^ y.length := by
      have := lv_lt (lim_lb (lv y * 2 ^ k))
      rwa [lv_lim, hlen] at this
    have h2 : (4294967296 : Nat) ^ y.length ≤ 4294967296 ^ m := Nat.pow_le_pow_right (by omega) (by omega)
    have h3 : lv R < lv y * 2 ^ k := by rw [s2]; exact Nat.mod_lt _ (Nat.mul_pos hy0 p)
    omega
  rw [lv_take_of_lt hmR hlt, s1, s2, Nat.mul_div_mul_right _ _ p, Nat.mul_mod_mul_right, Nat.mul_div_cancel _ p]
  exact ⟨rfl, rfl⟩
end Go.Proofs.YtpadpcjdakfokaaGreatDoor.Ev

/- Contracts: the quotient and the rest of limbs. Printed by gen.py. -/
namespace Go.Proofs.YtpadpcjdakfokaaGreatDoor.Ev
open Go Go.Proofs
set_option linter.unusedVariables false
set_option linter.unusedSimpArgs false


attribute [local irreducible] Lb
theorem pred_len {y : List Int} (h : 1 ≤ y.length) (h' : y.length < 67108864) : intBinR .sub .i64 (y.length : Int) 1 = y.length - 1 := wi64_id (by omega) (by omega)
def divS (w : Int) (d : List Int) (n1 nq : Int) : Int × List Int × List Int → St := fun p => ⟨[(9, .int .i64 (.s w)), (10, .sli .u32 d), (11, .ms 2 1 (.l 0) (.s n1)), (12, .ms 3 1 (.l 0) (.s nq)), (73, .int .i64 (.s nq)), (74, .int .i64 (.s p.1))],
  [.dead, .ints true .u32 [0, 0], .ints true .u32 p.2.1, .ints true .u32 p.2.2]⟩
structure DivOK (A : Nat) (d : List Int) (qn rn : Nat) (i : Int) (R Q : List Int) : Prop where
  i0 : 0 ≤ i
  i1 : i ≤ qn
  inv : DivInv A (lv d) d.length R Q ((qn : Int) - i).toNat
  ql : Q.length = qn
  rl : R.length = rn
set_option maxHeartbeats 4000000 in
theorem c_natDiv (a b : List Int) (ha : Lb a) (hb : Lb b) (hla : a.length < 33554432) (hlb : b.length < 33554432) : ∃ t : List Int × List Int × Bool, t = (if lv b = 0 then ([], [], false) else (lim (lv a / lv b), lim (lv a % lv b), true)) ∧
    CallsA Tryz.prog 142 [.sli .u32 a, .sli .u32 b] (.tup [.sli .u32 t.1, .sli .u32 t.2.1, .bool (.s t.2.2)]) := by
  refine ⟨_, rfl, ?_⟩
  generalize hr : (if lv b = 0 then ([], [], false) else (lim (lv a / lv b), lim (lv a % lv b), true)) = r
  have hlx := lim_length_le' ha
  have hx := lim_lb (lv a)
  have vx := lv_lim (lv a)
  have lx := (lim_cn (lv a)).last
  have hly := lim_length_le' hb
  have hy := lim_lb (lv b)
  have vy := lv_lim (lv b)
  have ly := (lim_cn (lv b)).last
  obtain ⟨x, ex⟩ : ∃ x, lim (lv a) = x := ⟨_, rfl⟩
  obtain ⟨y, ey⟩ : ∃ y, lim (lv b) = y := ⟨_, rfl⟩
  rw [ex] at hlx hx vx lx
  rw [ey] at hly hy vy ly
  have y0 : y.length = 0 ↔ lv b = 0 := by
    rw [← ey, List.length_eq_zero_iff, lim_eq_nil]
  obtain ⟨m, em⟩ : ∃ m : Int × List Int × List Int → Nat, ∀ p, m p = (x.length + 1 - p.1).toNat := ⟨_, fun _ => rfl⟩
  obtain ⟨ok, eok⟩ : ∃ ok : List Int → Int → Nat → Nat → Int × List Int × List Int → Prop, ∀ d w qn rn p, ok d w qn rn p ↔ DivOK (lv x * 2 ^ w.toNat) d qn rn p.1 p.2.1 p.2.2 := ⟨_, fun _ _ _ _ _ => Iff.rfl⟩
  refine callsA_of hG hm Tryz.func142 (by kernel_rfl) ?_
  intro E hE lp hl
  cbv
  (apply E_callX hE (c_cut a ha (by omega)); (case hf => rfl); (case hc => (cbv <;> trivial)); (case hle => exact ⟨u2_sli, trivial⟩); intro x' hx'; cbv)
  (apply E_callX hE (c_cut b hb (by omega)); (case hf => rfl); (case hc => (cbv <;> trivial)); (case hle => exact ⟨u2_sli, trivial⟩); intro y' hy'; cbv)
  rw [hx'.trans ex, hy'.trans ey]
  clear hx' hy' x' y'
  refine E_br hE (fun h => ?_) (fun h => ?_)
  · have e : lv b = 0 := y0.1 (by subst hE; have := eql_t h; simp only [realE] at this; omega)
    cbv
    rw [← hr, if_pos e]
    exact ⟨rfl, rfl, rfl, trivial⟩
  have hb0 : 0 < lv b := by
    rcases Nat.eq_zero_or_pos (lv b) with e | e
    · exfalso; have := y0.2 e; subst hE; have := eql_f h; simp only [realE] at this; omega
    · exact e
  have ny : y ≠ [] := by intro e; rw [e] at vy; simp only [lv] at vy; omega
  rw [if_neg (by omega)] at hr
  (apply E_callX hE (c_natCmp x y hx hy (by omega) (by omega)); (case hf => rfl); (case hc => (cbv <;> trivial)); (case hle => exact ⟨u2_sli, u2_sli, trivial⟩); intro t ht; cbv)
  rw [vx, vy] at ht
  refine E_br hE (fun h => ?_) (fun h => ?_)
  · have hlt : lv a < lv b := by
      subst hE; have := lss_t h
      rw [ht] at this
      rcases Nat.lt_or_ge (lv a) (lv b) with h1 | h1
      · exact h1
      · rw [if_neg (by omega)] at this; split at this <;> omega
    cbv
    repeat' (first
    | (refine E_br hE (fun h => ?_) (fun h => ?_) <;> cbv)
    | (refine E_nm hE (fun v hv => ?_); cbv)
    | (refine E_nilS hE (fun b hb => ?_); cbv)
    | (apply E_callX hE (c_Clone _ ?_); (case hf => rfl); (case hc => (cbv <;> trivial)); (case hle => exact u_up); all_goals (first | (intro t ht; cbv) | (omega)))
    | fail)
    rw [← hr, Nat.div_eq_of_lt hlt, Nat.mod_eq_of_lt hlt, ex]
    exact ⟨rfl, ‹_›, rfl, trivial⟩
  have hge : lv b ≤ lv a := by
    subst hE; have := lss_f h
    rw [ht] at this
    rcases Nat.lt_or_ge (lv a) (lv b) with h1 | h1
    · rw [if_pos h1] at this; omega
    · exact h1
  refine E_br hE (fun h => ?_) (fun h => ?_)
  · have y1 : y.length = 1 := by subst hE; have := eql_t h; simp only [realE] at this; omega
    have e0 : y = [y.getD 0 0] := by
      obtain ⟨z, hz⟩ := List.length_eq_one_iff.1 y1
      rw [hz]; rfl
    have g0 := hy.getD 0
    have v0 : lv b = (y.getD 0 0).toNat := by
      rw [← vy]
      conv => lhs; rw [e0]
      simp only [lv]; omega
    have p0 : 0 < y.getD 0 0 := by omega
    cbv
    repeat' (first
    | (refine E_br hE (fun h => ?_) (fun h => ?_) <;> cbv)
    | (refine E_nm hE (fun v hv => ?_); cbv)
    | (refine E_nilS hE (fun b hb => ?_); cbv)
    | (apply E_callX hE (c_short x _ hx ?_ ?_ ?_); (case hf => rfl); (case hc => (cbv <;> trivial)); (case hle => exact u_up); all_goals (first | (intro t ht; cbv) | ((subst hE; first | omega | exact p0 | exact g0.2))))
    | fail)
    · subst hE
      have ht' : t = (lim (lv x / (y.getD 0 0).toNat), lim (lv x % (y.getD 0 0).toNat)) := ht
      rw [ht', ← hr, vx, ← v0]; exact ⟨rfl, rfl, rfl, trivial⟩
    · subst hE; have := lss_f h; simp only [realE] at this; omega
  have y2 : 2 ≤ y.length := by
    have h1 : 0 < y.length := List.length_pos_iff.2 ny
    subst hE; have := eql_f h; simp only [realE] at this; omega
  have nx : x ≠ [] := by intro e; rw [e] at vx; simp only [lv] at vx; omega
  have xy : y.length ≤ x.length := by
    rw [← ex, ← ey]
    rcases Nat.lt_or_ge (lim (lv a)).length (lim (lv b)).length with h1 | h1
    · have := lim_len_lt h1; omega
    · exact h1
  have gl := hy.getD (y.length - 1)
  have g1 : E.get y (E.bin .sub .i64 (E.len y) 1) = y.getD (y.length - 1) 0 := by
    subst hE
    show y.getD (intBinR .sub .i64 (y.length : Int) 1).toNat 0 = _
    rw [pred_len (by omega) (by omega), show ((y.length : Int) - 1).toNat = y.length - 1 by omega]
  cbv
  refine E_br hE (fun h => ?_) (fun h => ?_)
  rotate_left
  · exfalso; subst hE; have := leq_f h; change ¬ 0 ≤ intBinR .sub .i64 (y.length : Int) 1 at this; rw [pred_len (by omega) (by omega)] at this; omega
  cbv
  refine E_br hE (fun h => ?_) (fun h => ?_)
  rotate_left
  · exfalso; subst hE; have := lss_f h; change ¬ intBinR .sub .i64 (y.length : Int) 1 < (y.length : Int) at this; rw [pred_len (by omega) (by omega)] at this; omega
  cbv
  (apply E_callX hE (c_LZ32 (E.get y (E.bin .sub .i64 (E.len y) 1)) (by rw [g1]; exact gl.1) (by rw [g1]; exact gl.2)); (case hf => rfl); (case hc => (cbv <;> trivial)); (case hle => exact ⟨u2_int, trivial⟩); intro t1 ht1; cbv)
  refine E_nm hE (fun w hw => ?_)
  have ew : w = 32 - blen (y.getD (y.length - 1) 0) := by rw [hw, ht1, g1]
  have w0 := (norm_len hy ny (ly ny) ew).1
  have w1 := (norm_len hy ny (ly ny) ew).2.1
  have dl := (norm_len hy ny (ly ny) ew).2.2
  clear hw ew ht1
  cbv
  (apply E_callX hE (c_natShl y w hy (by omega)); (case hf => rfl); (case hc => (cbv <;> trivial)); (case hle => exact ⟨u2_sli, u2_int, trivial⟩); intro d hd; cbv)
  have ed : d = lim (lv y * 2 ^ w.toNat) := by
    rw [hd]
    split
    · rw [show w.toNat = 0 by omega, Nat.pow_zero, Nat.mul_one]
    · rw [if_neg (by omega)]
  have ld : Lb d := ed ▸ lim_lb _
  have vd : lv d = lv y * 2 ^ w.toNat := by rw [ed, lv_lim]
  have nd : d.length = y.length := by rw [ed]; exact dl
  have d0 : d.getD (d.length - 1) 0 ≠ 0 := by
    rw [ed]
    refine (lim_cn _).last ?_
    intro e; rw [e] at dl; simp only [List.length_nil] at dl; omega
  have ds := div_start (k := w.toNat) hx hy nx ny (lx nx) (ly ny) xy
  clear lx ly hd
  refine E_callH hE (h_Shl x w hx (by omega) (by omega) w0 (by omega)) ?_
  intro v h1 hv
  obtain ⟨L, k, hv⟩ := hv
  rw [hv.1, hv.2.1]
  have k0 := hv.2.2.1
  have k1 := hv.2.2.2.1
  have k2 := hv.2.2.2.2.1
  have k3 := hv.2.2.2.2.2
  clear hv h1 v
  have kl : k.toNat = (lim (lv x * 2 ^ w.toNat)).length := by
    have := congrArg List.length k2
    rw [List.length_take] at this; omega
  have kx : (x.length : Int) + 1 ≤ k + 2 := by
    have := ds.lenr
    simp only [List.length_replicate, List.length_append, List.length_cons, List.length_nil] at this
    omega
  have kR : k ≤ 134217728 := by omega
  have kb : (lim (lv x * 2 ^ w.toNat)).length ≤ x.length + 1 := by
    apply lim_length_le
    have h1 := lv_lt hx
    have h2 : 2 ^ w.toNat ≤ 4294967296 := two_pow_le (by omega)
    rw [Nat.pow_succ]
    have h3 : lv x * 2 ^ w.toNat ≤ lv x * 4294967296 := Nat.mul_le_mul_left _ h2
    omega
  rw [← vd, ← nd] at ds
  obtain ⟨qn, hqn⟩ : ∃ qn, qn = x.length - d.length + 1 := ⟨_, rfl⟩
  obtain ⟨rn, hrn⟩ : ∃ rn, rn = k.toNat + 2 := ⟨_, rfl⟩
  have start : DivOK (lv x * 2 ^ w.toNat) d qn rn 0 (((L.drop (0 : Int).toNat).take k.toNat) ++ [0, 0]) (List.replicate qn 0) := by
    refine ⟨Int.le_refl _, by omega, ?_, by simp, ?_⟩
    · rw [← hqn] at ds
      rw [show (0 : Int).toNat = 0 by rfl, List.drop_zero, k2, show ((qn : Int) - 0).toNat = qn by omega]
      exact ds
    · rw [show (0 : Int).toNat = 0 by rfl, List.drop_zero, k2, List.length_append, ← kl]
      rw [hrn]; rfl
  have rn1 : x.length + 1 ≤ rn := by omega
  have rn2 : rn < 67108870 := by omega
  have fin : ∀ i R Q, DivOK (lv x * 2 ^ w.toNat) d qn rn i R Q → ¬ i < qn → Lb Q ∧ Q.length = qn ∧ Lb (R.take (x.length + 1)) ∧ (R.take (x.length + 1)).length = x.length + 1 ∧ (lim (lv Q), lim (lv (R.take (x.length + 1)) / 2 ^ w.toNat), true) = r := by
    intro i R Q o hi
    have hi' : ((qn : Int) - i).toNat = 0 := by have := o.i1; omega
    have inv := o.inv
    rw [hi', vd, nd] at inv
    have rl := o.rl
    obtain ⟨f1, f2⟩ := div_stop hy ny (by omega) (m := x.length + 1) (by omega) (by omega) dl inv
    refine ⟨inv.lbq, o.ql, inv.lbr.take _, by rw [List.length_take]; omega, ?_⟩
    rw [f1, f2, vx, vy, hr]
  have nqv : intBinR .add .i64 (intBinR .sub .i64 (x.length : Int) y.length) 1 = qn := by
    have e : intBinR .sub .i64 (x.length : Int) y.length = x.length - y.length := wi64_id (by omega) (by omega)
    have e2 : intBinR .add .i64 ((x.length : Int) - y.length) 1 = x.length - y.length + 1 := wi64_id (by omega) (by omega)
    rw [e, e2, hqn]; omega
  have n1v : intBinR .add .i64 (x.length : Int) 1 = (x.length + 1 : Nat) := by
    have e2 : intBinR .add .i64 (x.length : Int) 1 = x.length + 1 := wi64_id (by omega) (by omega)
    rw [e2]; rfl
  have qn1 : qn < 67108864 := by omega
  have d2 : 2 ≤ d.length := by omega
  have dx : d.length ≤ x.length := by omega
  have xyI : (y.length : Int) ≤ x.length := by omega
  have y2I : (2 : Int) ≤ y.length := by omega
  have xI : (x.length : Int) < 33554432 := by omega
  cbv
  repeat' (first
    | (refine E_br hE (fun h => ?_) (fun h => ?_) <;> cbv)
    | (refine E_nm hE (fun v hv => ?_); cbv)
    | (refine E_nilS hE (fun b hb => ?_); cbv)
    | fail)
  all_goals (try (exfalso; clear start ds dl d0 kl k2 ed vd fin nqv n1v; subst hE; simp only [NatCast.natCast, Int.ofNat_eq_natCast, realE, cmp_eql, cmp_neq, cmp_lss, cmp_leq, cmp_gtr, cmp_geq, intBinR, decide_eq_true_eq, decide_eq_false_iff_not, SI.val, SB.val, Num.eta, Iv.eta] at *; (try simp only [wi64] at *); omega))
  clear ds dl kl k2 ed vd g1 gl k0 k1 k3 kx kR kb
  refine E_loop hE hG hm hl (divS w d (E.bin .add .i64 (E.len x) 1) (E.bin .add .i64 (E.bin .sub .i64 (E.len x) (E.len y)) 1)) m (ok d w qn rn)
    ⟨(0, E.app (E.sub L 0 k) (E.sub [0, 0] 0 (Int.ofNat 2)), E.rep (E.bin .add .i64 (E.bin .sub .i64 (E.len x) (E.len y)) 1)), (eok _ _ _ _ _).2 ?_, stLe rfl ?_⟩ ?_
  · subst hE
    have e : (realE Tryz.prog).bin .add .i64 ((realE Tryz.prog).bin .sub .i64 ((realE Tryz.prog).len x) ((realE Tryz.prog).len y)) 1 = (qn : Int) := nqv
    rw [e]
    exact start
  · (repeat' (first | exact t_nil | apply t_cons | exact u2_sli | exact u2_int | exact u2_bool | exact u2_ms | exact u2_ptr | exact (rfl : sle2 .s0 .s0)))
  clear start
  rintro ⟨i, R, Q⟩ hok
  have o : DivOK (lv x * 2 ^ w.toNat) d qn rn i R Q := (eok _ _ _ _ _).1 hok
  have fin' := fin i R Q o
  have i0 := o.i0
  have i1 := o.i1
  clear hok fin ht
  cbv
  repeat' (first
    | (refine E_br hE (fun h => ?_) (fun h => ?_) <;> cbv)
    | (refine E_nm hE (fun v hv => ?_); cbv)
    | (refine E_nilS hE (fun b hb => ?_); cbv)
    | fail)
  all_goals (try (exfalso; clear fin' em eok o nqv n1v; subst hE; simp only [NatCast.natCast, Int.ofNat_eq_natCast, realE, cmp_eql, cmp_neq, cmp_lss, cmp_leq, cmp_gtr, cmp_geq, intBinR, decide_eq_true_eq, decide_eq_false_iff_not, SI.val, SB.val, Num.eta, Iv.eta] at *; (try simp only [wi64] at *); omega))
  rotate_left
  · simp only [NatCast.natCast, Int.ofNat_eq_natCast] at nqv n1v
    have hge : ¬ i < (qn : Int) := by
      subst hE
      have q : ¬ i < intBinR .add .i64 (intBinR .sub .i64 (x.length : Int) y.length) 1 := lss_f h
      rw [nqv] at q
      exact q
    have f1 := (fin' hge).1
    have f2 := (fin' hge).2.1
    have f3 := (fin' hge).2.2.1
    have f4 := (fin' hge).2.2.2.1
    have f5 := (fin' hge).2.2.2.2
    have e1 : E.sub Q 0 (E.bin .add .i64 (E.bin .sub .i64 (E.len x) (E.len y)) 1) = Q := by
      subst hE
      show (Q.drop (0 : Int).toNat).take (intBinR .add .i64 (intBinR .sub .i64 (x.length : Int) y.length) 1).toNat = Q
      rw [nqv]
      exact sub_all (by rw [f2])
    have e2 : E.sub R 0 (E.bin .add .i64 (E.len x) 1) = R.take (x.length + 1) := by
      subst hE
      show (R.drop (0 : Int).toNat).take (intBinR .add .i64 (x.length : Int) 1).toNat = _
      rw [n1v, Int.toNat_natCast]; rfl
    clear fin' o em eok
    (apply E_callX hE (c_cut (E.sub Q 0 (E.bin .add .i64 (E.bin .sub .i64 (E.len x) (E.len y)) 1)) (by rw [e1]; exact f1) (by rw [e1, f2]; omega)); (case hf => rfl); (case hc => (cbv <;> trivial)); (case hle => exact ⟨u2_sli, trivial⟩); intro q hq; cbv)
    (apply E_callX hE (c_natShr (E.sub R 0 (E.bin .add .i64 (E.len x) 1)) w (by rw [e2]; exact f3) (by rw [e2, f4]; omega)); (case hf => rfl); (case hc => (cbv <;> trivial)); (case hle => exact ⟨u2_sli, u2_int, trivial⟩); intro q2 hq2; cbv)
    rw [← f5]
    rw [e1] at hq
    rw [e2] at hq2
    exact ⟨hq, hq2, rfl, trivial⟩
  rename_i i' ei at_ eat _ _ _ _ _ _ _ _ _
  simp only [NatCast.natCast, Int.ofNat_eq_natCast] at nqv n1v xyI y2I xI
  have hi : i < (qn : Int) := by
    subst hE
    have q : i < intBinR .add .i64 (intBinR .sub .i64 (x.length : Int) y.length) 1 := lss_t ‹(realE Tryz.prog).cmp .lss i _ = true›
    rw [nqv] at q
    exact q
  have nqE : E.bin .add .i64 (E.bin .sub .i64 (E.len x) (E.len y)) 1 = qn := by subst hE; exact nqv
  have n1E : E.bin .add .i64 (E.len x) 1 = (x.length + 1 : Nat) := by subst hE; exact n1v
  have hat : at_ = qn - 1 - i := by
    rw [nqE] at eat
    subst hE
    rw [← o.ql] at eat ⊢
    exact div_at (by rw [o.ql]; omega) o.i0 (by rw [o.ql]; exact hi) ei eat
  have i0 := o.i0
  have a0 : 0 ≤ at_ := by omega
  have a1 : at_ < Q.length := by rw [o.ql]; omega
  have a2 : at_ + d.length < ((x.length + 1 : Nat) : Int) := by omega
  have a3 : ((x.length + 1 : Nat) : Int) ≤ R.length := by rw [o.rl]; omega
  have a4 : R.length < 134217728 := by rw [o.rl]; omega
  have inv : DivInv (lv x * 2 ^ w.toNat) (lv d) d.length R Q (at_.toNat + 1) := by
    have := o.inv
    rwa [show ((qn : Int) - i).toNat = at_.toNat + 1 by omega] at this
  have etop := hv
  have dg : GuessIn (E.get R v) (E.get R (E.bin .sub .i64 v 1)) (E.get R (E.bin .sub .i64 v 2)) (E.get d (E.bin .sub .i64 (E.len d) 1)) (E.get d (E.bin .sub .i64 (E.len d) 2)) ∧
      guessQ (E.get R v) (E.get R (E.bin .sub .i64 v 1)) (E.get R (E.bin .sub .i64 v 2)) (E.get d (E.bin .sub .i64 (E.len d) 1)) (E.get d (E.bin .sub .i64 (E.len d) 2)) =
        guessQ (R.getD (at_.toNat + d.length) 0) (R.getD (at_.toNat + d.length - 1) 0) (R.getD (at_.toNat + d.length - 2) 0) (d.getD (d.length - 1) 0) (d.getD (d.length - 2) 0) := by
    subst hE
    exact div_guess inv ld d2 d0 a4 a0 a1 etop
  have gq := guessQ_ok dg.1
  (apply E_pcallX hE (c_guess _ _ _ _ _ dg.1); (case hm => rfl); (case hle => exact ⟨u2_int, u2_int, u2_int, u2_int, u2_int, trivial⟩); intro g hg)
  have g0 : 0 ≤ g ∧ g < 4294967296 := by rw [hg]; exact ⟨gq.q0, by have := gq.q1; omega⟩
  have eg := hg.trans dg.2
  clear dg gq hg
  have j1 : ∀ j, j = intBinR .add .i64 i 1 → j = i + 1 := fun j e => e.trans (wi64_id (by omega) (by omega))
  have lbR := inv.lbr
  have next : ∀ (j : Int) (r' : List Int) (g' : Int), j = intBinR .add .i64 i 1 → r'.length = R.length → DivInv (lv x * 2 ^ w.toNat) (lv d) d.length r' (Q.set at_.toNat g') at_.toNat →
      m (j, r', Q.set at_.toNat g') < m (i, R, Q) ∧ ok d w qn rn (j, r', Q.set at_.toNat g') := by
    intro j r' g' ej hl hi'
    have ej := j1 j ej
    refine ⟨by rw [em, em]; show ((x.length : Int) + 1 - j).toNat < ((x.length : Int) + 1 - i).toNat; omega, (eok _ _ _ _ _).2 ⟨by show 0 ≤ j; omega, by show j ≤ (qn : Int); omega, ?_, by rw [List.length_set]; exact o.ql, hl.trans o.rl⟩⟩
    show DivInv _ _ _ _ _ ((qn : Int) - j).toNat
    rw [show ((qn : Int) - j).toNat = at_.toNat by omega]
    exact hi'
  have n1a : at_ + d.length < E.bin .add .i64 (E.len x) 1 := by rw [n1E]; exact a2
  have n1b : E.bin .add .i64 (E.len x) 1 ≤ R.length := by rw [n1E]; exact a3
  have a5 : at_ + d.length < R.length := by omega
  have aq : at_ < E.bin .add .i64 (E.bin .sub .i64 (E.len x) (E.len y)) 1 := by rw [nqE]; omega
  cbv
  refine E_nm hE (fun g' hg' => ?_)
  rw [hg']
  clear hg' g'
  cbv
  refine E_callH hE (h_less d [0, 0] R Q g at_ (E.bin .add .i64 (E.len x) 1) ld lbR g0 a4 a0 a5 n1a n1b) ?_
  intro v1 h1 hv1
  obtain ⟨r1, bb, hv1⟩ := hv1
  have lr := hv1.2.2
  rw [hv1.1, hv1.2.1]
  clear hv1 v1 h1
  refine E_br hE (fun hb1 => ?_) (fun hb1 => ?_)
  · have lr1 : LessR R d g at_.toNat r1 true := hb1 ▸ lr
    have l1 := lr1.len
    cbv
    refine E_nm hE (fun g' hg' => ?_)
    cbv
    refine E_callH hE (h_more d [0, 0] r1 Q at_ (E.bin .add .i64 (E.len x) 1) ld lr1.lb (by rw [l1]; exact a4) a0 (by rw [l1]; exact a5) n1a (by rw [l1]; exact n1b)) ?_
    intro v1 h1 hv1
    obtain ⟨r2, hv1⟩ := hv1
    have mr := hv1.2.2
    rw [hv1.1, hv1.2.1]
    clear hv1 v1 h1
    have dn := fun e => div_less inv ld d2 d0 a0 a1 eg lr1 mr (g' := g') e
    have l2 := mr.len.trans l1
    cbv
    repeat' (first
    | (refine E_br hE (fun h => ?_) (fun h => ?_) <;> cbv)
    | (refine E_nm hE (fun v hv => ?_); cbv)
    | (refine E_nilS hE (fun b hb => ?_); cbv)
    | fail)
    all_goals (try refine ⟨(E.bin .add .i64 i 1, r2, E.set Q at_ g'), ?_, ?_, stLe rfl ?_⟩)
    all_goals (try ((repeat' (first | exact t_nil | apply t_cons | exact u2_sli | exact u2_int | exact u2_bool | exact u2_ms | exact u2_ptr | exact (rfl : sle2 .s0 .s0))); done))
    all_goals (subst hE)
    · exact (next _ r2 g' rfl l2 (dn hg')).1
    · exact (next _ r2 g' rfl l2 (dn hg')).2
    all_goals (first | exact absurd a0 (leq_f h) | exact absurd aq (lss_f h))
  · have lr1 : LessR R d g at_.toNat r1 false := hb1 ▸ lr
    have dn := div_same inv ld d2 d0 a0 a1 eg lr1
    have l1 := lr1.len
    cbv
    repeat' (first
    | (refine E_br hE (fun h => ?_) (fun h => ?_) <;> cbv)
    | (refine E_nm hE (fun v hv => ?_); cbv)
    | (refine E_nilS hE (fun b hb => ?_); cbv)
    | fail)
    all_goals (try refine ⟨(E.bin .add .i64 i 1, r1, E.set Q at_ g), ?_, ?_, stLe rfl ?_⟩)
    all_goals (try ((repeat' (first | exact t_nil | apply t_cons | exact u2_sli | exact u2_int | exact u2_bool | exact u2_ms | exact u2_ptr | exact (rfl : sle2 .s0 .s0))); done))
    all_goals (subst hE)
    · exact (next _ r1 g rfl l1 dn).1
    · exact (next _ r1 g rfl l1 dn).2
    all_goals (first | exact absurd a0 (leq_f h) | exact absurd aq (lss_f h))
  all_goals trace_state

end Go.Proofs.YtpadpcjdakfokaaGreatDoor.Ev

/- The greatest number whose square is not greater, by Newton's steps: sizes. -/
namespace Go.Proofs.YtpadpcjdakfokaaGreatDoor.Ev
open Go

structure RootOK (a s0 s : Nat) : Prop where
  pos : 0 < s
  up : a < (s + 1) * (s + 1)
  le : s ≤ s0

theorem lim_len_two {s n M : Nat} (h1 : s ≤ 2 ^ n) (hn : n ≤ 32 * M) : (lim s).length ≤ M + 1 := by
  apply lim_length_le
  have h2 : 2 ^ n ≤ 2 ^ (32 * M) := Nat.pow_le_pow_right (by omega) hn
  have h3 : (2 : Nat) ^ (32 * M) < 2 ^ (32 * (M + 1)) := Nat.pow_lt_pow_right (by omega) (by omega)
  have h4 : (4294967296 : Nat) ^ (M + 1) = 2 ^ (32 * (M + 1)) := by rw [Nat.pow_mul]
  rw [h4]
  omega
theorem RootOK.len {a s0 s : Nat} {n : Nat} (h : RootOK a s0 s) (e : s0 = 2 ^ n) (hn : n ≤ 16777216) : (lim s).length ≤ 524289 :=
  lim_len_two (by rw [← e]; exact h.le) (by omega)

theorem lim_add_len {m n k : Nat} (hm : (lim m).length ≤ k) (hn : (lim n).length ≤ k) : (lim (m + n)).length ≤ k + 1 := by
  have h1 := lv_lt (lim_lb m)
  have h2 := lv_lt (lim_lb n)
  rw [lv_lim] at h1 h2
  have h3 : (4294967296 : Nat) ^ (lim m).length ≤ 4294967296 ^ k := Nat.pow_le_pow_right (by omega) hm
  have h4 : (4294967296 : Nat) ^ (lim n).length ≤ 4294967296 ^ k := Nat.pow_le_pow_right (by omega) hn
  apply lim_length_le
  rw [Nat.pow_succ]
  omega
theorem lim_mono {m n : Nat} (h : m ≤ n) : (lim m).length ≤ (lim n).length := by
  have h1 := lv_lt (lim_lb n)
  rw [lv_lim] at h1
  exact lim_length_le (by omega)
theorem RootOK.next {a s0 s : Nat} (ha : 0 < a) (h : RootOK a s0 s) (hlt : (s + a / s) / 2 < s) : RootOK a s0 ((s + a / s) / 2) :=
  ⟨newton_pos ha h.pos, newton_step h.pos, by have := h.le; omega⟩
theorem RootOK.stop {a s0 s : Nat} (h : RootOK a s0 s) (hlt : ¬ (s + a / s) / 2 < s) : nsqrt a = s :=
  nsqrt_eq (newton_stop h.pos (by omega)) h.up
end Go.Proofs.YtpadpcjdakfokaaGreatDoor.Ev

/- Contracts: the root of limbs. Printed by gen.py. -/
namespace Go.Proofs.YtpadpcjdakfokaaGreatDoor.Ev
open Go Go.Proofs
set_option linter.unusedVariables false
set_option linter.unusedSimpArgs false


attribute [local irreducible] Lb
end Go.Proofs.YtpadpcjdakfokaaGreatDoor.Ev

/- Contracts: whole numbers as numbers, the quotient. Printed by gen.py out of C9.spec. -/
namespace Go.Proofs.YtpadpcjdakfokaaGreatDoor.Ev
open Go Go.Proofs
set_option linter.unusedVariables false
set_option linter.unusedSimpArgs false

theorem c_Of (n : Int) (h0 : -9223372036854775808 ≤ n) (h1 : n < 9223372036854775808) : ∃ t : Num, t = Num.ofInt n ∧ CallsA Tryz.prog 30 [.int .i64 (.s n)] (t.av) := by
  refine ⟨_, rfl, ?_⟩
  generalize hr : Num.ofInt n = r
  refine callsA_of hG hm Tryz.func30 (by kernel_rfl) ?_
  intro E hE lp hl
  cbv
  repeat' (first
    | (refine E_br hE (fun h => ?_) (fun h => ?_) <;> cbv)
    | (refine E_nm hE (fun v hv => ?_); cbv)
    | (apply E_callX hE (c_LZ64 _ ?_ ?_); (case hf => rfl); (case hc => (cbv <;> trivial)); (case hle => exact u_up); all_goals (first | (intro t ht; cbv) | (subst hE; (try simp only [realE, cmp_eql, cmp_neq, cmp_lss, cmp_leq, cmp_gtr, cmp_geq, intBinR, decide_eq_true_eq, decide_eq_false_iff_not, SI.val, SB.val, Num.eta, Iv.eta] at *); (subst_vars; simp only [wu64]; omega))))
    | fail)
  all_goals (subst hE; subst hr)
  all_goals (try simp only [realE, cmp_eql, cmp_neq, cmp_lss, cmp_leq, cmp_gtr, cmp_geq, intBinR, decide_eq_true_eq, decide_eq_false_iff_not, SI.val, SB.val, Num.eta, Iv.eta] at *)
  all_goals (try subst_vars)
  all_goals (first | rw [wabs_neg h0 ‹n < 0›] at * | rw [wabs_pos (show 0 ≤ n by omega) h1] at *)
  all_goals (try (exfalso; have := blen_le 64 (x := (n.natAbs : Int)) (by omega); omega))
  case refine_2.hK.refine_1 =>
    have e : n = 0 := by omega
    subst e
    exact ⟨rfl, rfl, rfl, rfl, trivial⟩
  all_goals (unfold Num.ofInt; rw [if_neg (by omega)]; exact ⟨rfl, rfl, rfl, rfl, trivial⟩)

end Go.Proofs.YtpadpcjdakfokaaGreatDoor.Ev

/- Contracts: words and limbs. Printed by gen.py. -/
namespace Go.Proofs.YtpadpcjdakfokaaGreatDoor.Ev
open Go Go.Proofs
set_option linter.unusedVariables false
set_option linter.unusedSimpArgs false


attribute [local irreducible] Lb
theorem word_next {a : List Int} {i n : Int} (ha : Lb a) (hl : a.length ≤ 2) (h1 : 0 ≤ i) (h2 : i < a.length) (hn : n = lv (a.take i.toNat)) {i' x v j : Int} (ei : i' = i) (ex : x = a.getD i.toNat 0)
    (ev : v = intBinR .or .u64 n (intBinR .shl .u64 (IntKind.u64.wrap x) (intBinR .mul .i64 32 i'))) (ej : j = intBinR .add .i64 i 1) :
    0 ≤ j ∧ j ≤ a.length ∧ ((a.length : Int) - j).toNat < ((a.length : Int) - i).toNat ∧ v = lv (a.take j.toNat) := by
  subst ei
  have hx := ha.getD i'.toNat
  have ej' : j = i' + 1 := by rw [ej]; show IntKind.i64.wrap (i' + 1) = _; rw [wi64_id (by omega) (by omega)]
  refine ⟨by omega, by omega, by omega, ?_⟩
  rw [ej', show (i' + 1).toNat = i'.toNat + 1 by omega, lv_take_succ (by omega), ← ex]
  rw [← ex] at hx
  rw [wu64_id hx.1 (by omega)] at ev
  rcases (show i' = 0 ∨ i' = 1 by omega) with rfl | rfl
  · have e0 : n = 0 := by rw [hn]; rfl
    have e1 : intBinR .shl .u64 x (intBinR .mul .i64 32 0) = x := by
      show IntKind.u64.wrap (x * 2 ^ min (IntKind.i64.wrap (32 * 0)).toNat IntKind.u64.bits) = _
      rw [show min (IntKind.i64.wrap (32 * 0)).toNat IntKind.u64.bits = 0 by decide, wu64]
      simp only [Int.pow_zero, Int.mul_one]
      omega
    rw [e1, e0] at ev
    have e2 : intBinR .or .u64 0 x = 0 + 2 ^ 0 * x := by
      have := or64 (l := x) (m := 0) hx.1 hx.2 (by omega) (by omega)
      show IntKind.u64.wrap ((BitVec.ofInt 64 0 ||| BitVec.ofInt 64 x).toNat : Int) = _
      rw [BitVec.or_comm]
      simp only [Int.zero_mul] at this
      rw [this]; omega
    rw [ev, e2, show (Int.toNat 0) = 0 by rfl, List.take_zero]
    simp only [lv, Nat.pow_zero]
    omega
  · have hn0 : 0 ≤ n ∧ n < 4294967296 := by
      have := lv_take_lt ha 1 (by omega)
      rw [show (1 : Int).toNat = 1 by rfl] at hn
      omega
    have e1 : intBinR .shl .u64 x (intBinR .mul .i64 32 1) = x * 4294967296 := by
      show IntKind.u64.wrap (x * 2 ^ min (IntKind.i64.wrap (32 * 1)).toNat IntKind.u64.bits) = _
      rw [show min (IntKind.i64.wrap (32 * 1)).toNat IntKind.u64.bits = 32 by decide, wu64]
      have : (2 : Int) ^ 32 = 4294967296 := by decide
      rw [this]; omega
    rw [e1] at ev
    have e2 : intBinR .or .u64 n (x * 4294967296) = n + x * 4294967296 := or64 hn0.1 hn0.2 hx.1 hx.2
    rw [ev, e2, show (Int.toNat 1) = 1 by rfl]
    rw [show (1 : Int).toNat = 1 by rfl] at hn
    rw [hn]
    omega

def wordS (E : Env) (a : List Int) : Int × Int → St := fun p => ⟨[(3, .int .u64 (.s p.2)), (6, .sli .u32 a), (7, .int .i64 (.s (E.len a))), (8, .int .i64 (.s p.1))], []⟩
theorem c_word (a : List Int) (ha : Lb a) (hl : a.length ≤ 2) : ∃ t : Int, t = lv a ∧ CallsA Tryz.prog 207 [.sli .u32 a] (.int .u64 (.s t)) := by
  refine ⟨_, rfl, ?_⟩
  generalize hr : (lv a : Int) = r
  obtain ⟨m, em⟩ : ∃ m : Int × Int → Nat, ∀ p, m p = (a.length - p.1).toNat := ⟨_, fun _ => rfl⟩
  obtain ⟨ok, eok⟩ : ∃ ok : Int × Int → Prop, ∀ p, ok p ↔ 0 ≤ p.1 ∧ p.1 ≤ a.length ∧ p.2 = lv (a.take p.1.toNat) := ⟨_, fun _ => Iff.rfl⟩
  refine callsA_of hG hm Tryz.func207 (by kernel_rfl) ?_
  intro E hE lp hl'
  cbv
  repeat' (first
    | (refine E_br hE (fun h => ?_) (fun h => ?_) <;> cbv)
    | (refine E_nm hE (fun v hv => ?_); cbv)
    | (refine E_nilS hE (fun b hb => ?_); cbv)
    | fail)
  refine E_loop hE hG hm hl' (wordS E a) m ok ⟨(0, 0), (eok _).2 ⟨by show (0 : Int) ≤ 0; omega, by show (0 : Int) ≤ a.length; omega, rfl⟩, stLe rfl ?_⟩ ?_
  · (repeat' (first | exact t_nil | apply t_cons | exact u2_sli | exact u2_int | exact u2_bool | exact u2_ms | exact u2_ptr | exact (rfl : sle2 .s0 .s0)))
  rintro ⟨i, n⟩ hok
  have h1 : 0 ≤ i := ((eok _).1 hok).1
  have h2 : i ≤ a.length := ((eok _).1 hok).2.1
  have hn : n = lv (a.take i.toNat) := ((eok _).1 hok).2.2
  have fin : ¬ i < a.length → n = r := by
    intro h
    rw [hn, show i.toNat = a.length by omega, List.take_length]; exact hr
  clear hok
  cbv
  repeat' (first
    | (refine E_br hE (fun h => ?_) (fun h => ?_) <;> cbv)
    | (refine E_nm hE (fun v hv => ?_); cbv)
    | (refine E_nilS hE (fun b hb => ?_); cbv)
    | fail)
  all_goals (try refine ⟨(E.bin .add .i64 i 1, v), ?_, ?_, stLe rfl ?_⟩)
  all_goals (try ((repeat' (first | exact t_nil | apply t_cons | exact u2_sli | exact u2_int | exact u2_bool | exact u2_ms | exact u2_ptr | exact (rfl : sle2 .s0 .s0))); done))
  all_goals (subst hE)
  all_goals (try (first
    | (rw [em, em]; exact (word_next ha hl h1 (lss_t ‹_›) hn ‹_ = i› ‹_› ‹_› rfl).2.2.1)
    | (rw [eok]; have q := word_next ha hl h1 (lss_t ‹_›) hn ‹_ = i› ‹_› ‹_› rfl; exact ⟨q.1, q.2.1, q.2.2.2⟩)
    | exact fin (lss_f ‹_›)
    | exact ‹_ = n›.trans (fin (lss_f ‹_›))))
  all_goals (clear fin eok em hn; simp only [NatCast.natCast, Int.ofNat_eq_natCast, realE, cmp_eql, cmp_neq, cmp_lss, cmp_leq, cmp_gtr, cmp_geq, intBinR, decide_eq_true_eq, decide_eq_false_iff_not, SI.val, SB.val, Num.eta, Iv.eta] at *; (try simp only [wi64] at *); omega)

theorem limbs_lb {m : Int} (h0 : 0 ≤ m) (h1 : m < 18446744073709551616) : Lb [m % 4294967296, m / 4294967296] :=
  Lb.cons (by omega) (by omega) (Lb.cons (by omega) (by omega) Lb.nil)
theorem limbs_lv {m : Int} (h0 : 0 ≤ m) : lv [m % 4294967296, m / 4294967296] = m.toNat := by
  simp only [lv]; omega

/-- the root of a finite number -/
def Num.rootF (a : Num) (up : Bool) : Num :=
  if a.e % 2 = 0 then Num.grow false (nsqrt (a.m.toNat * 2 ^ 64)) ((a.e - 64) / 2) (!decide (nsqrt (a.m.toNat * 2 ^ 64) * nsqrt (a.m.toNat * 2 ^ 64) = a.m.toNat * 2 ^ 64)) up
  else Num.grow false (nsqrt (a.m.toNat * 2 ^ 63)) ((a.e - 63) / 2) (!decide (nsqrt (a.m.toNat * 2 ^ 63) * nsqrt (a.m.toNat * 2 ^ 63) = a.m.toNat * 2 ^ 63)) up
def Num.root (a : Num) (up : Bool) : Num × Bool :=
  if a.fair.kind ≠ 0 ∧ a.fair.neg = true then (Num.zero, false) else if a.fair.kind ≠ 1 then (a.fair, true) else (Num.rootF a.fair up, true)

end Go.Proofs.YtpadpcjdakfokaaGreatDoor.Ev

/- Contracts: whole numbers of 64 bits, of what sign; ten, so many times. Printed by gen.py. -/
namespace Go.Proofs.YtpadpcjdakfokaaGreatDoor.Ev
open Go Go.Proofs
set_option linter.unusedVariables false
set_option linter.unusedSimpArgs false

attribute [local irreducible] Lb
theorem c_wFrom (n : Int) (h1 : -9223372036854775808 ≤ n) (h2 : n < 9223372036854775808) : ∃ t : Bool × List Int, t = (decide (n < 0), lim n.natAbs) ∧ CallsA Tryz.prog 53 [.int .i64 (.s n)] (.agg [.bool (.s t.1), .sli .u32 t.2]) := by
  refine ⟨_, rfl, ?_⟩
  generalize hr : ((decide (n < 0), lim n.natAbs) : Bool × List Int) = r
  have lb := limbs_lb (m := (n.natAbs : Int)) (by omega) (by omega)
  obtain ⟨m, em⟩ : ∃ m, m = [(n.natAbs : Int) % 4294967296, (n.natAbs : Int) / 4294967296] := ⟨_, rfl⟩
  rw [← em] at lb
  have ll : m.length ≤ 268435456 := by rw [em]; show (2 : Nat) ≤ _; decide
  have fin : ∀ (c : Bool) (l : List Int) (t : Bool × List Int), c = decide (n < 0) → l = m → t = (c && decide (lv l ≠ 0), lim (lv l)) → t = r := by
    intro c l t hc hl ht
    rw [ht, hl, em, limbs_lv (by omega), ← hr, hc, show ((n.natAbs : Nat) : Int).toNat = n.natAbs from rfl]
    by_cases h : n < 0
    · rw [decide_eq_true (p := n.natAbs ≠ 0) (by omega), Bool.and_true]
    · rw [decide_eq_false h, Bool.false_and]
  have wn : ∀ x : Int, x = (n.natAbs : Int) → [IntKind.u32.wrap x, IntKind.u32.wrap (intBinR .shr .u64 x 32)] = m := by
    intro x hx
    have e1 : intBinR .shr .u64 x 32 = x / 4294967296 := shr32 x
    rw [em, e1, hx, wu32, wu32, Int.emod_eq_of_lt (a := (n.natAbs : Int) / 4294967296) (by omega) (by omega)]
  clear hr em
  refine callsA_of hG hm Tryz.func53 (by kernel_rfl) ?_
  intro E hE lp hl'
  cbv
  refine E_nm hE (fun u hu => ?_); cbv
  refine E_br hE (fun g => ?_) (fun g => ?_) <;> cbv
  · have hn : n < 0 := by subst hE; exact lss_t g
    refine E_nm hE (fun v hv => ?_); cbv
    have k : E.sub [E.conv .u32 v, E.conv .u32 (E.bin .shr .u64 v 32)] 0 2 = m := by
      subst hE
      exact wn v (by have a : u = IntKind.u64.wrap n := hu; have b : v = IntKind.u64.wrap (0 - u) := hv; have c : (n.natAbs : Int) = -n := Int.ofNat_natAbs_of_nonpos (by omega); simp only [wu64] at a b; exact (show v = -n by omega).trans c.symm)
    (first | (apply E_pcallX hE (c_wMake _ _ ?_ ?_); (case hm => rfl); (case hle => (repeat' (first | exact u_nil | apply u_cons | apply u2_agg | exact u2_int | exact u1_int | exact u2_bool | exact u1_bool | exact u2_sli | exact u1_sli | exact u2_s0 | exact u1_s0))); all_goals (first | (intro t ht; cbv) | (first | exact k ▸ lb | exact k ▸ ll))) | (apply E_callX hE (c_wMake _ _ ?_ ?_); (case hf => rfl); (case hc => (cbv <;> trivial)); (case hle => (repeat' (first | exact u_nil | apply u_cons | apply u2_agg | exact u2_int | exact u1_int | exact u2_bool | exact u1_bool | exact u2_sli | exact u1_sli | exact u2_s0 | exact u1_s0))); all_goals (first | (intro t ht; cbv) | (first | exact k ▸ lb | exact k ▸ ll))))
    rw [← fin _ _ t (by subst hE; rfl) k ht]; exact ⟨rfl, rfl, trivial⟩
  · have hn : ¬ n < 0 := by subst hE; exact lss_f g
    have k : E.sub [E.conv .u32 u, E.conv .u32 (E.bin .shr .u64 u 32)] 0 2 = m := by
      subst hE
      exact wn u (by have a : u = IntKind.u64.wrap n := hu; have c : (n.natAbs : Int) = n := Int.natAbs_of_nonneg (by omega); simp only [wu64] at a; exact (show u = n by omega).trans c.symm)
    (first | (apply E_pcallX hE (c_wMake _ _ ?_ ?_); (case hm => rfl); (case hle => (repeat' (first | exact u_nil | apply u_cons | apply u2_agg | exact u2_int | exact u1_int | exact u2_bool | exact u1_bool | exact u2_sli | exact u1_sli | exact u2_s0 | exact u1_s0))); all_goals (first | (intro t ht; cbv) | (first | exact k ▸ lb | exact k ▸ ll))) | (apply E_callX hE (c_wMake _ _ ?_ ?_); (case hf => rfl); (case hc => (cbv <;> trivial)); (case hle => (repeat' (first | exact u_nil | apply u_cons | apply u2_agg | exact u2_int | exact u1_int | exact u2_bool | exact u1_bool | exact u2_sli | exact u1_sli | exact u2_s0 | exact u1_s0))); all_goals (first | (intro t ht; cbv) | (first | exact k ▸ lb | exact k ▸ ll))))
    rw [← fin _ _ t (by subst hE; rfl) k ht]; exact ⟨rfl, rfl, trivial⟩

theorem c_wSign (na : Bool) (a : List Int) (ha : Lb a) (hla : a.length < 67108864) : ∃ t : Int, t = (if lv a = 0 then 0 else if na then -1 else 1) ∧ CallsA Tryz.prog 139 [.agg [.bool (.s na), .sli .u32 a]] (.int .i64 (.s t)) := by
  refine ⟨_, rfl, ?_⟩
  generalize hr : (if lv a = 0 then 0 else if na then -1 else 1 : Int) = r
  have z : lv a = 0 → 0 = r := fun h => by rw [← hr, if_pos h]
  have o : lv a ≠ 0 → na = true → -1 = r := fun h k => by rw [← hr, if_neg h, if_pos k]
  have p : lv a ≠ 0 → na = false → 1 = r := fun h k => by rw [← hr, if_neg h, k]; rfl
  have bz : blen (lv a : Int) = 0 ↔ lv a = 0 := by
    constructor
    · intro h
      rcases Nat.eq_zero_or_pos (lv a) with k | k
      · exact k
      · obtain ⟨n, hn, _⟩ := blen_pos (x := (lv a : Int)) (by omega); omega
    · intro h; rw [h]; rfl
  clear hr
  refine callsA_of hG hm Tryz.func139 (by kernel_rfl) ?_
  intro E hE lp hl'
  cbv
  (first | (apply E_pcallX hE (c_natLen a ha hla); (case hm => rfl); (case hle => (repeat' (first | exact u_nil | apply u_cons | apply u2_agg | exact u2_int | exact u1_int | exact u2_bool | exact u1_bool | exact u2_sli | exact u1_sli | exact u2_s0 | exact u1_s0))); all_goals (first | (intro t ht; cbv) | (assumption))) | (apply E_callX hE (c_natLen a ha hla); (case hf => rfl); (case hc => (cbv <;> trivial)); (case hle => (repeat' (first | exact u_nil | apply u_cons | apply u2_agg | exact u2_int | exact u1_int | exact u2_bool | exact u1_bool | exact u2_sli | exact u1_sli | exact u2_s0 | exact u1_s0))); all_goals (first | (intro t ht; cbv) | (assumption))))
  have ht : t = blen (lv a : Int) := ht
  refine E_br hE (fun g => ?_) (fun g => ?_) <;> cbv
  · rw [← z (bz.1 (ht ▸ (by subst hE; exact eql_t g)))]
  have nz : lv a ≠ 0 := fun h => (show ¬ t = 0 by subst hE; exact eql_f g) (ht.trans (bz.2 h))
  refine E_br hE (fun g => ?_) (fun g => ?_) <;> cbv
  · rw [← o nz g]
  · rw [← p nz g]

end Go.Proofs.YtpadpcjdakfokaaGreatDoor.Ev
