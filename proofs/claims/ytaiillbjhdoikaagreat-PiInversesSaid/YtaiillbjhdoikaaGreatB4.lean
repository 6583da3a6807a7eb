/- Texts of the proof, joined: Br2 R6 R7 R8 R9 R10 Br3 R11 Pu4 R12 R13 Br4 Pu5 Pu6 Pu8 R14 R15 R16 Pu9 Pu10 R17 Pu11 Pu7 Pu12 Pu13 Pu14 Pu15 Pu16 Pu17 Br5 Br6 R18 Br8 R19 Br9 C3 C4 C5 C6 R20 Br10 R21 R25 Ev29 N1 NTrim C22a -/
import Derived.Test.YtaiillbjhdoikaaGreatB3
set_option linter.unusedVariables false
set_option linter.unusedSimpArgs false

/- The reference's shifts and its division bit by bit: plain Lean. -/
namespace Go.Proofs.YtaiillbjhdoikaaGreat.Ev
open Go

theorem blen_half {t : Int} (h : 0 < t) : blen t = blen (t / 2) + 1 := by
  rcases Int.lt_or_le t 2 with k | k
  · have : t = 1 := by omega
    subst this; decide
  · have := blen_div (x := t) 1 k
    simp at this
    omega
theorem quo2_u32 {t : Int} (h : 0 ≤ t) (h' : t < 4294967296) : intBinR .quo .u32 t 2 = t / 2 := by
  show IntKind.u32.wrap (t.tdiv 2) = _
  rw [Int.tdiv_eq_ediv_of_nonneg h, wu32]; omega
theorem two_le {r : Nat} (h : r < 32) : (2 : Int) ^ r ≤ 2147483648 ∧ 0 < (2 : Int) ^ r := by
  have h1 : (2 : Nat) ^ r ≤ 2 ^ 31 := Nat.pow_le_pow_right (by decide) (by omega)
  have h2 : 0 < (2 : Nat) ^ r := Nat.pow_pos (by decide)
  rw [pow2_cast]
  omega
theorem shl_one {r : Int} (h0 : 0 ≤ r) (h1 : r < 32) : intBinR .shl .u32 1 r = 2 ^ r.toNat := by
  show IntKind.u32.wrap (1 * 2 ^ min r.toNat IntKind.u32.bits) = _
  rw [Nat.min_eq_left (show r.toNat ≤ IntKind.u32.bits by show r.toNat ≤ 32; omega), Int.one_mul, wu32]
  have := two_le (r := r.toNat) (by omega)
  omega
theorem shr_u64 {x r : Int} (h0 : 0 ≤ r) (h1 : r < 32) : intBinR .shr .u64 x r = x / 2 ^ r.toNat := by
  show x.fdiv (2 ^ min r.toNat IntKind.u64.bits) = _
  rw [Nat.min_eq_left (show r.toNat ≤ IntKind.u64.bits by show r.toNat ≤ 64; omega)]
  exact Int.fdiv_eq_ediv_of_nonneg _ (Int.le_of_lt (Int.pow_pos (by decide)))
theorem pow_split (i : Nat) : (2 : Nat) ^ i = 4294967296 ^ (i / 32) * 2 ^ (i % 32) := by
  rw [show (4294967296 : Nat) = 2 ^ 32 from rfl, ← Nat.pow_mul, ← Nat.pow_add]
  congr 1; omega
theorem two_pow_32 {r : Nat} (h : r < 32) : (4294967296 : Nat) = 2 ^ r * (2 ^ (31 - r) * 2) := by
  rw [← Nat.pow_succ, ← Nat.pow_add, show r + (31 - r + 1) = 32 by omega]
/-- the number from a limb on -/
theorem lv_from {a : List Int} (ha : Lb a) (k : Nat) : lv a / 4294967296 ^ k = (a.getD k 0).toNat + 4294967296 * lv (a.drop (k + 1)) := by
  rcases Nat.lt_or_ge a.length k with h | h
  · rw [getD_past (by omega), List.drop_eq_nil_of_le (by omega)]
    have l := lv_lt ha
    have p : (4294967296 : Nat) ^ a.length ≤ 4294967296 ^ k := Nat.pow_le_pow_right (by decide) (by omega)
    rw [Nat.div_eq_of_lt (by omega)]; rfl
  · rw [← lv_drop ha k h, lv_drop_cons]
theorem bit_eq {a : List Int} (ha : Lb a) (i : Nat) : (a.getD (i / 32) 0).toNat / 2 ^ (i % 32) % 2 = lv a / 2 ^ i % 2 := by
  have hr : i % 32 < 32 := Nat.mod_lt _ (by decide)
  have e := lv_from ha (i / 32)
  rw [pow_split i, ← Nat.div_div_eq_div_mul, e]
  have p := two_pow_32 hr
  generalize (a.getD (i / 32) 0).toNat = x at *
  generalize lv (a.drop (i / 32 + 1)) = H at *
  generalize i % 32 = r at *
  have hp : 0 < 2 ^ r := Nat.pow_pos (by decide)
  rw [p, Nat.mul_assoc, Nat.add_mul_div_left _ _ hp, Nat.mul_assoc (2 ^ (31 - r)) 2 H, Nat.mul_left_comm]
  omega
theorem padL {a : List Int} (ha : Lb a) (k : Nat) : Lb (a ++ List.replicate (k + 1 - a.length) 0) ∧ lv (a ++ List.replicate (k + 1 - a.length) 0) = lv a ∧ k < (a ++ List.replicate (k + 1 - a.length) 0).length ∧
    (a ++ List.replicate (k + 1 - a.length) 0).length = max a.length (k + 1) :=
  ⟨ha.append (Lb.replicate _), lv_pad a _, by simp; omega, by simp; omega⟩
/-- a bit more, above which there are some at most -/
theorem setL_ok {a : List Int} (ha : Lb a) (i : Nat) (hd : 2 ^ (i + 1) ∣ lv a) :
    (a ++ List.replicate (i / 32 + 1 - a.length) 0).getD (i / 32) 0 + 2 ^ (i % 32) < 4294967296 ∧ Lb (setL a i) ∧ lv (setL a i) = lv a + 2 ^ i ∧ (setL a i).length = max a.length (i / 32 + 1) := by
  have hr : i % 32 < 32 := Nat.mod_lt _ (by decide)
  obtain ⟨p1, p2, p3, p4⟩ := padL ha (i / 32)
  unfold setL
  generalize a ++ List.replicate (i / 32 + 1 - a.length) 0 = p at *
  have gx := p1.getD (i / 32)
  have e := lv_from p1 (i / 32)
  have two := two_pow_32 hr
  have t := two_le hr
  have key : (p.getD (i / 32) 0) + 2 ^ (i % 32) < 4294967296 := by
    rw [p2] at e
    obtain ⟨q, hq⟩ := hd
    rw [hq, Nat.pow_succ, pow_split i, Nat.mul_assoc, Nat.mul_assoc, Nat.mul_div_cancel_left _ (Nat.pow_pos (by decide))] at e
    obtain ⟨x, hx⟩ := Int.eq_ofNat_of_zero_le gx.1
    rw [hx] at e gx ⊢
    rw [pow2_cast]
    have hx' : x < 4294967296 := by omega
    simp only [Int.toNat_natCast] at e
    generalize lv (p.drop (i / 32 + 1)) = H at *
    generalize i % 32 = r at *
    have hp : 0 < 2 ^ r := Nat.pow_pos (by decide)
    -- x is a multiple of twice that bit
    have m : 2 ^ r * 2 ∣ x := by
      have d1 : 2 ^ r * 2 ∣ x + 4294967296 * H := ⟨q, by rw [← e, Nat.mul_assoc]⟩
      have d2 : 2 ^ r * 2 ∣ 4294967296 * H := ⟨2 ^ (31 - r) * H, by rw [two]; simp only [Nat.mul_assoc]; congr 1; rw [Nat.mul_left_comm]⟩
      exact (Nat.dvd_add_iff_left d2).2 d1
    obtain ⟨u, hu⟩ := m
    have lt : 2 ^ r * 2 * u < 2 ^ r * 2 * 2 ^ (31 - r) := by
      rw [← hu]
      have : 2 ^ r * 2 * 2 ^ (31 - r) = 4294967296 := by rw [two, Nat.mul_assoc, Nat.mul_comm 2]
      omega
    have ul : u < 2 ^ (31 - r) := Nat.lt_of_mul_lt_mul_left lt
    have : 2 ^ r * 2 * (u + 1) ≤ 2 ^ r * 2 * 2 ^ (31 - r) := Nat.mul_le_mul_left _ ul
    have e2 : 2 ^ r * 2 * 2 ^ (31 - r) = 4294967296 := by rw [two, Nat.mul_assoc, Nat.mul_comm 2]
    rw [Nat.mul_add] at this
    omega
  refine ⟨key, p1.set _ (by omega) key, ?_, by simp [p4]⟩
  have s := lv_set (l := p) (i := i / 32) (p.getD (i / 32) 0 + 2 ^ (i % 32)) p3
  have c : (p.getD (i / 32) 0 + 2 ^ (i % 32)).toNat = (p.getD (i / 32) 0).toNat + 2 ^ (i % 32) := by
    have : ((2 ^ (i % 32) : Nat) : Int) = 2 ^ (i % 32) := by push_cast; rfl
    omega
  rw [c, Nat.mul_add, ← pow_split i, p2] at s
  omega
theorem div_step {A D i : Nat} (hD : 0 < D) :
    (2 * (A / 2 ^ (i + 1) % D) + A / 2 ^ i % 2 < D → A / 2 ^ i % D = 2 * (A / 2 ^ (i + 1) % D) + A / 2 ^ i % 2 ∧ A / 2 ^ i / D = 2 * (A / 2 ^ (i + 1) / D)) ∧
    (D ≤ 2 * (A / 2 ^ (i + 1) % D) + A / 2 ^ i % 2 → A / 2 ^ i % D = 2 * (A / 2 ^ (i + 1) % D) + A / 2 ^ i % 2 - D ∧ A / 2 ^ i / D = 2 * (A / 2 ^ (i + 1) / D) + 1) := by
  have e : A / 2 ^ (i + 1) = A / 2 ^ i / 2 := by rw [Nat.pow_succ, Nat.div_div_eq_div_mul]
  rw [e]
  generalize A / 2 ^ i = x
  have h1 := Nat.div_add_mod (x / 2) D
  have h2 := Nat.mod_lt (x / 2) hD
  generalize x / 2 / D = q at *
  generalize x / 2 % D = r at *
  have h3 : x = D * (2 * q) + (2 * r + x % 2) := by
    have : D * (2 * q) = 2 * (D * q) := by rw [Nat.mul_left_comm]
    omega
  constructor
  · intro h
    constructor
    · conv => lhs; rw [h3]
      rw [Nat.mul_add_mod, Nat.mod_eq_of_lt h]
    · conv => lhs; rw [h3]
      rw [Nat.mul_add_div hD, Nat.div_eq_of_lt h]; rfl
  · intro h
    have h4 : x = D * (2 * q + 1) + (2 * r + x % 2 - D) := by rw [Nat.mul_add]; omega
    have h5 : 2 * r + x % 2 - D < D := by omega
    constructor
    · conv => lhs; rw [h4]
      rw [Nat.mul_add_mod, Nat.mod_eq_of_lt h5]
    · conv => lhs; rw [h4]
      rw [Nat.mul_add_div hD, Nat.div_eq_of_lt h5]
end Go.Proofs.YtaiillbjhdoikaaGreat.Ev

/- Contracts of the reference: how many bits, shifted, a bit, a bit more. Printed by gen.py. -/
namespace Go.Proofs.YtaiillbjhdoikaaGreat.Ev
open Go Go.Proofs
set_option linter.unusedVariables false
set_option linter.unusedSimpArgs false

attribute [local irreducible] Lb
theorem c_rLen (a : List Int) (ha : Lb a) (hla : a.length ≤ 268435456) : ∃ t : Int, t = blen (lv a : Int) ∧ CallsA Tryz.prog 83 [.sli .u32 a] (.int .i64 (.s t)) := by
  refine ⟨_, rfl, ?_⟩
  generalize hr : blen (lv a : Int) = r
  have hx := lim_lb (lv a)
  have vx := lv_lim (lv a)
  have hlx := lim_length_le' ha
  have hlast := (lim_cn (lv a)).last
  obtain ⟨x, ex⟩ : ∃ x, lim (lv a) = x := ⟨_, rfl⟩
  rw [ex] at hx vx hlx hlast
  have zero : x.length = 0 → 0 = r := by
    intro h
    have : x = [] := List.length_eq_zero_iff.1 h
    rw [this] at vx
    rw [← hr, ← vx]; rfl
  have some_ : x.length ≠ 0 → r = 32 * ((x.length : Int) - 1) + blen (x.getD (x.length - 1) 0) := by
    intro h
    have ne : x ≠ [] := fun k => h (by rw [k]; rfl)
    rw [← hr, ← vx]; exact blen_len hx ne (hlast ne)
  have htop := hx.getD (x.length - 1)
  obtain ⟨m, em⟩ : ∃ m : Int × Int → Nat, ∀ p, m p = p.2.toNat := ⟨_, fun _ => rfl⟩
  obtain ⟨ok, eok⟩ : ∃ ok : Int × Int → Prop, ∀ p, ok p ↔ (0 ≤ p.1 ∧ p.1 ≤ 8589934592 + 32 ∧ 0 ≤ p.2 ∧ p.2 < 4294967296 ∧ p.1 + blen p.2 = r) := ⟨_, fun _ => Iff.rfl⟩
  have start : ∀ n t : Int, x.length ≠ 0 → n = IntKind.i64.wrap (32 * IntKind.i64.wrap ((x.length : Int) - 1)) → t = x.getD (IntKind.i64.wrap ((x.length : Int) - 1)).toNat 0 → ok (n, t) := by
    intro n t h hn ht
    have e1 : IntKind.i64.wrap ((x.length : Int) - 1) = x.length - 1 := by rw [wi64]; omega
    rw [e1] at hn ht
    rw [wi64_id (by omega) (by omega)] at hn
    rw [show ((x.length : Int) - 1).toNat = x.length - 1 by omega] at ht
    subst ht
    exact (eok _).2 ⟨by show 0 ≤ n; omega, by show n ≤ 8589934592 + 32; omega, htop.1, htop.2, by show n + blen _ = r; rw [some_ h, hn]⟩
  have rng : x.length ≠ 0 → 0 ≤ IntKind.i64.wrap ((x.length : Int) - 1) ∧ IntKind.i64.wrap ((x.length : Int) - 1) < x.length := by
    intro h; rw [wi64]; omega
  have next : ∀ n t : Int, ok (n, t) → 0 < t → m (IntKind.i64.wrap (n + 1), intBinR .quo .u32 t 2) < m (n, t) ∧ ok (IntKind.i64.wrap (n + 1), intBinR .quo .u32 t 2) := by
    intro n t hok h
    obtain ⟨h1, h2, h3, h4, h5⟩ := (eok _).1 hok
    dsimp only at h1 h2 h3 h4 h5
    rw [quo2_u32 h3 h4, wi64_id (by omega) (by omega)]
    have b := blen_half h
    have b0 := blen_nonneg t
    have b1 := blen_le 32 (x := t) (by omega)
    have rb : r ≤ 8589934592 + 32 := by
      rcases Nat.eq_zero_or_pos x.length with k | k
      · have := zero k; omega
      · have b2 := blen_le 32 (x := x.getD (x.length - 1) 0) (by omega); rw [some_ (by omega)]; omega
    exact ⟨by rw [em, em]; show (t / 2).toNat < t.toNat; omega, (eok _).2 ⟨by show 0 ≤ n + 1; omega, by show n + 1 ≤ 8589934592 + 32; have := blen_nonneg (t / 2); omega, by show 0 ≤ t / 2; omega, by show t / 2 < _; omega, by show n + 1 + blen (t / 2) = r; omega⟩⟩
  have stop : ∀ n t : Int, ok (n, t) → ¬ 0 < t → n = r := by
    intro n t hok h
    obtain ⟨h1, h2, h3, h4, h5⟩ := (eok _).1 hok
    dsimp only at h1 h2 h3 h4 h5
    have : t = 0 := by omega
    subst this
    rw [blen_zero] at h5; omega
  refine callsA_of hG hm Tryz.func83 (by kernel_rfl) ?_
  intro E hE lp hl
  cbv
  (apply E_callX hE (c_rTrim a ha hla); (case hf => rfl); (case hc => (cbv <;> trivial)); (case hle => exact ⟨u2_sli, trivial⟩); intro x' hx'; cbv)
  rw [hx'.trans ex]
  clear hx' x'
  refine E_br hE (fun h => ?_) (fun h => ?_) <;> cbv
  · subst hE; exact zero (by have k : (x.length : Int) = 0 := eql_t h; omega)
  have ne : x.length ≠ 0 := by subst hE; have k : ¬ (x.length : Int) = 0 := eql_f h; omega
  refine E_nm hE (fun n0 hn0 => ?_)
  cbv
  refine E_br hE (fun b1 => ?_) (fun b1 => ?_) <;> cbv
  · refine E_br hE (fun b2 => ?_) (fun b2 => ?_) <;> cbv
    · refine E_nm hE (fun t0 ht0 => ?_)
      cbv
      refine E_loop hE hG hm hl (fun p : Int × Int => (⟨[(4, .int .i64 (.s p.1)), (5, .int .u32 (.s p.2))], []⟩ : St)) m ok ⟨(n0, t0), (by subst hE; exact start n0 t0 ne hn0 ht0), stLe rfl ?_⟩ ?_
      · (repeat' (first | exact t_nil | apply t_cons | exact u2_sli | exact u2_int | exact u2_bool | exact u2_ms | exact u2_ptr | exact (rfl : sle2 .s0 .s0)))
      rintro ⟨n, t⟩ hok
      have nx := next n t hok
      have sp := stop n t hok
      clear next stop start hok
      cbv
      refine E_br hE (fun g => ?_) (fun g => ?_) <;> cbv
      · refine E_nm hE (fun n' hn' => ?_)
        cbv
        refine E_nm hE (fun t' ht' => ?_)
        cbv
        refine ⟨(n', t'), ?_, ?_, stLe rfl ?_⟩
        rotate_right
        · (repeat' (first | exact t_nil | apply t_cons | exact u2_sli | exact u2_int | exact u2_bool | exact u2_ms | exact u2_ptr | exact (rfl : sle2 .s0 .s0)))
        all_goals (subst hE; have q := nx (gtr_t g); have e1 : n' = IntKind.i64.wrap (n + 1) := hn'; have e2 : t' = intBinR .quo .u32 t 2 := ht'; subst e1; subst e2; first | exact q.1 | exact q.2)
      · refine E_nm hE (fun z hz => ?_)
        cbv
        subst hE
        exact Eq.trans (b := n) hz (sp (gtr_f g))
    · exfalso; subst hE; exact (lss_f b2) (rng ne).2
  · exfalso; subst hE; exact (leq_f b1) (rng ne).1

theorem rep_sub {q : Int} {a : List Int} (h : 0 ≤ q) : ((((List.replicate q.toNat (0 : Int)).drop (0 : Int).toNat).take q.toNat ++ a).drop (0 : Int).toNat).take (q + (a.length : Int)).toNat = List.replicate q.toNat 0 ++ a := by
  have e : ((List.replicate q.toNat (0 : Int)).drop (0 : Int).toNat).take q.toNat = List.replicate q.toNat 0 := by
    show ((List.replicate q.toNat (0 : Int)).drop 0).take q.toNat = _
    rw [List.drop_zero, List.take_of_length_le (by simp)]
  rw [e]
  show ((List.replicate q.toNat (0 : Int) ++ a).drop 0).take (q + (a.length : Int)).toNat = _
  rw [List.drop_zero, List.take_of_length_le (by simp; omega)]
theorem shl_pre {a : List Int} {n : Int} (ha : Lb a) (n1 : 1 ≤ n) (n2 : n ≤ 16777216) : lim (lv ((List.replicate (n / 32).toNat 0) ++ a) * lv [(2 : Int) ^ (n % 32).toNat]) = lim (lv a * 2 ^ n.toNat) := by
  rw [lv_zeros]
  congr 1
  have e : lv [(2 : Int) ^ (n % 32).toNat] = 2 ^ (n % 32).toNat := by
    show ((2 : Int) ^ (n % 32).toNat).toNat + 4294967296 * 0 = _
    rw [pow2_cast]; simp only [Int.toNat_natCast, Nat.mul_zero, Nat.add_zero]
  have p := pow_split n.toNat
  rw [show n.toNat / 32 = (n / 32).toNat by omega, show n.toNat % 32 = (n % 32).toNat by omega] at p
  rw [e, p, Nat.mul_assoc, Nat.mul_comm, Nat.mul_assoc, Nat.mul_comm (2 ^ _)]
theorem c_rShl (a : List Int) (n : Int) (ha : Lb a) (hla : a.length < 33554432) : ∃ t : List Int, t = (if n < 1 then lim (lv a) else if 16777216 < n then [] else lim (lv a * 2 ^ n.toNat)) ∧ CallsA Tryz.prog 33 [.sli .u32 a, .int .i64 (.s n)] (.sli .u32 t) := by
  refine ⟨_, rfl, ?_⟩
  generalize hr : (if n < 1 then lim (lv a) else if 16777216 < n then [] else lim (lv a * 2 ^ n.toNat)) = r
  have pre := shl_pre (n := n) ha
  have low : n < 1 → lim (lv a) = r := fun h => by rw [← hr, if_pos h]
  have hig : ¬ n < 1 → 16777216 < n → [] = r := fun h g => by rw [← hr, if_neg h, if_pos g]
  have mid : ¬ n < 1 → ¬ 16777216 < n → lim (lv a * 2 ^ n.toNat) = r := fun h g => by rw [← hr, if_neg h, if_neg g]
  have nums : ¬ n < 1 → ¬ 16777216 < n → intBinR .quo .i64 n 32 = n / 32 ∧ intBinR .rem .i64 n 32 = n % 32 ∧ 0 ≤ n / 32 ∧ n / 32 ≤ 524288 := by
    intro h g
    refine ⟨quo32 (by omega) (by omega), rem32 (by omega), by omega, by omega⟩
  refine callsA_of hG hm Tryz.func33 (by kernel_rfl) ?_
  intro E hE lp hl
  cbv
  refine E_br hE (fun g1 => ?_) (fun g1 => ?_) <;> cbv
  · repeat' (first
    | (refine E_br hE (fun h => ?_) (fun h => ?_) <;> cbv)
    | (refine E_nm hE (fun v hv => ?_); cbv)
    | (refine E_nilS hE (fun b hb => ?_); cbv)
    | (apply E_callX hE (c_rTrim _ ha ?_); (case hf => rfl); (case hc => (cbv <;> trivial)); (case hle => exact u_up); all_goals (first | (intro t ht; cbv) | (omega)))
    | fail)
    subst hE; rw [ht]; exact low (lss_t g1)
  refine E_br hE (fun g2 => ?_) (fun g2 => ?_) <;> cbv
  · subst hE; exact (hig (lss_f g1) (gtr_t g2)).symm
  have nm : E.bin .quo .i64 n 32 = n / 32 ∧ E.bin .rem .i64 n 32 = n % 32 ∧ 0 ≤ n / 32 ∧ n / 32 ≤ 524288 := by subst hE; exact nums (lss_f g1) (gtr_f g2)
  have es1 : E.sub (E.app (E.sub (E.rep (E.bin .quo .i64 n 32)) 0 (E.bin .quo .i64 n 32)) a) 0 (E.plus (E.bin .quo .i64 n 32) (E.len a)) = List.replicate (n / 32).toNat 0 ++ a := by
    subst hE; rw [nm.1]; exact rep_sub nm.2.2.1
  have es2 : ∀ v, v = E.bin .shl .u32 1 (E.conv .u64 (E.bin .rem .i64 n 32)) → E.sub [v] 0 1 = [2 ^ (n % 32).toNat] := by
    intro v hv
    subst hE
    have e : (realE Tryz.prog).conv .u64 ((realE Tryz.prog).bin .rem .i64 n 32) = n % 32 := by
      rw [nm.2.1]; show IntKind.u64.wrap (n % 32) = n % 32; rw [wu64]; omega
    rw [e] at hv
    have e2 : v = intBinR .shl .u32 1 (n % 32) := hv
    rw [shl_one (by omega) (by omega)] at e2
    subst e2; rfl
  have l1 : Lb (List.replicate (n / 32).toNat 0 ++ a) ∧ (List.replicate (n / 32).toNat 0 ++ a).length < 67108864 := ⟨(Lb.replicate _).append ha, by rw [List.length_append, List.length_replicate]; omega⟩
  have l2 : Lb [(2 : Int) ^ (n % 32).toNat] := by have := two_le (r := (n % 32).toNat) (by omega); exact Lb.cons (by omega) (by omega) Lb.nil
  have fin : ¬ n < 1 ∧ ¬ 16777216 < n := by subst hE; exact ⟨lss_f g1, gtr_f g2⟩
  have val := (pre (by omega) (by omega)).trans (mid fin.1 fin.2)
  clear pre low hig mid nums
  repeat' (first
    | (refine E_br hE (fun h => ?_) (fun h => ?_) <;> cbv)
    | (refine E_nm hE (fun v hv => ?_); cbv)
    | (refine E_nilS hE (fun b hb => ?_); cbv)
    | (apply E_callX hE (c_rMul _ _ ?_ ?_ ?_ ?_); (case hf => rfl); (case hc => (cbv <;> trivial)); (case hle => exact u_up); all_goals (first | (intro t ht; cbv) | ((first | (show Lb (E.sub (E.app (E.sub (E.rep (E.bin .quo .i64 n 32)) 0 (E.bin .quo .i64 n 32)) a) 0 (E.plus (E.bin .quo .i64 n 32) (E.len a))); rw [es1]; exact l1.1) | (show Lb (E.sub [v] 0 1); rw [es2 v hv]; exact l2) | (show (E.sub (E.app (E.sub (E.rep (E.bin .quo .i64 n 32)) 0 (E.bin .quo .i64 n 32)) a) 0 (E.plus (E.bin .quo .i64 n 32) (E.len a))).length < 67108864; rw [es1]; exact l1.2) | (show (E.sub [v] 0 1).length < 67108864; rw [es2 v hv]; show (1 : Nat) < 67108864; decide)))))
    | fail)
  case refine_2.refine_2.refine_1.refine_1.refine_1.refine_1.refine_2.hK =>
    replace ht : t = lim (lv (E.sub (E.app (E.sub (E.rep (E.bin .quo .i64 n 32)) 0 (E.bin .quo .i64 n 32)) a) 0 (E.plus (E.bin .quo .i64 n 32) (E.len a))) * lv (E.sub [v] 0 1)) := ht
    rw [es1, es2 v hv, val] at ht
    exact ht
  all_goals (exfalso; subst hE; have q := nm.1; have q2 := nm.2.1; have q3 := nm.2.2; first
    | (have h1 := lss_t ‹_›; apply absurd h1; show ¬ IntKind.u64.wrap (intBinR .rem .i64 n 32) < 0; rw [wu64]; omega)
    | (have h1 := leq_f ‹(realE Tryz.prog).cmp .leq ((realE Tryz.prog).plus _ _) _ = false›; apply h1; show intBinR .quo .i64 n 32 + (a.length : Int) ≤ 17179869184; rw [show intBinR .quo .i64 n 32 = n / 32 from q]; omega)
    | (have h1 := leq_f ‹_›; apply h1; first | exact Int.le_refl _ | (show (0 : Int) ≤ intBinR .quo .i64 n 32; rw [show intBinR .quo .i64 n 32 = n / 32 from q]; omega) | (show intBinR .quo .i64 n 32 ≤ 17179869184; rw [show intBinR .quo .i64 n 32 = n / 32 from q]; omega)))

end Go.Proofs.YtaiillbjhdoikaaGreat.Ev

/- Contracts of the reference: a bit, a bit more. Printed by gen.py. -/
namespace Go.Proofs.YtaiillbjhdoikaaGreat.Ev
open Go Go.Proofs
set_option linter.unusedVariables false
set_option linter.unusedSimpArgs false

attribute [local irreducible] Lb
theorem rem2_u64 {n : Int} (h : 0 ≤ n) : intBinR .rem .u64 n 2 = n % 2 := by
  show n.tmod 2 = _
  exact Int.tmod_eq_emod_of_nonneg h
theorem bit_word {a : List Int} {i : Int} (ha : Lb a) (h0 : 0 ≤ i) (h1 : i < 9223372036854775807) : intBinR .quo .i64 i 32 = i / 32 ∧ intBinR .rem .i64 i 32 = i % 32 ∧
    (intBinR .rem .u64 (intBinR .shr .u64 (a.getD (i / 32).toNat 0) (i % 32)) 2 = 1 ↔ lv a / 2 ^ i.toNat % 2 = 1) := by
  refine ⟨quo32 h0 (by omega), rem32 h0, ?_⟩
  have gx := ha.getD (i / 32).toNat
  have b := bit_eq ha i.toNat
  rw [show i.toNat / 32 = (i / 32).toNat by omega, show i.toNat % 32 = (i % 32).toNat by omega] at b
  rw [shr_u64 (by omega) (by omega)]
  obtain ⟨x, hx⟩ := Int.eq_ofNat_of_zero_le gx.1
  rw [hx] at b ⊢
  simp only [Int.toNat_natCast] at b
  have e : ((x : Int) / 2 ^ (i % 32).toNat) = ((x / 2 ^ (i % 32).toNat : Nat) : Int) := by rw [pow2_cast]; simp
  rw [e]
  rw [rem2_u64 (n := ((x / 2 ^ (i % 32).toNat : Nat) : Int)) (Int.natCast_nonneg _)]
  omega
theorem c_rBit (a : List Int) (i : Int) (ha : Lb a) (h0 : 0 ≤ i) (h1 : i < 9223372036854775807) : ∃ t : Bool, t = decide (lv a / 2 ^ i.toNat % 2 = 1) ∧ CallsA Tryz.prog 84 [.sli .u32 a, .int .i64 (.s i)] (.bool (.s t)) := by
  refine ⟨_, rfl, ?_⟩
  generalize hr : decide (lv a / 2 ^ i.toNat % 2 = 1) = r
  have w := bit_word ha h0 h1
  refine callsA_of hG hm Tryz.func84 (by kernel_rfl) ?_
  intro E hE lp hl
  cbv
  have e1 : E.bin .quo .i64 i 32 = i / 32 := by subst hE; exact w.1
  have e2 : E.conv .u64 (E.bin .rem .i64 i 32) = i % 32 := by subst hE; show IntKind.u64.wrap (intBinR .rem .i64 i 32) = _; rw [w.2.1, wu64]; omega
  repeat' (first
    | (refine E_br hE (fun h => ?_) (fun h => ?_) <;> cbv)
    | (refine E_nm hE (fun v hv => ?_); cbv)
    | (refine E_nilS hE (fun b hb => ?_); cbv)
    | (apply E_callX hE (c_rAt _ _ ha ?_ ?_); (case hf => rfl); (case hc => (cbv <;> trivial)); (case hle => exact u_up); all_goals (first | (intro t ht; cbv) | ((first | (show 0 ≤ E.bin .quo .i64 i 32; rw [e1]; omega) | (show E.bin .quo .i64 i 32 < 9223372036854775808; rw [e1]; omega)))))
    | fail)
  · exfalso
    rw [e2] at h
    subst hE
    have := lss_t h
    omega
  · have ht' : t = a.getD (i / 32).toNat 0 := by rw [ht]; show a.getD (E.bin .quo .i64 i 32).toNat 0 = _; rw [e1]
    show E.cmp .eql (E.bin .rem .u64 (E.bin .shr .u64 t (E.conv .u64 (E.bin .rem .i64 i 32))) 2) 1 = r
    rw [e2, ht', ← hr]
    subst hE
    simp only [realE, cmp_eql]
    exact decide_eq_decide.2 w.2.2

def rset1 (i : Int) : Option (List Int × Int) → St
  | none => ⟨[(1, .int .i64 (.s i)), (5, .s0)], []⟩
  | some (l, n) => ⟨[(1, .int .i64 (.s i)), (5, .ms 0 1 (.l 0) (.s n))], [.ints true .u32 l]⟩
def rset2 (i : Int) (a : List Int) (N : Int) : Option (List Int × Int) → St
  | none => ⟨[(1, .int .i64 (.s i)), (5, .ms 0 1 (.l 0) (.s N))], [.ints true .u32 a]⟩
  | some (l, n) => ⟨[(1, .int .i64 (.s i)), (5, .ms 1 1 (.l 0) (.s n))], [.dead, .ints true .u32 l]⟩
theorem c_rSet (a : List Int) (i : Int) (ha : Lb a) (hla : a.length < 268435456) (h0 : 0 ≤ i) (h1 : i < 8589934592) (hadd : (a ++ List.replicate (i.toNat / 32 + 1 - a.length) 0).getD (i.toNat / 32) 0 + 2 ^ (i.toNat % 32) < 4294967296) :
    ∃ t : List Int, t = setL a i.toNat ∧ CallsA Tryz.prog 85 [.sli .u32 a, .int .i64 (.s i)] (.sli .u32 t) := by
  refine ⟨_, rfl, ?_⟩
  generalize hr : setL a i.toNat = r
  have q := quo32 h0 (by omega)
  obtain ⟨m, em⟩ : ∃ m : Int → Nat, ∀ n, m n = (i / 32 + 1 - n).toNat := ⟨_, fun _ => rfl⟩
  obtain ⟨ok, eok⟩ : ∃ ok : List Int × Int → Prop, ∀ p, ok p ↔ ((a.length : Int) ≤ p.2 ∧ p.2 ≤ max (a.length : Int) (i / 32 + 1) ∧ p.1 = a ++ List.replicate (p.2.toNat - a.length) 0) := ⟨_, fun _ => Iff.rfl⟩
  have start1 : (a.length : Int) = 0 → ok ([], 0) := by
    intro h
    have e : a = [] := List.length_eq_zero_iff.1 (by omega)
    refine (eok _).2 ⟨by show (a.length : Int) ≤ 0; omega, by show (0 : Int) ≤ _; omega, ?_⟩
    rw [e]; rfl
  have start2 : ok (a, (a.length : Int)) := (eok _).2 ⟨Int.le_refl _, by show (a.length : Int) ≤ _; omega, by show a = a ++ List.replicate ((a.length : Int).toNat - a.length) 0; simp⟩
  have lens : ∀ l n, ok (l, n) → n = l.length ∧ 0 ≤ n ∧ n ≤ 536870913 := by
    intro l n hok
    obtain ⟨k1, k2, k3⟩ := (eok _).1 hok
    dsimp only at k1 k2 k3
    rw [k3, List.length_append, List.length_replicate]
    omega
  have next : ∀ l n, ok (l, n) → n ≤ i / 32 → m (n + 1) < m n ∧ ok (l ++ [0], n + 1) := by
    intro l n hok h
    obtain ⟨k1, k2, k3⟩ := (eok _).1 hok
    dsimp only at k1 k2 k3
    refine ⟨by rw [em, em]; omega, (eok _).2 ⟨by show (a.length : Int) ≤ n + 1; omega, by show n + 1 ≤ _; omega, ?_⟩⟩
    show l ++ [0] = a ++ List.replicate ((n + 1).toNat - a.length) 0
    rw [k3, show (n + 1).toNat - a.length = (n.toNat - a.length) + 1 by omega, List.replicate_succ', List.append_assoc]
  have stop : ∀ l n, ok (l, n) → ¬ n ≤ i / 32 → l.getD (i / 32).toNat 0 + 2 ^ (i % 32).toNat < 4294967296 ∧ 0 ≤ l.getD (i / 32).toNat 0 ∧ l.set (i / 32).toNat (l.getD (i / 32).toNat 0 + 2 ^ (i % 32).toNat) = r := by
    intro l n hok h
    obtain ⟨k1, k2, k3⟩ := (eok _).1 hok
    dsimp only at k1 k2 k3
    have e : l = a ++ List.replicate (i.toNat / 32 + 1 - a.length) 0 := by rw [k3]; congr 2; omega
    have gx := ((padL ha (i.toNat / 32)).1).getD (i.toNat / 32)
    rw [e, ← hr, show (i / 32).toNat = i.toNat / 32 by omega, show (i % 32).toNat = i.toNat % 32 by omega]
    exact ⟨hadd, gx.1, rfl⟩
  have two := two_le (r := (i % 32).toNat) (by omega)
  refine callsA_of hG hm Tryz.func85 (by kernel_rfl) ?_
  intro E hE lp hl
  have e1 : E.bin .quo .i64 i 32 = i / 32 := by subst hE; exact q
  have e2 : E.conv .u64 (E.bin .rem .i64 i 32) = i % 32 := by subst hE; show IntKind.u64.wrap (intBinR .rem .i64 i 32) = _; rw [rem32 h0, wu64]; omega
  cbv
  refine E_br hE (fun g0 => ?_) (fun g0 => ?_) <;> cbv
  · refine E_loopM hE hG hm hl (rset1 i) (fun o => m (o.getD ([], 0)).2) (fun o => ok (o.getD ([], 0))) ⟨none, [], start1 (by subst hE; exact eql_t g0), stLeM trivial rfl rfl rfl trivial ?_⟩ ?_
    · (repeat' (first | exact m_nil | refine m_consA (ms_le rfl rfl) rfl ?_ | refine m_cons ?_ rfl ?_ | exact u2_int | exact u2_bool | exact u2_sli | exact (rfl : sle2 .s0 .s0) | exact u2_s0))
    rintro (_ | ⟨l, n⟩) hok
    · have nx := next _ _ hok
      have sp := stop _ _ hok
      clear next stop start1 start2 lens hok
      cbv
      repeat' (first
    | (refine E_br hE (fun h => ?_) (fun h => ?_) <;> cbv)
    | (refine E_nm hE (fun v hv => ?_); cbv)
    | (refine E_nilS hE (fun b hb => ?_); cbv)
    | fail)
      · refine ⟨some (E.sub [0] 0 1, 1), [1], ?_, ?_, stLeM ⟨rfl, trivial⟩ rfl rfl rfl trivial ?_⟩
        rotate_right
        · (repeat' (first | exact m_nil | refine m_consA (ms_le rfl rfl) rfl ?_ | refine m_cons ?_ rfl ?_ | exact u2_int | exact u2_bool | exact u2_sli | exact (rfl : sle2 .s0 .s0) | exact u2_s0))
        all_goals (subst hE; have g := nx (by omega); first | exact g.1 | exact g.2)
      all_goals (try (exfalso; subst hE; first
        | (have k := leq_f (show (realE Tryz.prog).cmp .leq 0 (i / 32) = false by rw [← e1]; assumption); omega)
        | (have k := lss_f (show (realE Tryz.prog).cmp .lss (i / 32) n = false by rw [← e1]; assumption); have k2 := leq_f (show (realE Tryz.prog).cmp .leq n (i / 32) = false by rw [← e1]; assumption); omega)
        | (have k := lss_t (show (realE Tryz.prog).cmp .lss (i % 32) 0 = true by rw [← e2]; assumption); omega)
        | (have k := leq_f (show (realE Tryz.prog).cmp .leq (n + 1) 17179869184 = false by assumption); have k2 := ln.2.2; omega)))
    · have nx := next _ _ hok
      have sp := stop _ _ hok
      have ln := lens _ _ hok
      clear next stop start1 start2 lens hok
      have sl : (l.drop (0 : Int).toNat).take n.toNat = l := rsub_all ln.1
      cbv
      repeat' (first
    | (refine E_br hE (fun h => ?_) (fun h => ?_) <;> cbv)
    | (refine E_nm hE (fun v hv => ?_); cbv)
    | (refine E_nilS hE (fun b hb => ?_); cbv)
    | fail)
      all_goals (try (exfalso; subst hE; first
        | (have k := leq_f (show (realE Tryz.prog).cmp .leq 0 (i / 32) = false by rw [← e1]; assumption); omega)
        | (have k := lss_f (show (realE Tryz.prog).cmp .lss (i / 32) n = false by rw [← e1]; assumption); have k2 := leq_f (show (realE Tryz.prog).cmp .leq n (i / 32) = false by rw [← e1]; assumption); omega)
        | (have k := lss_t (show (realE Tryz.prog).cmp .lss (i % 32) 0 = true by rw [← e2]; assumption); omega)
        | (have k := leq_f (show (realE Tryz.prog).cmp .leq (n + 1) 17179869184 = false by assumption); have k2 := ln.2.2; omega)))
      · refine ⟨some (E.app (E.sub l 0 n) (E.sub [0] 0 1), E.plus n 1), [2], ?_, ?_, stLeM ⟨rfl, trivial⟩ rfl rfl rfl trivial ?_⟩
        rotate_right
        · (repeat' (first | exact m_nil | refine m_consA (ms_le rfl rfl) rfl ?_ | refine m_cons ?_ rfl ?_ | exact u2_int | exact u2_bool | exact u2_sli | exact (rfl : sle2 .s0 .s0) | exact u2_s0))
        all_goals (subst hE; have g := nx (leq_t (show (realE Tryz.prog).cmp .leq n (i / 32) = true by rw [← e1]; assumption)); rw [show (realE Tryz.prog).sub l 0 n = l from sl]; first | exact g.1 | exact g.2)
      · show E.sub (E.set l (E.bin .quo .i64 i 32) (E.bin .add .u32 (E.get l (E.bin .quo .i64 i 32)) (E.bin .shl .u32 1 (E.conv .u64 (E.bin .rem .i64 i 32))))) 0 n = r
        rw [e1, e2]
        subst hE
        have g := sp (leq_f (show (realE Tryz.prog).cmp .leq n (i / 32) = false by rw [← e1]; assumption))
        have w : (realE Tryz.prog).bin .add .u32 ((realE Tryz.prog).get l (i / 32)) ((realE Tryz.prog).bin .shl .u32 1 (i % 32)) = l.getD (i / 32).toNat 0 + 2 ^ (i % 32).toNat := by
          show IntKind.u32.wrap (l.getD (i / 32).toNat 0 + intBinR .shl .u32 1 (i % 32)) = _
          rw [shl_one (by omega) (by omega), wu32]
          omega
        rw [w]
        show ((l.set (i / 32).toNat (l.getD (i / 32).toNat 0 + 2 ^ (i % 32).toNat)).drop (0 : Int).toNat).take (n).toNat = r
        rw [rsub_all (by rw [List.length_set]; exact ln.1)]
        exact g.2.2
  · refine E_br hE (fun g1 => ?_) (fun g1 => ?_) <;> cbv
    · refine E_loopM hE hG hm hl (rset2 i a (E.len a)) (fun o => m (o.getD (a, (a.length : Int))).2) (fun o => ok (o.getD (a, (a.length : Int)))) ⟨none, [0], start2, stLeM ⟨rfl, trivial⟩ rfl rfl rfl trivial ?_⟩ ?_
      · (repeat' (first | exact m_nil | refine m_consA (ms_le rfl rfl) rfl ?_ | refine m_cons ?_ rfl ?_ | exact u2_int | exact u2_bool | exact u2_sli | exact (rfl : sle2 .s0 .s0) | exact u2_s0))
      rintro (_ | ⟨l, n⟩) hok
      · obtain ⟨n, en⟩ : ∃ n : Int, n = (a.length : Int) := ⟨_, rfl⟩
        have hok : ok (a, n) := by rw [en]; exact hok
        have nx := next _ _ hok
        have sp := stop _ _ hok
        have ln := lens _ _ hok
        clear next stop start1 start2 lens
        have sl : (a.drop (0 : Int).toNat).take n.toNat = a := rsub_all ln.1
        have eL : E.len a = n := by subst hE; exact en.symm
        rw [eL]
        clear hok
        cbv
        repeat' (first
    | (refine E_br hE (fun h => ?_) (fun h => ?_) <;> cbv)
    | (refine E_nm hE (fun v hv => ?_); cbv)
    | (refine E_nilS hE (fun b hb => ?_); cbv)
    | fail)
        all_goals (try (exfalso; subst hE; first
          | (have k := leq_f (show (realE Tryz.prog).cmp .leq 0 (i / 32) = false by rw [← e1]; assumption); omega)
          | (have k := lss_f (show (realE Tryz.prog).cmp .lss (i / 32) n = false by rw [← e1]; assumption); have k2 := leq_f (show (realE Tryz.prog).cmp .leq n (i / 32) = false by rw [← e1]; assumption); omega)
          | (have k := lss_t (show (realE Tryz.prog).cmp .lss (i % 32) 0 = true by rw [← e2]; assumption); omega)
          | (have k := leq_f (show (realE Tryz.prog).cmp .leq (n + 1) 17179869184 = false by assumption); have k2 := ln.2.2; omega)))
        · refine ⟨some (E.app (E.sub a 0 n) (E.sub [0] 0 1), E.plus n 1), [0, 2], ?_, ?_, stLeM ⟨rfl, trivial⟩ rfl rfl rfl trivial ?_⟩
          rotate_right
          · (repeat' (first | exact m_nil | refine m_consA (ms_le rfl rfl) rfl ?_ | refine m_cons ?_ rfl ?_ | exact u2_int | exact u2_bool | exact u2_sli | exact (rfl : sle2 .s0 .s0) | exact u2_s0))
          all_goals (subst hE; have g := nx (leq_t (show (realE Tryz.prog).cmp .leq n (i / 32) = true by rw [← e1]; assumption)); rw [show (realE Tryz.prog).sub a 0 n = a from sl]; first | (rw [en] at g ⊢; exact g.1) | exact g.2)
        · show E.sub (E.set a (E.bin .quo .i64 i 32) (E.bin .add .u32 (E.get a (E.bin .quo .i64 i 32)) (E.bin .shl .u32 1 (E.conv .u64 (E.bin .rem .i64 i 32))))) 0 n = r
          rw [e1, e2]
          subst hE
          have g := sp (leq_f (show (realE Tryz.prog).cmp .leq n (i / 32) = false by rw [← e1]; assumption))
          have w : (realE Tryz.prog).bin .add .u32 ((realE Tryz.prog).get a (i / 32)) ((realE Tryz.prog).bin .shl .u32 1 (i % 32)) = a.getD (i / 32).toNat 0 + 2 ^ (i % 32).toNat := by
            show IntKind.u32.wrap (a.getD (i / 32).toNat 0 + intBinR .shl .u32 1 (i % 32)) = _
            rw [shl_one (by omega) (by omega), wu32]
            omega
          rw [w]
          show ((a.set (i / 32).toNat (a.getD (i / 32).toNat 0 + 2 ^ (i % 32).toNat)).drop (0 : Int).toNat).take (n).toNat = r
          rw [rsub_all (by rw [List.length_set]; exact ln.1)]
          exact g.2.2
      · have nx := next _ _ hok
        have sp := stop _ _ hok
        have ln := lens _ _ hok
        clear next stop start1 start2 lens hok
        have sl : (l.drop (0 : Int).toNat).take n.toNat = l := rsub_all ln.1
        cbv
        repeat' (first
    | (refine E_br hE (fun h => ?_) (fun h => ?_) <;> cbv)
    | (refine E_nm hE (fun v hv => ?_); cbv)
    | (refine E_nilS hE (fun b hb => ?_); cbv)
    | fail)
        all_goals (try (exfalso; subst hE; first
          | (have k := leq_f (show (realE Tryz.prog).cmp .leq 0 (i / 32) = false by rw [← e1]; assumption); omega)
          | (have k := lss_f (show (realE Tryz.prog).cmp .lss (i / 32) n = false by rw [← e1]; assumption); have k2 := leq_f (show (realE Tryz.prog).cmp .leq n (i / 32) = false by rw [← e1]; assumption); omega)
          | (have k := lss_t (show (realE Tryz.prog).cmp .lss (i % 32) 0 = true by rw [← e2]; assumption); omega)
          | (have k := leq_f (show (realE Tryz.prog).cmp .leq (n + 1) 17179869184 = false by assumption); have k2 := ln.2.2; omega)))
        · refine ⟨some (E.app (E.sub l 0 n) (E.sub [0] 0 1), E.plus n 1), [0, 3], ?_, ?_, stLeM ⟨rfl, trivial⟩ rfl rfl rfl trivial ?_⟩
          rotate_right
          · (repeat' (first | exact m_nil | refine m_consA (ms_le rfl rfl) rfl ?_ | refine m_cons ?_ rfl ?_ | exact u2_int | exact u2_bool | exact u2_sli | exact (rfl : sle2 .s0 .s0) | exact u2_s0))
          all_goals (subst hE; have g := nx (leq_t (show (realE Tryz.prog).cmp .leq n (i / 32) = true by rw [← e1]; assumption)); rw [show (realE Tryz.prog).sub l 0 n = l from sl]; first | exact g.1 | exact g.2)
        · show E.sub (E.set l (E.bin .quo .i64 i 32) (E.bin .add .u32 (E.get l (E.bin .quo .i64 i 32)) (E.bin .shl .u32 1 (E.conv .u64 (E.bin .rem .i64 i 32))))) 0 n = r
          rw [e1, e2]
          subst hE
          have g := sp (leq_f (show (realE Tryz.prog).cmp .leq n (i / 32) = false by rw [← e1]; assumption))
          have w : (realE Tryz.prog).bin .add .u32 ((realE Tryz.prog).get l (i / 32)) ((realE Tryz.prog).bin .shl .u32 1 (i % 32)) = l.getD (i / 32).toNat 0 + 2 ^ (i % 32).toNat := by
            show IntKind.u32.wrap (l.getD (i / 32).toNat 0 + intBinR .shl .u32 1 (i % 32)) = _
            rw [shl_one (by omega) (by omega), wu32]
            omega
          rw [w]
          show ((l.set (i / 32).toNat (l.getD (i / 32).toNat 0 + 2 ^ (i % 32).toNat)).drop (0 : Int).toNat).take (n).toNat = r
          rw [rsub_all (by rw [List.length_set]; exact ln.1)]
          exact g.2.2
    · exfalso
      subst hE
      have k := leq_f g1
      apply k
      show (a.length : Int) ≤ 17179869184
      omega

end Go.Proofs.YtaiillbjhdoikaaGreat.Ev

/- Contracts of the reference: the quotient, bit by bit. Printed by gen.py. -/
namespace Go.Proofs.YtaiillbjhdoikaaGreat.Ev
open Go Go.Proofs
set_option linter.unusedVariables false
set_option linter.unusedSimpArgs false

attribute [local irreducible] Lb
theorem lv_blen {a : List Int} (ha : Lb a) : blen (lv a : Int) ≤ 32 * a.length := by
  have l := lv_lt ha
  have e : (4294967296 : Nat) ^ a.length = 2 ^ (32 * a.length) := by rw [show (4294967296 : Nat) = 2 ^ 32 from rfl, ← Nat.pow_mul]
  have := blen_le (32 * a.length) (x := (lv a : Int)) (by rw [pow2_cast]; omega)
  omega
theorem lt_blen (n : Nat) : n < 2 ^ (blen (n : Int)).toNat := by
  rcases Nat.eq_zero_or_pos n with h | h
  · subst h; decide
  · obtain ⟨k, h1, _, h3⟩ := blen_pos (x := (n : Int)) (by omega)
    rw [h1, show ((k : Int) + 1).toNat = k + 1 by omega]
    rw [pow2_cast] at h3
    omega
theorem c_rDiv (a b : List Int) (ha : Lb a) (hb : Lb b) (hla : a.length < 67108864) (hlb : b.length < 67108864) :
    ∃ t : List Int × List Int × Bool, t = (if lv b = 0 then ([], [], false) else (lim (lv a / lv b), lim (lv a % lv b), true)) ∧ CallsA Tryz.prog 67 [.sli .u32 a, .sli .u32 b] (.tup [.sli .u32 t.1, .sli .u32 t.2.1, .bool (.s t.2.2)]) := by
  refine ⟨_, rfl, ?_⟩
  generalize hr : (if lv b = 0 then ([], [], false) else (lim (lv a / lv b), lim (lv a % lv b), true) : List Int × List Int × Bool) = r
  have hd := lim_lb (lv b)
  have vd := lv_lim (lv b)
  have hld := lim_length_le' hb
  have hnil := lim_eq_nil (n := lv b)
  obtain ⟨d, ed⟩ : ∃ d, lim (lv b) = d := ⟨_, rfl⟩
  rw [ed] at hd vd hld hnil
  have zero : d.length = 0 → ([], [], false) = r := by
    intro h
    rw [← hr, if_pos (hnil.1 (List.length_eq_zero_iff.1 h))]
  have pos : d.length ≠ 0 → 0 < lv d := by
    intro h
    rcases Nat.eq_zero_or_pos (lv d) with k | k
    · exfalso; apply h; rw [hnil.2 (by omega)]; rfl
    · exact k
  have bl := lv_blen ha
  have b0 := blen_nonneg (lv a : Int)
  have bt := lt_blen (lv a)
  obtain ⟨m, em⟩ : ∃ m : Int × List Int × List Int → Nat, ∀ p, m p = (p.1 + 1).toNat := ⟨_, fun _ => rfl⟩
  obtain ⟨ok, eok⟩ : ∃ ok : Int × List Int × List Int → Prop, ∀ p, ok p ↔ (-1 ≤ p.1 ∧ p.1 < 32 * a.length ∧ p.2.2 = lim (lv a / 2 ^ (p.1 + 1).toNat % lv d) ∧ Lb p.2.1 ∧ lv p.2.1 = lv a / 2 ^ (p.1 + 1).toNat / lv d * 2 ^ (p.1 + 1).toNat ∧ p.2.1.length ≤ a.length) := ⟨_, fun _ => Iff.rfl⟩
  have wn : ∀ n : Int, n = blen (lv a : Int) → IntKind.i64.wrap (n - 1) = blen (lv a : Int) - 1 := by intro n h; rw [h, wi64]; omega
  have start : ok (blen (lv a : Int) - 1, [], []) := by
    have z : lv a / 2 ^ (blen (lv a : Int)).toNat = 0 := Nat.div_eq_of_lt bt
    refine (eok _).2 ⟨by show -1 ≤ blen (lv a : Int) - 1; omega, by show blen (lv a : Int) - 1 < _; omega, ?_, Lb.nil, ?_, Nat.zero_le _⟩
    · show [] = lim (lv a / 2 ^ (blen (lv a : Int) - 1 + 1).toNat % lv d)
      rw [show blen (lv a : Int) - 1 + 1 = blen (lv a : Int) by omega, z, Nat.zero_mod]; rfl
    · show lv [] = lv a / 2 ^ (blen (lv a : Int) - 1 + 1).toNat / lv d * _
      rw [show blen (lv a : Int) - 1 + 1 = blen (lv a : Int) by omega, z, Nat.zero_div, Nat.zero_mul]; rfl
  have inv : ∀ i q w, 0 < lv d → ok (i, q, w) → Lb q ∧ q.length ≤ a.length ∧ Lb w ∧ w.length ≤ b.length ∧ lv w < lv d ∧ i < 8589934592 ∧ (0 ≤ i → 2 ^ (i.toNat + 1) ∣ lv q) := by
    intro i q w hp hok
    obtain ⟨k1, k2, k3, k4, k5, k6⟩ := (eok _).1 hok
    dsimp only at k1 k2 k3 k4 k5 k6
    have lw : lv w < lv d := by rw [k3, lv_lim]; exact Nat.mod_lt _ hp
    refine ⟨k4, k6, by rw [k3]; exact lim_lb _, ?_, lw, by omega, fun hi => ?_⟩
    · have l2 := lv_lt hb
      rw [k3]
      exact lim_length_le (by rw [k3, lv_lim] at lw; omega)
    · rw [k5, show (i + 1).toNat = i.toNat + 1 by omega]
      exact Nat.dvd_mul_left _ _
  have next0 : ∀ i q w w2, 0 < lv d → ok (i, q, w) → 0 ≤ i → w2 = lim (2 * lv w + lv a / 2 ^ i.toNat % 2) → lv w2 < lv d → m (i - 1, q, w2) < m (i, q, w) ∧ ok (i - 1, q, w2) := by
    intro i q w w2 hp hok hi hw h
    obtain ⟨k1, k2, k3, k4, k5, k6⟩ := (eok _).1 hok
    dsimp only at k1 k2 k3 k4 k5 k6
    have e : (i + 1).toNat = i.toNat + 1 := by omega
    rw [e] at k3 k5
    have vw : lv w = lv a / 2 ^ (i.toNat + 1) % lv d := by rw [k3, lv_lim]
    rw [vw] at hw
    rw [hw, lv_lim] at h
    have s := (div_step (A := lv a) (i := i.toNat) hp).1 h
    refine ⟨by rw [em, em]; show (i - 1 + 1).toNat < (i + 1).toNat; omega, (eok _).2 ⟨by show -1 ≤ i - 1; omega, by show i - 1 < _; omega, ?_, k4, ?_, k6⟩⟩
    · show w2 = lim (lv a / 2 ^ (i - 1 + 1).toNat % lv d)
      rw [show (i - 1 + 1).toNat = i.toNat by omega, s.1, hw]
    · show lv q = lv a / 2 ^ (i - 1 + 1).toNat / lv d * 2 ^ (i - 1 + 1).toNat
      rw [show (i - 1 + 1).toNat = i.toNat by omega, s.2, k5, Nat.pow_succ, Nat.mul_comm 2, Nat.mul_assoc, Nat.mul_comm 2]
  have next1 : ∀ i q w w2, 0 < lv d → ok (i, q, w) → 0 ≤ i → w2 = lim (2 * lv w + lv a / 2 ^ i.toNat % 2) → ¬ lv w2 < lv d → m (i - 1, setL q i.toNat, lim (lv w2 - lv d)) < m (i, q, w) ∧ ok (i - 1, setL q i.toNat, lim (lv w2 - lv d)) := by
    intro i q w w2 hp hok hi hw h
    have dv := (inv i q w hp hok).2.2.2.2.2.2 hi
    obtain ⟨k1, k2, k3, k4, k5, k6⟩ := (eok _).1 hok
    dsimp only at k1 k2 k3 k4 k5 k6
    have e : (i + 1).toNat = i.toNat + 1 := by omega
    rw [e] at k3 k5
    have vw : lv w = lv a / 2 ^ (i.toNat + 1) % lv d := by rw [k3, lv_lim]
    rw [vw] at hw
    have st := setL_ok k4 i.toNat dv
    have lw2 : lv w2 = 2 * (lv a / 2 ^ (i.toNat + 1) % lv d) + lv a / 2 ^ i.toNat % 2 := by rw [hw, lv_lim]
    rw [lw2] at h ⊢
    have s := (div_step (A := lv a) (i := i.toNat) hp).2 (by omega)
    refine ⟨by rw [em, em]; show (i - 1 + 1).toNat < (i + 1).toNat; omega, (eok _).2 ⟨by show -1 ≤ i - 1; omega, by show i - 1 < _; omega, ?_, st.2.1, ?_, ?_⟩⟩
    · show lim _ = lim (lv a / 2 ^ (i - 1 + 1).toNat % lv d)
      rw [show (i - 1 + 1).toNat = i.toNat by omega, s.1]
    · show lv (setL q i.toNat) = lv a / 2 ^ (i - 1 + 1).toNat / lv d * 2 ^ (i - 1 + 1).toNat
      rw [show (i - 1 + 1).toNat = i.toNat by omega, s.2, st.2.2.1, k5, Nat.pow_succ, Nat.add_mul, Nat.mul_comm 2, Nat.mul_assoc, Nat.mul_comm 2, Nat.one_mul]
    · show (setL q i.toNat).length ≤ a.length
      rw [st.2.2.2]; omega
  have stop : ∀ i q w, d.length ≠ 0 → ok (i, q, w) → ¬ 0 ≤ i → (lim (lv q), lim (lv w), true) = r := by
    intro i q w hp hok hi
    obtain ⟨k1, k2, k3, k4, k5, k6⟩ := (eok _).1 hok
    dsimp only at k1 k2 k3 k4 k5 k6
    have p := pos hp
    rw [show (i + 1).toNat = 0 by omega, Nat.pow_zero, Nat.div_one] at k3 k5
    rw [k5, k3, lv_lim, Nat.mul_one, vd, ← hr, if_neg (by omega)]
  refine callsA_of hG hm Tryz.func67 (by kernel_rfl) ?_
  intro E hE lp hl
  cbv
  (apply E_callX hE (c_rTrim b hb (by omega)); (case hf => rfl); (case hc => (cbv <;> trivial)); (case hle => exact ⟨u2_sli, trivial⟩); intro x' hx'; cbv)
  rw [hx'.trans ed]
  clear hx' x'
  refine E_br hE (fun h => ?_) (fun h => ?_) <;> cbv
  · subst hE
    have z := zero (by have k : (d.length : Int) = 0 := eql_t h; omega)
    rw [← z]; exact ⟨rfl, rfl, rfl, trivial⟩
  have ne : d.length ≠ 0 := by subst hE; have k : ¬ (d.length : Int) = 0 := eql_f h; omega
  have pd := pos ne
  (apply E_callX hE (c_rLen a ha (by omega)); (case hf => rfl); (case hc => (cbv <;> trivial)); (case hle => exact ⟨u2_sli, trivial⟩); intro n hn; cbv)
  refine E_nm hE (fun i0 hi0 => ?_)
  cbv
  have ei0 : i0 = blen (lv a : Int) - 1 := by subst hE; have k : i0 = IntKind.i64.wrap (n - 1) := hi0; rw [k]; exact wn n hn
  refine E_loopM hE hG hm hl (fun p : Int × List Int × List Int => (⟨[(0, .sli .u32 a), (7, .sli .u32 d), (8, .sli .u32 p.2.1), (9, .sli .u32 p.2.2), (10, .int .i64 (.s p.1))], []⟩ : St)) m ok ⟨(i0, [], []), [], (by rw [ei0]; exact start), stLeM trivial rfl rfl rfl trivial ?_⟩ ?_
  · (repeat' (first | exact m_nil | refine m_consA (ms_le rfl rfl) rfl ?_ | refine m_cons ?_ rfl ?_ | exact u2_int | exact u2_bool | exact u2_sli | exact (rfl : sle2 .s0 .s0) | exact u2_s0))
  rintro ⟨i, q, w⟩ hok
  have iv := inv i q w pd hok
  have n0 := fun w2 => next0 i q w w2 pd hok
  have n1 := fun w2 => next1 i q w w2 pd hok
  have sp := stop i q w ne hok
  have wpi : 0 ≤ i → IntKind.i64.wrap (i - 1) = i - 1 := fun p => by have := iv.2.2.2.2.2.1; rw [wi64]; omega
  have l1 : Lb [(1 : Int)] := Lb.cons (by decide) (by decide) Lb.nil
  have l1 : Lb [(1 : Int)] := Lb.cons (by decide) (by decide) Lb.nil
  have small : ∀ (u : List Int) (X : Nat), u = lim X → X ≤ 2 * lv d → Lb u ∧ u.length < 268435456 := by
    intro u X hu hX
    subst hu
    refine ⟨lim_lb _, ?_⟩
    have l2 := lv_lt hd
    have : (lim X).length ≤ d.length + 1 := lim_length_le (by rw [Nat.pow_succ]; omega)
    omega
  have lw := iv.2.2.2.2.1
  have bit01 := Nat.mod_lt (lv a / 2 ^ i.toNat) (show 0 < 2 by decide)
  have dbl : ∀ t, t = lim (lv w + lv w) → Lb t ∧ t.length < 268435456 ∧ lv t = 2 * lv w := by
    intro t ht
    have k := small t _ ht (by omega)
    exact ⟨k.1, k.2, by rw [ht, lv_lim]; omega⟩
  have nxt0 : ∀ t, t = lim (lv w + lv w) → ¬ lv a / 2 ^ i.toNat % 2 = 1 → t = lim (2 * lv w + lv a / 2 ^ i.toNat % 2) ∧ Lb t ∧ t.length < 268435456 := by
    intro t ht h
    have k := small t _ ht (by omega)
    exact ⟨by rw [ht]; congr 1; omega, k.1, k.2⟩
  have nxt1 : ∀ t u, t = lim (lv w + lv w) → u = lim (lv t + lv [(1 : Int)]) → lv a / 2 ^ i.toNat % 2 = 1 → u = lim (2 * lv w + lv a / 2 ^ i.toNat % 2) ∧ Lb u ∧ u.length < 268435456 := by
    intro t u ht hu h
    have e : lv [(1 : Int)] = 1 := rfl
    rw [e, (dbl t ht).2.2] at hu
    have k := small u _ hu (by omega)
    exact ⟨by rw [hu, h], k.1, k.2⟩
  have lens : w.length < 268435456 ∧ d.length < 268435456 ∧ q.length < 268435456 ∧ i < 9223372036854775807 ∧ i < 8589934592 := ⟨by have := iv.2.2.2.1; omega, by omega, by have := iv.2.1; omega, by have := iv.2.2.2.2.2.1; omega, iv.2.2.2.2.2.1⟩
  have addok : 0 ≤ i → (q ++ List.replicate (i.toNat / 32 + 1 - q.length) 0).getD (i.toNat / 32) 0 + 2 ^ (i.toNat % 32) < 4294967296 := fun h => (setL_ok iv.1 i.toNat (iv.2.2.2.2.2.2 h)).1
  have subs : ∀ (w2 : List Int) (s : List Int × Bool), s = (if lv w2 < lv d then ([], false) else (lim (lv w2 - lv d), true)) → (s.2 = false → lv w2 < lv d) ∧ (s.2 = true → ¬ lv w2 < lv d ∧ s.1 = lim (lv w2 - lv d)) := by
    intro w2 s hs
    subst hs
    by_cases k : lv w2 < lv d
    · rw [if_pos k]; exact ⟨fun _ => k, fun h => by cases h⟩
    · rw [if_neg k]; exact ⟨fun h => by (cases h), fun _ => ⟨k, rfl⟩⟩
  clear next0 next1 stop start inv hok eok zero pos
  cbv
  refine E_br hE (fun hi => ?_) (fun hi => ?_) <;> cbv
  · have hnn : 0 ≤ i := by subst hE; exact geq_t hi
    (apply E_callX hE (c_rAdd w w iv.2.2.1 iv.2.2.1 lens.1 lens.1); (case hf => rfl); (case hc => (cbv <;> trivial)); (case hle => exact ⟨u2_sli, u2_sli, trivial⟩); intro t ht; cbv)
    (apply E_callX hE (c_rBit a i ha hnn lens.2.2.2.1); (case hf => rfl); (case hc => (cbv <;> trivial)); (case hle => exact ⟨u2_sli, u2_int, trivial⟩); intro o ho; cbv)
    refine E_br hE (fun hb1 => ?_) (fun hb1 => ?_) <;> cbv
    · have bt1 : lv a / 2 ^ i.toNat % 2 = 1 := of_decide_eq_true (ho.symm.trans hb1)
      have T := dbl t ht
      have es : E.sub [1] 0 1 = [1] := by subst hE; rfl
      repeat' (first
    | (refine E_br hE (fun h => ?_) (fun h => ?_) <;> cbv)
    | (refine E_nm hE (fun v hv => ?_); cbv)
    | (refine E_nilS hE (fun b hb => ?_); cbv)
    | (apply E_callX hE (c_rAdd _ _ ?_ ?_ ?_ ?_); (case hf => rfl); (case hc => (cbv <;> trivial)); (case hle => exact u_up); all_goals (first | (intro u hu; cbv) | ((first | exact T.1 | exact T.2.1 | (show Lb (E.sub [1] 0 1); rw [es]; exact l1) | (show (E.sub [1] 0 1).length < 268435456; rw [es]; show (1 : Nat) < 268435456; decide)))))
    | fail)
      have U := nxt1 t u ht (by rw [hu]; congr 2; show lv (E.sub [1] 0 1) = _; rw [es]) bt1
      (apply E_callX hE (c_rSub u d U.2.1 hd U.2.2 lens.2.1); (case hf => rfl); (case hc => (cbv <;> trivial)); (case hle => exact ⟨u2_sli, u2_sli, trivial⟩); intro s hs; cbv)
      have SB := subs u s hs
      refine E_br hE (fun hs2 => ?_) (fun hs2 => ?_) <;> cbv
      · have k := SB.2 hs2
        (apply E_callX hE (c_rSet q i iv.1 lens.2.2.1 hnn lens.2.2.2.2 (addok hnn)); (case hf => rfl); (case hc => (cbv <;> trivial)); (case hle => exact ⟨u2_sli, u2_int, trivial⟩); intro q' hq'; cbv)
        refine E_nm hE (fun v hv => ?_)
        cbv
        refine ⟨(v, q', s.1), [], ?_, ?_, stLeM trivial rfl rfl rfl trivial ?_⟩
        rotate_right
        · (repeat' (first | exact m_nil | refine m_consA (ms_le rfl rfl) rfl ?_ | refine m_cons ?_ rfl ?_ | exact u2_int | exact u2_bool | exact u2_sli | exact (rfl : sle2 .s0 .s0) | exact u2_s0))
        all_goals (have g := n1 u hnn U.1 k.1; rw [← k.2, ← show q' = setL q i.toNat from hq'] at g; have hv' : v = i - 1 := (by subst hE; have z : v = IntKind.i64.wrap (i - 1) := hv; rw [z, wpi hnn]); subst hv'; first | exact g.1 | exact g.2)
      · have k := SB.1 hs2
        refine E_nm hE (fun v hv => ?_)
        cbv
        refine ⟨(v, q, u), [], ?_, ?_, stLeM trivial rfl rfl rfl trivial ?_⟩
        rotate_right
        · (repeat' (first | exact m_nil | refine m_consA (ms_le rfl rfl) rfl ?_ | refine m_cons ?_ rfl ?_ | exact u2_int | exact u2_bool | exact u2_sli | exact (rfl : sle2 .s0 .s0) | exact u2_s0))
        all_goals (have g := n0 u hnn U.1 k; have hv' : v = i - 1 := (by subst hE; have z : v = IntKind.i64.wrap (i - 1) := hv; rw [z, wpi hnn]); subst hv'; first | exact g.1 | exact g.2)
    · have bt0 : ¬ lv a / 2 ^ i.toNat % 2 = 1 := of_decide_eq_false (ho.symm.trans hb1)
      have U := nxt0 t ht bt0
      (apply E_callX hE (c_rSub t d U.2.1 hd U.2.2 lens.2.1); (case hf => rfl); (case hc => (cbv <;> trivial)); (case hle => exact ⟨u2_sli, u2_sli, trivial⟩); intro s hs; cbv)
      have SB := subs t s hs
      refine E_br hE (fun hs2 => ?_) (fun hs2 => ?_) <;> cbv
      · have k := SB.2 hs2
        (apply E_callX hE (c_rSet q i iv.1 lens.2.2.1 hnn lens.2.2.2.2 (addok hnn)); (case hf => rfl); (case hc => (cbv <;> trivial)); (case hle => exact ⟨u2_sli, u2_int, trivial⟩); intro q' hq'; cbv)
        refine E_nm hE (fun v hv => ?_)
        cbv
        refine ⟨(v, q', s.1), [], ?_, ?_, stLeM trivial rfl rfl rfl trivial ?_⟩
        rotate_right
        · (repeat' (first | exact m_nil | refine m_consA (ms_le rfl rfl) rfl ?_ | refine m_cons ?_ rfl ?_ | exact u2_int | exact u2_bool | exact u2_sli | exact (rfl : sle2 .s0 .s0) | exact u2_s0))
        all_goals (have g := n1 t hnn U.1 k.1; rw [← k.2, ← show q' = setL q i.toNat from hq'] at g; have hv' : v = i - 1 := (by subst hE; have z : v = IntKind.i64.wrap (i - 1) := hv; rw [z, wpi hnn]); subst hv'; first | exact g.1 | exact g.2)
      · have k := SB.1 hs2
        refine E_nm hE (fun v hv => ?_)
        cbv
        refine ⟨(v, q, t), [], ?_, ?_, stLeM trivial rfl rfl rfl trivial ?_⟩
        rotate_right
        · (repeat' (first | exact m_nil | refine m_consA (ms_le rfl rfl) rfl ?_ | refine m_cons ?_ rfl ?_ | exact u2_int | exact u2_bool | exact u2_sli | exact (rfl : sle2 .s0 .s0) | exact u2_s0))
        all_goals (have g := n0 t hnn U.1 k; have hv' : v = i - 1 := (by subst hE; have z : v = IntKind.i64.wrap (i - 1) := hv; rw [z, wpi hnn]); subst hv'; first | exact g.1 | exact g.2)
  · (apply E_callX hE (c_rTrim q iv.1 (Nat.le_of_lt lens.2.2.1)); (case hf => rfl); (case hc => (cbv <;> trivial)); (case hle => exact ⟨u2_sli, trivial⟩); intro x hx; cbv)
    (apply E_callX hE (c_rTrim w iv.2.2.1 (Nat.le_of_lt lens.1)); (case hf => rfl); (case hc => (cbv <;> trivial)); (case hle => exact ⟨u2_sli, trivial⟩); intro y hy; cbv)
    subst hE
    have g := sp (geq_f hi)
    rw [← g, ← hx, ← hy]
    exact ⟨rfl, rfl, rfl, trivial⟩

end Go.Proofs.YtaiillbjhdoikaaGreat.Ev

/- Contracts of the reference: shifted down. Printed by gen.py. -/
namespace Go.Proofs.YtaiillbjhdoikaaGreat.Ev
open Go Go.Proofs
set_option linter.unusedVariables false
set_option linter.unusedSimpArgs false

attribute [local irreducible] Lb
theorem c_rShr (a : List Int) (n : Int) (ha : Lb a) (hla : a.length < 67108864) (hn : n < 9223372036854775807) : ∃ t : List Int, t = (if n < 1 then lim (lv a) else lim (lv a / 2 ^ n.toNat)) ∧ CallsA Tryz.prog 101 [.sli .u32 a, .int .i64 (.s n)] (.sli .u32 t) := by
  refine ⟨_, rfl, ?_⟩
  generalize hr : (if n < 1 then lim (lv a) else lim (lv a / 2 ^ n.toNat)) = r
  have low : n < 1 → lim (lv a) = r := fun h => by rw [← hr, if_pos h]
  have hig : ¬ n < 1 → IntKind.i64.wrap (32 * (a.length : Int)) ≤ n → [] = r := by
    intro h g
    rw [wi64_id (by omega) (by omega)] at g
    have l := lv_lt ha
    have e : (4294967296 : Nat) ^ a.length = 2 ^ (32 * a.length) := by rw [show (4294967296 : Nat) = 2 ^ 32 from rfl, ← Nat.pow_mul]
    have p : (2 : Nat) ^ (32 * a.length) ≤ 2 ^ n.toNat := Nat.pow_le_pow_right (by decide) (by omega)
    rw [← hr, if_neg h, Nat.div_eq_of_lt (by omega)]; rfl
  have nums : ¬ n < 1 → ¬ IntKind.i64.wrap (32 * (a.length : Int)) ≤ n → intBinR .quo .i64 n 32 = n / 32 ∧ intBinR .rem .i64 n 32 = n % 32 ∧ 0 ≤ n / 32 ∧ n / 32 < a.length := by
    intro h g
    rw [wi64_id (by omega) (by omega)] at g
    refine ⟨quo32 (by omega) (by omega), rem32 (by omega), by omega, by omega⟩
  have val : ¬ n < 1 → n / 32 < a.length → (if lv [(2 : Int) ^ (n % 32).toNat] = 0 then ([], [], false) else (lim (lv (lim (lv (a.drop (n / 32).toNat))) / lv [(2 : Int) ^ (n % 32).toNat]), lim (lv (lim (lv (a.drop (n / 32).toNat))) % lv [(2 : Int) ^ (n % 32).toNat]), true) : List Int × List Int × Bool).1 = r := by
    intro h g
    have e : lv [(2 : Int) ^ (n % 32).toNat] = 2 ^ (n % 32).toNat := by
      show ((2 : Int) ^ (n % 32).toNat).toNat + 4294967296 * 0 = _
      rw [pow2_cast]; simp only [Int.toNat_natCast, Nat.mul_zero, Nat.add_zero]
    have p0 : 0 < 2 ^ (n % 32).toNat := Nat.pow_pos (by decide)
    have p := pow_split n.toNat
    rw [show n.toNat / 32 = (n / 32).toNat by omega, show n.toNat % 32 = (n % 32).toNat by omega] at p
    rw [e, if_neg (by omega), lv_lim, lv_drop ha _ (by omega), Nat.div_div_eq_div_mul, ← p, ← hr, if_neg h]
  have l2 : Lb [(2 : Int) ^ (n % 32).toNat] := by have := two_le (r := (n % 32).toNat) (by omega); exact Lb.cons (by omega) (by omega) Lb.nil
  have hx : ∀ x, x = lim (lv (a.drop (n / 32).toNat)) → Lb x ∧ x.length < 67108864 := by
    intro x h
    subst h
    refine ⟨lim_lb _, ?_⟩
    have := lim_length_le' (ha.drop (n / 32).toNat)
    rw [List.length_drop] at this
    omega
  have ld : Lb (a.drop (n / 32).toNat) ∧ (a.drop (n / 32).toNat).length ≤ 268435456 := ⟨ha.drop _, by rw [List.length_drop]; omega⟩
  refine callsA_of hG hm Tryz.func101 (by kernel_rfl) ?_
  intro E hE lp hl
  cbv
  refine E_br hE (fun g1 => ?_) (fun g1 => ?_) <;> cbv
  · repeat' (first
    | (refine E_br hE (fun h => ?_) (fun h => ?_) <;> cbv)
    | (refine E_nm hE (fun v hv => ?_); cbv)
    | (refine E_nilS hE (fun b hb => ?_); cbv)
    | (apply E_callX hE (c_rTrim _ ha ?_); (case hf => rfl); (case hc => (cbv <;> trivial)); (case hle => exact u_up); all_goals (first | (intro t ht; cbv) | (omega)))
    | fail)
    subst hE; rw [ht]; exact low (lss_t g1)
  refine E_br hE (fun g2 => ?_) (fun g2 => ?_) <;> cbv
  · subst hE; exact (hig (lss_f g1) (geq_t g2)).symm
  have nm : E.bin .quo .i64 n 32 = n / 32 ∧ E.bin .rem .i64 n 32 = n % 32 ∧ 0 ≤ n / 32 ∧ n / 32 < a.length := by subst hE; exact nums (lss_f g1) (geq_f g2)
  have es0 : E.sub a (E.bin .quo .i64 n 32) (E.minus (E.len a) (E.bin .quo .i64 n 32)) = a.drop (n / 32).toNat := by
    subst hE; rw [nm.1]; show (a.drop (n / 32).toNat).take ((a.length : Int) - n / 32).toNat = _; rw [List.take_of_length_le (by rw [List.length_drop]; omega)]
  have es2 : ∀ v, v = E.bin .shl .u32 1 (E.conv .u64 (E.bin .rem .i64 n 32)) → E.sub [v] 0 1 = [2 ^ (n % 32).toNat] := by
    intro v hv
    subst hE
    have e : (realE Tryz.prog).conv .u64 ((realE Tryz.prog).bin .rem .i64 n 32) = n % 32 := by
      rw [nm.2.1]; show IntKind.u64.wrap (n % 32) = n % 32; rw [wu64]; omega
    rw [e] at hv
    have e2 : v = intBinR .shl .u32 1 (n % 32) := hv
    rw [shl_one (by omega) (by omega)] at e2
    subst e2; rfl
  refine E_br hE (fun b1 => ?_) (fun b1 => ?_) <;> cbv
  · refine E_br hE (fun b2 => ?_) (fun b2 => ?_) <;> cbv
    · refine E_br hE (fun b3 => ?_) (fun b3 => ?_) <;> cbv
      · (apply E_callX hE (c_rTrim _ ?_ ?_); (case hf => rfl); (case hc => (cbv <;> trivial)); (case hle => exact ⟨u2_sli, trivial⟩); all_goals (first | (intro x hx'; cbv) | (show Lb (E.sub a (E.bin .quo .i64 n 32) (E.minus (E.len a) (E.bin .quo .i64 n 32))); rw [es0]; exact ld.1) | (show (E.sub a (E.bin .quo .i64 n 32) (E.minus (E.len a) (E.bin .quo .i64 n 32))).length ≤ 268435456; rw [es0]; exact ld.2)))
        replace hx' : x = lim (lv (E.sub a (E.bin .quo .i64 n 32) (E.minus (E.len a) (E.bin .quo .i64 n 32)))) := hx'
        rw [es0] at hx'
        have X := hx x hx'
        refine E_br hE (fun b4 => ?_) (fun b4 => ?_) <;> cbv
        · exfalso
          subst hE
          have k := lss_t b4
          have e : (realE Tryz.prog).conv .u64 ((realE Tryz.prog).bin .rem .i64 n 32) = n % 32 := by rw [nm.2.1]; show IntKind.u64.wrap (n % 32) = n % 32; rw [wu64]; omega
          rw [e] at k
          omega
        · have e2 := es2 _ rfl
          (apply E_callX hE (c_rDiv _ _ X.1 ?_ X.2 ?_); (case hf => rfl); (case hc => (cbv <;> trivial)); (case hle => exact ⟨u2_sli, u2_sli, trivial⟩); all_goals (first | (intro t ht; cbv) | (show Lb (E.sub [(E.bin .shl .u32 1 (E.conv .u64 (E.bin .rem .i64 n 32)))] 0 1); rw [e2]; exact l2) | (show (E.sub [(E.bin .shl .u32 1 (E.conv .u64 (E.bin .rem .i64 n 32)))] 0 1).length < 67108864; rw [e2]; show (1 : Nat) < 67108864; decide)))
          replace ht : t = (if lv (E.sub [(E.bin .shl .u32 1 (E.conv .u64 (E.bin .rem .i64 n 32)))] 0 1) = 0 then ([], [], false) else (lim (lv x / lv (E.sub [(E.bin .shl .u32 1 (E.conv .u64 (E.bin .rem .i64 n 32)))] 0 1)), lim (lv x % lv (E.sub [(E.bin .shl .u32 1 (E.conv .u64 (E.bin .rem .i64 n 32)))] 0 1)), true)) := ht
          rw [e2, hx'] at ht
          rw [← val (by subst hE; exact lss_f g1) nm.2.2.2, ht]
      · exfalso; subst hE; exact leq_f b3 (Int.le_refl _)
    · exfalso; subst hE; apply leq_f b2; show intBinR .quo .i64 n 32 ≤ (a.length : Int); rw [show intBinR .quo .i64 n 32 = n / 32 from nm.1]; exact Int.le_of_lt nm.2.2.2
  · exfalso; subst hE; apply leq_f b1; show (0 : Int) ≤ intBinR .quo .i64 n 32; rw [show intBinR .quo .i64 n 32 = n / 32 from nm.1]; exact nm.2.2.1

end Go.Proofs.YtaiillbjhdoikaaGreat.Ev

/- Contracts of the reference: whole numbers. Printed by gen.py. -/
namespace Go.Proofs.YtaiillbjhdoikaaGreat.Ev
open Go Go.Proofs
set_option linter.unusedVariables false
set_option linter.unusedSimpArgs false

attribute [local irreducible] Lb
theorem lim_len_pos (n : Nat) : 0 < (lim n).length ↔ n ≠ 0 := by
  constructor
  · intro h e; rw [e] at h; exact absurd h (by decide)
  · intro h
    rcases Nat.eq_zero_or_pos (lim n).length with k | k
    · exact absurd (lim_eq_nil.1 (List.length_eq_zero_iff.1 k)) h
    · exact k
theorem c_r2Make (neg : Bool) (m : List Int) (hm_ : Lb m) (hl : m.length ≤ 268435456) : ∃ t : Bool × List Int, t = (neg && decide (lv m ≠ 0), lim (lv m)) ∧ CallsA Tryz.prog 32 [.bool (.s neg), .sli .u32 m] (.agg [.bool (.s t.1), .sli .u32 t.2]) := by
  refine ⟨_, rfl, ?_⟩
  generalize hr : (neg && decide (lv m ≠ 0), lim (lv m)) = r
  have hp := lim_len_pos (lv m)
  refine callsA_of hG hm Tryz.func32 (by kernel_rfl) ?_
  intro E hE lp hl'
  cbv
  repeat' (first
    | (refine E_br hE (fun h => ?_) (fun h => ?_) <;> cbv)
    | (refine E_nm hE (fun v hv => ?_); cbv)
    | (refine E_nilS hE (fun b hb => ?_); cbv)
    | (apply E_callX hE (c_rTrim _ hm_ hl); (case hf => rfl); (case hc => (cbv <;> trivial)); (case hle => exact u_up); all_goals (first | (intro t ht; cbv) | (subst hE; (try simp only [NatCast.natCast, Int.ofNat_eq_natCast, realE, cmp_eql, cmp_neq, cmp_lss, cmp_leq, cmp_gtr, cmp_geq, intBinR, decide_eq_true_eq, decide_eq_false_iff_not, SI.val, SB.val, Num.eta, Iv.eta] at *); subst_vars; (first | assumption | omega))))
    | fail)
  all_goals (subst hE; subst hr)
  · refine ⟨?_, ht, trivial⟩
    rw [‹neg = true›]
    show decide ((0 : Int) < (t.length : Int)) = (true && decide (lv m ≠ 0))
    rw [ht, Bool.true_and]
    exact decide_eq_decide.2 ⟨fun h => hp.1 (by omega), fun h => by have := hp.2 h; omega⟩
  · exact ⟨by rw [‹neg = false›]; rfl, ht, trivial⟩
theorem c_r2Sign (neg : Bool) (m : List Int) (hm_ : Lb m) (hl : m.length ≤ 268435456) : ∃ t : Int, t = (if lv m = 0 then 0 else if neg = true then -1 else 1 : Int) ∧ CallsA Tryz.prog 23 [.agg [.bool (.s neg), .sli .u32 m]] (.int .i64 (.s t)) := by
  refine ⟨_, rfl, ?_⟩
  generalize hr : (if lv m = 0 then 0 else if neg = true then -1 else 1 : Int) = r
  have hp := lim_len_pos (lv m)
  refine callsA_of hG hm Tryz.func23 (by kernel_rfl) ?_
  intro E hE lp hl'
  cbv
  repeat' (first
    | (refine E_br hE (fun h => ?_) (fun h => ?_) <;> cbv)
    | (refine E_nm hE (fun v hv => ?_); cbv)
    | (refine E_nilS hE (fun b hb => ?_); cbv)
    | (apply E_callX hE (c_r2Make _ _ hm_ hl); (case hf => rfl); (case hc => (cbv <;> trivial)); (case hle => exact u_up); all_goals (first | (intro t ht; cbv) | (subst hE; (try simp only [NatCast.natCast, Int.ofNat_eq_natCast, realE, cmp_eql, cmp_neq, cmp_lss, cmp_leq, cmp_gtr, cmp_geq, intBinR, decide_eq_true_eq, decide_eq_false_iff_not, SI.val, SB.val, Num.eta, Iv.eta] at *); subst_vars; (first | assumption | omega))))
    | fail)
  all_goals (subst hE; subst hr)
  · have k : (t.2.length : Int) = 0 := eql_t ‹_›
    rw [ht] at k
    rw [if_pos (by rcases Nat.eq_zero_or_pos (lv m) with z | z; exact z; exact absurd (hp.2 (by omega)) (by show ¬ 0 < (lim (lv m)).length; have k2 : ((lim (lv m)).length : Int) = 0 := k; omega))]
  all_goals (have k : ¬ (t.2.length : Int) = 0 := eql_f ‹_›; rw [ht] at k; have k2 : lv m ≠ 0 := hp.1 (by have k3 : ¬ ((lim (lv m)).length : Int) = 0 := k; omega); rw [if_neg k2])
  · have q : t.1 = true := ‹_›
    rw [ht] at q
    rw [if_pos (by simp [k2] at q; exact q)]
  · have q : t.1 = false := ‹_›
    rw [ht] at q
    have q' : neg = false := by simp [k2] at q; exact q
    rw [if_neg (by rw [q']; decide)]

theorem c_r2Two (na : Bool) (a : List Int) (nb : Bool) (b : List Int) (ha : Lb a) (hb : Lb b) (hla : a.length < 67108864) (hlb : b.length < 67108864) :
    ∃ t : Bool × List Int, t = ((na != nb) && decide (lv a * lv b ≠ 0), lim (lv a * lv b)) ∧ CallsA Tryz.prog 47 [.agg [.bool (.s na), .sli .u32 a], .agg [.bool (.s nb), .sli .u32 b]] (.agg [.bool (.s t.1), .sli .u32 t.2]) := by
  refine ⟨_, rfl, ?_⟩
  generalize hr : ((na != nb) && decide (lv a * lv b ≠ 0), lim (lv a * lv b)) = r
  have lx : ∀ x, x = lim (lv a * lv b) → Lb x ∧ x.length ≤ 268435456 := by
    intro x h
    subst h
    refine ⟨lim_lb _, ?_⟩
    have l1 := lv_lt ha
    have l2 := lv_lt hb
    have : (lim (lv a * lv b)).length ≤ a.length + b.length := lim_length_le (by rw [Nat.pow_add]; exact Nat.mul_lt_mul'' l1 l2)
    omega
  refine callsA_of hG hm Tryz.func47 (by kernel_rfl) ?_
  intro E hE lp hl'
  cbv
  repeat' (first
    | (apply E_br_t hE; assumption; cbv)
    | (apply E_br_f hE; assumption; cbv)
    | (refine E_br hE (fun h => ?_) (fun h => ?_) <;> cbv)
    | (refine E_nm hE (fun v hv => ?_); cbv)
    | (apply E_pcallX hE (c_rMul _ _ ha hb hla hlb); (case hm => rfl); (case hle => exact u_up); all_goals (first | (intro x hx; cbv) | (assumption)))
    | (apply E_pcallX hE (c_r2Make _ _ ?_ ?_); (case hm => rfl); (case hle => exact u_up); all_goals (first | (intro t ht; cbv) | (first | exact (lx _ (by assumption)).1 | exact (lx _ (by assumption)).2)))
    | fail)
  have vx : lv x = lv a * lv b := by rw [hx, lv_lim]
  rw [← hr, ht, vx]
  subst hE
  exact ⟨rfl, rfl, trivial⟩

end Go.Proofs.YtaiillbjhdoikaaGreat.Ev

/- How often a number is even, and its odd part: plain Lean. -/
namespace Go.Proofs.YtaiillbjhdoikaaGreat.Ev
open Go

def v2 (n : Nat) : Nat := if h : 0 < n ∧ n % 2 = 0 then v2 (n / 2) + 1 else 0
termination_by n
decreasing_by omega
theorem v2_even {n : Nat} (h : 0 < n) (h2 : n % 2 = 0) : v2 n = v2 (n / 2) + 1 := by rw [v2, dif_pos ⟨h, h2⟩]
theorem v2_odd {n : Nat} (h2 : n % 2 ≠ 0) : v2 n = 0 := by rw [v2, dif_neg (fun k => h2 k.2)]
theorem v2_spec : ∀ (n : Nat), 0 < n → n / 2 ^ v2 n * 2 ^ v2 n = n ∧ n / 2 ^ v2 n % 2 = 1 ∧ 2 ^ v2 n ≤ n := by
  intro n
  induction n using Nat.strongRecOn with
  | ind n ih =>
    intro h
    rcases Nat.mod_two_eq_zero_or_one n with k | k
    · rw [v2_even h k]
      obtain ⟨i1, i2, i3⟩ := ih (n / 2) (by omega) (by omega)
      rw [Nat.pow_succ, Nat.mul_comm (2 ^ _) 2, ← Nat.div_div_eq_div_mul]
      refine ⟨?_, i2, by omega⟩
      rw [Nat.mul_left_comm, i1]; omega
    · rw [v2_odd (by omega)]
      simp; omega
theorem v2_lt {n k : Nat} (h0 : 0 < n) (h : n < 2 ^ k) : v2 n < k := by
  have := (v2_spec n h0).2.2
  rcases Nat.lt_or_ge (v2 n) k with j | j
  · exact j
  · have : (2 : Nat) ^ k ≤ 2 ^ v2 n := Nat.pow_le_pow_right (by decide) j
    omega
/-- a number times a power of two, told by its odd part -/
def dyMake (neg : Bool) (k : Nat) (e : Int) : Bool × Nat × Int :=
  if k = 0 ∨ e < -4194304 ∨ 4194304 < e then (false, 0, 0) else if 4194304 < e + v2 k then (false, 0, 0) else (neg, k / 2 ^ v2 k, e + v2 k)
theorem half_pow {k j : Nat} : k / 2 ^ j / 2 = k / 2 ^ (j + 1) := by rw [Nat.div_div_eq_div_mul, Nat.pow_succ]
/-- the rounds of taking twos off -/
theorem v2_round {k j : Nat} (hk : 0 < k) (h : v2 k = j + v2 (k / 2 ^ j)) (hp : 0 < k / 2 ^ j) :
    (k / 2 ^ j % 2 = 0 → v2 k = j + 1 + v2 (k / 2 ^ (j + 1)) ∧ 0 < k / 2 ^ (j + 1)) ∧ (k / 2 ^ j % 2 ≠ 0 → v2 k = j) := by
  constructor
  · intro e
    rw [v2_even hp e, half_pow] at h
    exact ⟨by omega, by rw [← half_pow]; omega⟩
  · intro e
    rw [v2_odd e] at h; omega
end Go.Proofs.YtaiillbjhdoikaaGreat.Ev

/- Contracts of the reference: numbers times powers of two. Printed by gen.py. -/
namespace Go.Proofs.YtaiillbjhdoikaaGreat.Ev
open Go Go.Proofs
set_option linter.unusedVariables false
set_option linter.unusedSimpArgs false

attribute [local irreducible] Lb
theorem lv_mod2 {m : List Int} (h : Lb m) (hl : 0 < m.length) : lv m % 2 = 0 ↔ m.getD 0 0 % 2 = 0 := by
  cases m with
  | nil => exact absurd hl (by simp)
  | cons x r =>
    have := h.head
    show (x.toNat + 4294967296 * lv r) % 2 = 0 ↔ x % 2 = 0
    omega
theorem rem2_u32 {n : Int} (h : 0 ≤ n) : intBinR .rem .u32 n 2 = n % 2 := by
  show n.tmod 2 = _
  exact Int.tmod_eq_emod_of_nonneg h
theorem c_r3even (m : List Int) (h : Lb m) : ∃ t : Bool, t = decide (0 < m.length ∧ lv m % 2 = 0) ∧ CallsA Tryz.prog 102 [.sli .u32 m] (.bool (.s t)) := by
  refine ⟨_, rfl, ?_⟩
  generalize hr : decide (0 < m.length ∧ lv m % 2 = 0) = r
  have e := lv_mod2 h
  have g := h.getD 0
  have rm := rem2_u32 g.1
  refine callsA_of hG hm Tryz.func102 (by kernel_rfl) ?_
  intro E hE lp hl'
  cbv
  repeat' (first
    | (refine E_br hE (fun h => ?_) (fun h => ?_) <;> cbv)
    | (refine E_nm hE (fun v hv => ?_); cbv)
    | (refine E_nilS hE (fun b hb => ?_); cbv)
    | fail)
  all_goals (subst hE)
  · have k : 0 < m.length := by have q : (0 : Int) < (m.length : Int) := gtr_t ‹_›; omega
    rw [← hr]
    show (realE Tryz.prog).cmp .eql ((realE Tryz.prog).bin .rem .u32 ((realE Tryz.prog).get m 0) 2) 0 = _
    rw [show (realE Tryz.prog).bin .rem .u32 ((realE Tryz.prog).get m 0) 2 = m.getD 0 0 % 2 from rm]
    simp only [realE, cmp_eql]
    exact decide_eq_decide.2 ⟨fun q => ⟨k, (e k).2 q⟩, fun q => (e k).1 q.2⟩
  · have q1 : (0 : Int) < (m.length : Int) := gtr_t ‹_›
    have q2 : ¬ (0 : Int) < (m.length : Int) := lss_f ‹_›
    exact q2 q1
  · have q2 : ¬ (0 : Int) < (m.length : Int) := gtr_f ‹_›
    rw [← hr, decide_eq_false (fun q => q2 (by omega))]
theorem c_r3Make (neg : Bool) (m : List Int) (e : Int) (h : Lb m) (hl : m.length ≤ 125000) (he : -9223372036854775808 ≤ e ∧ e < 9223372036854775808) : ∃ t : Bool × Nat × Int, t = dyMake neg (lv m) e ∧
    CallsA Tryz.prog 95 [.agg [.bool (.s neg), .sli .u32 m], .int .i64 (.s e)] (.agg [.bool (.s t.1), .sli .u32 (lim t.2.1), .int .i64 (.s t.2.2)]) := by
  refine ⟨_, rfl, ?_⟩
  generalize hr : dyMake neg (lv m) e = r
  obtain ⟨k, ek⟩ : ∃ k, lv m = k := ⟨_, rfl⟩
  obtain ⟨B, hB, hk⟩ : ∃ B : Nat, B ≤ 4000000 ∧ k < 2 ^ B := by
    have l := lv_lt h
    rw [ek, show (4294967296 : Nat) = 2 ^ 32 from rfl, ← Nat.pow_mul] at l
    exact ⟨32 * m.length, by omega, l⟩
  have hx : ∀ t : Bool × List Int, t = (neg && decide (lv m ≠ 0), lim (lv m)) → t.2 = lim k ∧ (t.2.length = 0 ↔ k = 0) ∧ (k ≠ 0 → t.1 = neg) := by
    intro t ht
    subst ht
    rw [ek]
    have := lim_len_pos k
    refine ⟨rfl, ⟨fun z => lim_eq_nil.1 (List.length_eq_zero_iff.1 z), fun z => by rw [z]; rfl⟩, fun z => by simp [z]⟩
  have bad : (k = 0 ∨ e < -4194304 ∨ 4194304 < e) → r = (false, 0, 0) := by
    intro z; rw [← hr, ek]; unfold dyMake; rw [if_pos z]
  have big : ¬ (k = 0 ∨ e < -4194304 ∨ 4194304 < e) → 4194304 < e + v2 k → r = (false, 0, 0) := by
    intro z y; rw [← hr, ek]; unfold dyMake; rw [if_neg z, if_pos y]
  have fine : ¬ (k = 0 ∨ e < -4194304 ∨ 4194304 < e) → ¬ 4194304 < e + v2 k → r = (neg, k / 2 ^ v2 k, e + v2 k) := by
    intro z y; rw [← hr, ek]; unfold dyMake; rw [if_neg z, if_neg y]
  obtain ⟨ms, em⟩ : ∃ ms : Int × Int × List Int → Nat, ∀ p, ms p = ((4000000 : Int) - p.1).toNat := ⟨_, fun _ => rfl⟩
  obtain ⟨ok, eok⟩ : ∃ ok : Int × Int × List Int → Prop, ∀ p, ok p ↔ (0 ≤ p.1 ∧ p.2.1 = e + p.1 ∧ p.2.2 = lim (k / 2 ^ p.1.toNat) ∧ v2 k = p.1.toNat + v2 (k / 2 ^ p.1.toNat) ∧ 0 < k / 2 ^ p.1.toNat ∧ p.2.2.length < 67108864) := ⟨_, fun _ => Iff.rfl⟩
  have vlt : k ≠ 0 → v2 k < 4000000 := fun z => Nat.lt_of_lt_of_le (v2_lt (by omega) hk) hB
  have limlen : ∀ j, (lim (k / 2 ^ j)).length < 67108864 := by
    intro j
    have l := lv_lt h
    rw [ek] at l
    have d : k / 2 ^ j ≤ k := Nat.div_le_self _ _
    have := lim_length_le (n := k / 2 ^ j) (k := m.length) (by omega)
    omega
  have start : k ≠ 0 → ∀ x, x = lim k → ok (0, e, x) := by
    intro z x hx
    refine (eok _).2 ⟨Int.le_refl _, by show e = e + 0; omega, ?_, ?_, ?_, by rw [hx]; have := limlen 0; simpa using this⟩
    · show x = lim (k / 2 ^ (0 : Int).toNat); rw [hx]; simp
    · show v2 k = (0 : Int).toNat + v2 (k / 2 ^ (0 : Int).toNat); simp
    · show 0 < k / 2 ^ (0 : Int).toNat; simp; omega
  have nextE : ∀ i e' L, k ≠ 0 → ok (i, e', L) → (0 < L.length ∧ lv L % 2 = 0) → ∀ L', L' = (if (1 : Int) < 1 then lim (lv L) else lim (lv L / 2 ^ (1 : Int).toNat)) → ms (i + 1, e' + 1, L') < ms (i, e', L) ∧ ok (i + 1, e' + 1, L') := by
    intro i e' L z hok hev L' hL
    obtain ⟨k1, k2, k3, k4, k5, k6⟩ := (eok _).1 hok
    dsimp only at k1 k2 k3 k4 k5 k6
    rw [k3, lv_lim] at hev
    have rd := (v2_round (k := k) (j := i.toNat) (by omega) k4 k5).1 hev.2
    have vl := vlt z
    rw [if_neg (by decide), k3, lv_lim, show (2 : Nat) ^ (1 : Int).toNat = 2 from rfl, half_pow] at hL
    have e3 : (i + 1).toNat = i.toNat + 1 := by omega
    refine ⟨by rw [em, em]; show ((4000000 : Int) - (i + 1)).toNat < ((4000000 : Int) - i).toNat; omega, (eok _).2 ⟨by show 0 ≤ i + 1; omega, by show e' + 1 = e + (i + 1); omega, ?_, ?_, ?_, ?_⟩⟩
    · show L' = lim (k / 2 ^ (i + 1).toNat); rw [e3, hL]
    · show v2 k = (i + 1).toNat + v2 (k / 2 ^ (i + 1).toNat); rw [e3]; exact rd.1
    · show 0 < k / 2 ^ (i + 1).toNat; rw [e3]; exact rd.2
    · show L'.length < _; rw [hL]; exact limlen _
  have inv : ∀ i e' L, k ≠ 0 → ok (i, e', L) → 0 ≤ i ∧ i < 4000000 ∧ e' = e + i ∧ Lb L ∧ L.length < 67108864 := by
    intro i e' L z hok
    obtain ⟨k1, k2, k3, k4, k5, k6⟩ := (eok _).1 hok
    dsimp only at k1 k2 k3 k4 k5 k6
    have vl := vlt z
    exact ⟨k1, by omega, k2, by rw [k3]; exact lim_lb _, k6⟩
  have odd : ∀ i e' L, k ≠ 0 → ok (i, e', L) → ¬ (0 < L.length ∧ lv L % 2 = 0) → (v2 k : Int) = i ∧ L = lim (k / 2 ^ v2 k) := by
    intro i e' L z hok hev
    obtain ⟨k1, k2, k3, k4, k5, k6⟩ := (eok _).1 hok
    dsimp only at k1 k2 k3 k4 k5 k6
    have od : k / 2 ^ i.toNat % 2 ≠ 0 := by
      intro q; apply hev
      rw [k3, lv_lim]
      exact ⟨(lim_len_pos _).2 (by omega), q⟩
    have rd := (v2_round (k := k) (j := i.toNat) (by omega) k4 k5).2 od
    exact ⟨by omega, by rw [k3, rd]⟩
  have wr : ∀ i e' : Int, 0 ≤ i → i < 4000000 → e' = e + i → ¬ (k = 0 ∨ e < -4194304 ∨ 4194304 < e) → IntKind.i64.wrap (i + 1) = i + 1 ∧ IntKind.i64.wrap (e' + 1) = e' + 1 := by
    intro i e' a1 a2 a3 a4
    rw [wi64, wi64]; omega
  refine callsA_of hG hm Tryz.func95 (by kernel_rfl) ?_
  intro E hE lp hl'
  cbv
  (first | (apply E_callX hE (c_r2Make _ _ h (by omega)); (case hf => rfl); (case hc => (cbv <;> trivial)); (case hle => exact ⟨u2_bool, u2_sli, trivial⟩); intro x hx'; cbv))
  have X := hx x hx'
  refine E_br hE (fun g1 => ?_) (fun g1 => ?_) <;> cbv
  · rw [bad (.inl (X.2.1.1 (by subst hE; have q : (x.2.length : Int) = 0 := eql_t g1; omega)))]; exact ⟨rfl, rfl, rfl, trivial⟩
  refine E_br hE (fun g2 => ?_) (fun g2 => ?_) <;> cbv
  · rw [bad (.inr (.inl (by subst hE; exact lss_t g2)))]; exact ⟨rfl, rfl, rfl, trivial⟩
  refine E_br hE (fun g3 => ?_) (fun g3 => ?_) <;> cbv
  · rw [bad (.inr (.inr (by subst hE; exact gtr_t g3)))]; exact ⟨rfl, rfl, rfl, trivial⟩
  have ok0 : ¬ (k = 0 ∨ e < -4194304 ∨ 4194304 < e) := by
    subst hE
    have q1 : ¬ (x.2.length : Int) = 0 := eql_f g1
    have q2 := lss_f g2
    have q3 := gtr_f g3
    have q4 := X.2.1
    omega
  have kz : k ≠ 0 := fun z => by subst hE; have q : ¬ (x.2.length : Int) = 0 := eql_f g1; exact q (by have := X.2.1.2 z; omega)
  refine E_loop hE hG hm hl' (fun p : Int × Int × List Int => (⟨[(1, .int .i64 (.s p.2.1)), (4, .ptr 1 3 (.l 0) 0), (5, .ptr 2 2 (.l 0) 0), (6, .int .i64 (.s p.1))],
    [.rows true 2 [.bool (.l false), .s0] [[.bool (.s neg), .sli .u32 m]], .rows true 3 [.bool (.l false), .s0, .int .i64 (.l 0)] [[.bool (.l false), .s0, .int .i64 (.l 0)]], .rows true 2 [.bool (.l false), .s0] [[.bool (.s x.1), .sli .u32 p.2.2]]]⟩ : St)) ms ok ⟨(0, e, x.2), start kz x.2 X.1, stLe rfl ?_⟩ ?_
  · (repeat' (first | exact t_nil | apply t_cons | exact u2_sli | exact u2_int | exact u2_bool | exact u2_ms | exact u2_ptr | exact (rfl : sle2 .s0 .s0)))
  rintro ⟨i, e', L⟩ hok
  have iv := inv i e' L kz hok
  have nx := nextE i e' L kz hok
  have od := odd i e' L kz hok
  clear nextE inv odd start eok hok
  cbv
  refine E_br hE (fun gi => ?_) (fun gi => ?_) <;> cbv
  · (apply E_callX hE (c_r3even L iv.2.2.2.1); (case hf => rfl); (case hc => (cbv <;> trivial)); (case hle => exact ⟨u2_sli, trivial⟩); intro o ho; cbv)
    refine E_br hE (fun go => ?_) (fun go => ?_) <;> cbv
    · have q : o = false := by subst hE; have z : (!o) = true := go; simpa using z
      have od' := od (of_decide_eq_false (ho.symm.trans q))
      refine E_br hE (fun gb => ?_) (fun gb => ?_) <;> cbv
      · rw [big ok0 (by rw [od'.1, ← iv.2.2.1]; subst hE; exact gtr_t gb)]; exact ⟨rfl, rfl, rfl, trivial⟩
      · rw [fine ok0 (by rw [od'.1, ← iv.2.2.1]; subst hE; exact gtr_f gb)]
        exact ⟨X.2.2 kz, od'.2, by rw [od'.1]; exact iv.2.2.1, trivial⟩
    · have q : o = true := by subst hE; have z : (!o) = false := go; simpa using z
      (apply E_pcallX hE (c_rShr L 1 iv.2.2.2.1 iv.2.2.2.2 (by decide)); (case hm => rfl); (case hle => exact ⟨u2_sli, u2_int, trivial⟩); intro L' hL'; cbv)
      refine E_nm hE (fun e2 he2 => ?_)
      cbv
      refine E_nm hE (fun i2 hi2 => ?_)
      cbv
      refine ⟨(i2, e2, L'), ?_, ?_, stLe rfl ?_⟩
      rotate_right
      · (repeat' (first | exact t_nil | apply t_cons | exact u2_sli | exact u2_int | exact u2_bool | exact u2_ms | exact u2_ptr | exact (rfl : sle2 .s0 .s0)))
      all_goals (have g := nx (of_decide_eq_true (ho.symm.trans q)) L' hL'; have wv := wr i e' iv.1 iv.2.1 iv.2.2.1 ok0; have z1 : e2 = e' + 1 := (by subst hE; exact Eq.trans (b := IntKind.i64.wrap (e' + 1)) he2 wv.2); have z2 : i2 = i + 1 := (by subst hE; exact Eq.trans (b := IntKind.i64.wrap (i + 1)) hi2 wv.1); subst z1; subst z2; first | exact g.1 | exact g.2)
  · exfalso; subst hE; exact lss_f gi iv.2.1

end Go.Proofs.YtaiillbjhdoikaaGreat.Ev

/- The product of two numbers: plain Lean. -/
namespace Go.Proofs.YtaiillbjhdoikaaGreat.Ev
open Go

/-- of a word -/
def Num.ok (n : Num) : Prop := 0 ≤ n.m ∧ n.m < 18446744073709551616

theorem Num.zero_ok : Num.zero.ok := by unfold Num.ok Num.zero; decide
theorem Num.inf_ok (b : Bool) : (Num.inf b).ok := ⟨by simp [Num.inf], by simp [Num.inf]⟩
theorem Num.fair_ok {n : Num} (h : n.ok) : n.fair.ok := by
  unfold Num.fair; split
  · exact h
  · exact Num.zero_ok

/-- what may be: nought, finite, infinite -/
theorem Num.may_cases {n : Num} (h : n.may = true) : n = Num.zero ∨ (n.kind = 1 ∧ 9223372036854775808 ≤ n.m ∧ -1048576 ≤ n.e ∧ n.e ≤ 1048576) ∨ (n = Num.inf n.neg) := by
  unfold Num.may at h
  split at h
  · exact .inl (by simpa using h)
  · split at h
    · rename_i h1
      simp only [Bool.and_eq_true, decide_eq_true_eq] at h
      exact .inr (.inl ⟨h1, h.1.1, h.1.2, h.2⟩)
    · split at h
      · rename_i h1
        simp only [Bool.and_eq_true, decide_eq_true_eq] at h
        exact .inr (.inr (by rw [Num.eq_iff]; simp [Num.inf, h1, h.1, h.2]))
      · cases h

theorem Num.fair_may (n : Num) : n.fair.may = true := by
  unfold Num.fair; split
  · assumption
  · decide
theorem Num.fair_of_may {n : Num} (h : n.may = true) : n.fair = n := by unfold Num.fair; rw [if_pos h]
theorem Num.fair_fair (n : Num) : n.fair.fair = n.fair := Num.fair_of_may n.fair_may

/-- the product, of finite ones -/
def Num.mulF (a b : Num) (up : Bool) : Num :=
  if a.m * b.m < 170141183460469231731687303715884105728 then Num.grow (a.neg != b.neg) (a.m * b.m / 9223372036854775808) (a.e + b.e + 63) (decide (a.m * b.m % 9223372036854775808 ≠ 0)) (up != (a.neg != b.neg))
  else Num.grow (a.neg != b.neg) (a.m * b.m / 18446744073709551616) (a.e + b.e + 64) (decide (a.m * b.m % 18446744073709551616 ≠ 0)) (up != (a.neg != b.neg))

def Num.mul (a b : Num) (up : Bool) : Num :=
  if a.fair.kind = 0 ∨ b.fair.kind = 0 then Num.zero else if a.fair.kind = 2 ∨ b.fair.kind = 2 then Num.inf (a.fair.neg != b.fair.neg) else Num.mulF a.fair b.fair up

theorem Num.fin {t r : Num} (h : t = r) : t.kind = r.kind ∧ t.neg = r.neg ∧ t.m = r.m ∧ t.e = r.e ∧ True := by
  subst h; exact ⟨rfl, rfl, rfl, rfl, trivial⟩

end Go.Proofs.YtaiillbjhdoikaaGreat.Ev

/- Contracts of the reference: numbers. Printed by gen.py out of R12.spec. -/
namespace Go.Proofs.YtaiillbjhdoikaaGreat.Ev
open Go Go.Proofs
set_option linter.unusedVariables false
set_option linter.unusedSimpArgs false
theorem c_rMay (n : Num)  : ∃ t : Bool, t = n.may ∧ CallsA Tryz.prog 91 [n.av] (.bool (.s t)) := by
  refine ⟨_, rfl, ?_⟩
  generalize hr : n.may = r
  refine callsA_of hG hm Tryz.func91 (by kernel_rfl) ?_
  intro E hE lp hl
  cbv
  repeat' (first
    | (refine E_br hE (fun h => ?_) (fun h => ?_) <;> cbv)
    | (refine E_nm hE (fun v hv => ?_); cbv)
    | fail)
  all_goals (subst hE; subst hr)
  all_goals (try simp only [realE, cmp_eql, cmp_neq, cmp_lss, cmp_leq, cmp_gtr, cmp_geq, intBinR, decide_eq_true_eq, decide_eq_false_iff_not, SI.val, SB.val, Num.eta, Iv.eta] at *)
  all_goals (simp only [Num.may, Num.zero, Num.top, Num.eq_iff])
  all_goals (try simp_all)
  all_goals (try (intros; omega))
  all_goals (try (simp only [decide_eq_true_eq]; intros; omega))

theorem c_rFair (n : Num)  : ∃ t : Num, t = n.fair ∧ CallsA Tryz.prog 105 [n.av] (t.av) := by
  refine ⟨_, rfl, ?_⟩
  generalize hr : n.fair = r
  refine callsA_of hG hm Tryz.func105 (by kernel_rfl) ?_
  intro E hE lp hl
  cbv
  repeat' (first
    | (refine E_br hE (fun h => ?_) (fun h => ?_) <;> cbv)
    | (refine E_nm hE (fun v hv => ?_); cbv)
    | (apply E_callX hE (c_rMay ⟨_, _, _, _⟩); (case hf => rfl); (case hc => (cbv <;> trivial)); (case hle => exact u_up); intro t ht; cbv)
    | fail)
  all_goals (subst hE; subst hr)
  all_goals (try simp only [realE, cmp_eql, cmp_neq, cmp_lss, cmp_leq, cmp_gtr, cmp_geq, intBinR, decide_eq_true_eq, decide_eq_false_iff_not, SI.val, SB.val, Num.eta, Iv.eta] at *)
  all_goals (try simp_all [Num.fair, Num.zero])
  all_goals (try omega)
  all_goals (try simp only [Bool.and_assoc])
  all_goals (try rfl)
  all_goals ((repeat' split) <;> (try simp_all) <;> (try omega))

theorem c_rInf (b : Bool)  : ∃ t : Num, t = Num.inf b ∧ CallsA Tryz.prog 92 [.bool (.s b)] (t.av) := by
  refine ⟨_, rfl, ?_⟩
  generalize hr : Num.inf b = r
  refine callsA_of hG hm Tryz.func92 (by kernel_rfl) ?_
  intro E hE lp hl
  cbv
  repeat' (first
    | (refine E_br hE (fun h => ?_) (fun h => ?_) <;> cbv)
    | (refine E_nm hE (fun v hv => ?_); cbv)
    | fail)
  all_goals (subst hE; subst hr)
  all_goals (try simp only [realE, cmp_eql, cmp_neq, cmp_lss, cmp_leq, cmp_gtr, cmp_geq, intBinR, decide_eq_true_eq, decide_eq_false_iff_not, SI.val, SB.val, Num.eta, Iv.eta] at *)
  all_goals (try simp_all [Num.inf])
  all_goals (try omega)
  all_goals (try simp only [Bool.and_assoc])
  all_goals (try rfl)
  all_goals ((repeat' split) <;> (try simp_all) <;> (try omega))

theorem c_rFin (neg : Bool) (m : Int) (e : Int) (away : Bool)  : ∃ t : Num, t = Num.bound neg m e away ∧ CallsA Tryz.prog 99 [.bool (.s neg), .int .u64 (.s m), .int .i64 (.s e), .bool (.s away)] (t.av) := by
  refine ⟨_, rfl, ?_⟩
  generalize hr : Num.bound neg m e away = r
  refine callsA_of hG hm Tryz.func99 (by kernel_rfl) ?_
  intro E hE lp hl
  cbv
  repeat' (first
    | (refine E_br hE (fun h => ?_) (fun h => ?_) <;> cbv)
    | (refine E_nm hE (fun v hv => ?_); cbv)
    | (apply E_callX hE (c_rInf _); (case hf => rfl); (case hc => (cbv <;> trivial)); (case hle => exact u_up); intro t ht; cbv)
    | fail)
  all_goals (subst hE; subst hr)
  all_goals (try simp only [realE, cmp_eql, cmp_neq, cmp_lss, cmp_leq, cmp_gtr, cmp_geq, intBinR, decide_eq_true_eq, decide_eq_false_iff_not, SI.val, SB.val, Num.eta, Iv.eta] at *)
  all_goals (try simp_all [Num.bound, Num.zero, Num.inf, Num.huge, Num.tiny, Num.top])
  all_goals (try omega)
  all_goals (try simp only [Bool.and_assoc])
  all_goals (try rfl)
  all_goals ((repeat' split) <;> (try simp_all) <;> (try omega))

theorem c_rSign (n : Num)  : ∃ t : Int, t = n.sign ∧ CallsA Tryz.prog 106 [n.av] (.int .i64 (.s t)) := by
  refine ⟨_, rfl, ?_⟩
  generalize hr : n.sign = r
  refine callsA_of hG hm Tryz.func106 (by kernel_rfl) ?_
  intro E hE lp hl
  cbv
  repeat' (first
    | (refine E_br hE (fun h => ?_) (fun h => ?_) <;> cbv)
    | (refine E_nm hE (fun v hv => ?_); cbv)
    | (apply E_callX hE (c_rFair ⟨_, _, _, _⟩); (case hf => rfl); (case hc => (cbv <;> trivial)); (case hle => exact u_up); intro t ht; cbv)
    | fail)
  all_goals (subst hE; subst hr)
  all_goals (try simp only [realE, cmp_eql, cmp_neq, cmp_lss, cmp_leq, cmp_gtr, cmp_geq, intBinR, decide_eq_true_eq, decide_eq_false_iff_not, SI.val, SB.val, Num.eta, Iv.eta] at *)
  all_goals (try simp_all [Num.sign])
  all_goals (try omega)
  all_goals (try simp only [Bool.and_assoc])
  all_goals (try rfl)
  all_goals ((repeat' split) <;> (try simp_all) <;> (try omega))

theorem c_r6Fair (n : Num)  : ∃ t : Num, t = n.fair ∧ CallsA Tryz.prog 75 [n.av] (t.av) := by
  refine ⟨_, rfl, ?_⟩
  generalize hr : n.fair = r
  refine callsA_of hG hm Tryz.func75 (by kernel_rfl) ?_
  intro E hE lp hl
  cbv
  repeat' (first
    | (refine E_br hE (fun h => ?_) (fun h => ?_) <;> cbv)
    | (refine E_nm hE (fun v hv => ?_); cbv)
    | (apply E_callX hE (c_rMay ⟨_, _, _, _⟩); (case hf => rfl); (case hc => (cbv <;> trivial)); (case hle => exact u_up); intro t ht; cbv)
    | fail)
  all_goals (subst hE; subst hr)
  all_goals (try simp only [realE, cmp_eql, cmp_neq, cmp_lss, cmp_leq, cmp_gtr, cmp_geq, intBinR, decide_eq_true_eq, decide_eq_false_iff_not, SI.val, SB.val, Num.eta, Iv.eta] at *)
  all_goals (try simp_all [Num.fair, Num.zero])
  all_goals (try omega)
  all_goals (try simp only [Bool.and_assoc])
  all_goals (try rfl)
  all_goals ((repeat' split) <;> (try simp_all) <;> (try omega))

end Go.Proofs.YtaiillbjhdoikaaGreat.Ev

/- Contracts of the reference: limbs, a word, exact numbers. Printed by gen.py. -/
namespace Go.Proofs.YtaiillbjhdoikaaGreat.Ev
open Go Go.Proofs
set_option linter.unusedVariables false
set_option linter.unusedSimpArgs false

attribute [local irreducible] Lb
theorem word_step {x : Nat} {y : Int} (hx : x < 4294967296) (hy : 0 ≤ y ∧ y < 4294967296) : IntKind.u64.wrap (IntKind.u64.wrap ((x : Int) * 4294967296) + IntKind.u64.wrap y) = ((y.toNat + 4294967296 * x : Nat) : Int) := by
  rw [wu64, wu64, wu64]; omega
theorem c_rWord (m : List Int) (h : Lb m) (hl : m.length ≤ 2) : ∃ t : Int, t = (lv m : Int) ∧ CallsA Tryz.prog 100 [.sli .u32 m] (.int .u64 (.s t)) := by
  refine ⟨_, rfl, ?_⟩
  generalize hr : (lv m : Int) = r
  obtain ⟨ms, em⟩ : ∃ ms : Int × Int → Nat, ∀ p, ms p = (p.1 + 1).toNat := ⟨_, fun _ => rfl⟩
  obtain ⟨ok, eok⟩ : ∃ ok : Int × Int → Prop, ∀ p, ok p ↔ (-1 ≤ p.1 ∧ p.1 < m.length ∧ p.2 = (lv (m.drop (p.1 + 1).toNat) : Int)) := ⟨_, fun _ => Iff.rfl⟩
  have start : ∀ i, i = IntKind.i64.wrap ((m.length : Int) - 1) → ok (i, 0) := by
    intro i hi
    have e : i = m.length - 1 := by rw [hi, wi64]; omega
    refine (eok _).2 ⟨by show -1 ≤ i; omega, by show i < _; omega, ?_⟩
    show 0 = (lv (m.drop (i + 1).toNat) : Int)
    rw [show (i + 1).toNat = m.length by omega, List.drop_length]; rfl
  have next : ∀ i n, ok (i, n) → 0 ≤ i → ∀ n', n' = IntKind.u64.wrap (IntKind.u64.wrap (n * 4294967296) + IntKind.u64.wrap (m.getD i.toNat 0)) → ms (IntKind.i64.wrap (i - 1), n') < ms (i, n) ∧ ok (IntKind.i64.wrap (i - 1), n') := by
    intro i n hok hi n' hn'
    obtain ⟨k1, k2, k3⟩ := (eok _).1 hok
    dsimp only at k1 k2 k3
    have g := h.getD i.toNat
    have small : lv (m.drop (i + 1).toNat) < 4294967296 := by
      have l := lv_lt (h.drop (i + 1).toNat)
      have : (m.drop (i + 1).toNat).length ≤ 1 := by rw [List.length_drop]; omega
      have p : (4294967296 : Nat) ^ (m.drop (i + 1).toNat).length ≤ 4294967296 ^ 1 := Nat.pow_le_pow_right (by decide) this
      omega
    rw [k3, word_step small g] at hn'
    have e : IntKind.i64.wrap (i - 1) = i - 1 := by rw [wi64]; omega
    rw [e]
    refine ⟨by rw [em, em]; show (i - 1 + 1).toNat < (i + 1).toNat; omega, (eok _).2 ⟨by show -1 ≤ i - 1; omega, by show i - 1 < _; omega, ?_⟩⟩
    show n' = (lv (m.drop (i - 1 + 1).toNat) : Int)
    rw [hn', show (i - 1 + 1).toNat = i.toNat by omega, lv_drop_step m i.toNat, show (i + 1).toNat = i.toNat + 1 by omega]
  have stop : ∀ i n, ok (i, n) → ¬ 0 ≤ i → n = r := by
    intro i n hok hi
    obtain ⟨k1, k2, k3⟩ := (eok _).1 hok
    dsimp only at k1 k2 k3
    rw [k3, show (i + 1).toNat = 0 by omega, List.drop_zero, hr]
  have bnd : ∀ i n, ok (i, n) → i < m.length := by
    intro i n hok
    exact ((eok _).1 hok).2.1
  refine callsA_of hG hm Tryz.func100 (by kernel_rfl) ?_
  intro E hE lp hl'
  cbv
  refine E_nm hE (fun i0 hi0 => ?_)
  cbv
  refine E_loop hE hG hm hl' (fun p : Int × Int => (⟨[(0, .sli .u32 m), (3, .int .u64 (.s p.2)), (4, .int .i64 (.s p.1))], []⟩ : St)) ms ok ⟨(i0, 0), (by subst hE; exact start i0 hi0), stLe rfl ?_⟩ ?_
  · (repeat' (first | exact t_nil | apply t_cons | exact u2_sli | exact u2_int | exact u2_bool | exact u2_ms | exact u2_ptr | exact (rfl : sle2 .s0 .s0)))
  rintro ⟨i, n⟩ hok
  have nx := next i n hok
  have sp := stop i n hok
  have bd := bnd i n hok
  clear next stop bnd start hok
  cbv
  refine E_br hE (fun g1 => ?_) (fun g1 => ?_) <;> cbv
  · have i0' : 0 ≤ i := by subst hE; exact geq_t g1
    refine E_br hE (fun g2 => ?_) (fun g2 => ?_) <;> cbv
    · refine E_br hE (fun g3 => ?_) (fun g3 => ?_) <;> cbv
      · refine E_nm hE (fun n2 hn2 => ?_)
        cbv
        refine E_nm hE (fun i2 hi2 => ?_)
        cbv
        refine ⟨(i2, n2), ?_, ?_, stLe rfl ?_⟩
        rotate_right
        · (repeat' (first | exact t_nil | apply t_cons | exact u2_sli | exact u2_int | exact u2_bool | exact u2_ms | exact u2_ptr | exact (rfl : sle2 .s0 .s0)))
        all_goals (subst hE; have g := nx i0' n2 hn2; have z : i2 = IntKind.i64.wrap (i - 1) := hi2; subst z; first | exact g.1 | exact g.2)
      · exfalso; subst hE; exact lss_f g3 bd
    · exfalso; subst hE; exact leq_f g2 i0'
  · refine E_nm hE (fun z hz => ?_)
    cbv
    subst hE
    exact Eq.trans (b := n) hz (sp (geq_f g1))

end Go.Proofs.YtaiillbjhdoikaaGreat.Ev

/- The reference's rounding, as a function of values: plain Lean. -/
namespace Go.Proofs.YtaiillbjhdoikaaGreat.Ev
open Go

/-- an odd number times a power of two, rounded to 64 bits -/
def rnd (ng : Bool) (k : Nat) (e : Int) (up : Bool) : Num :=
  if k = 0 then Num.zero
  else if blen (k : Int) ≤ 64 then Num.bound ng ((k * 2 ^ (64 - blen (k : Int)).toNat : Nat) : Int) (e + blen (k : Int) - 64) (up != ng)
  else Num.grow ng ((k / 2 ^ (blen (k : Int) - 64).toNat : Nat) : Int) (e + blen (k : Int) - 64) true (up != ng)
theorem blen_rng {k : Nat} (h : 0 < k) : ∃ n : Nat, blen (k : Int) = n + 1 ∧ 2 ^ n ≤ k ∧ k < 2 ^ (n + 1) := by
  obtain ⟨n, h1, h2, h3⟩ := blen_pos (x := (k : Int)) (by omega)
  rw [pow2_cast] at h2 h3
  exact ⟨n, h1, by omega, by omega⟩
theorem blen_eq {k n : Nat} (h1 : 2 ^ n ≤ k) (h2 : k < 2 ^ (n + 1)) : blen (k : Int) = n + 1 := (blen_nat_iff n).2 ⟨h1, h2⟩
theorem len_two {k : Nat} (h : k < 18446744073709551616) : (lim k).length ≤ 2 := lim_length_le (by show k < 4294967296 ^ 2; omega)
/-- few bits: moved up to 64 -/
theorem rnd_few {k : Nat} (h0 : 0 < k) (h : blen (k : Int) ≤ 64) : k * 2 ^ (64 - blen (k : Int)).toNat < 18446744073709551616 := by
  obtain ⟨n, h1, h2, h3⟩ := blen_rng h0
  rw [h1] at h ⊢
  have e : (18446744073709551616 : Nat) = 2 ^ (n + 1) * 2 ^ (64 - ((n : Int) + 1)).toNat := by
    rw [← Nat.pow_add, show n + 1 + (64 - ((n : Int) + 1)).toNat = 64 by omega]
  rw [e]
  exact Nat.mul_lt_mul_of_pos_right h3 (Nat.pow_pos (by decide))
/-- many: cut down to 64 -/
theorem rnd_many {k : Nat} (h0 : 0 < k) (h : 64 < blen (k : Int)) : 9223372036854775808 ≤ k / 2 ^ (blen (k : Int) - 64).toNat ∧ k / 2 ^ (blen (k : Int) - 64).toNat < 18446744073709551616 := by
  obtain ⟨n, h1, h2, h3⟩ := blen_rng h0
  rw [h1] at h ⊢
  have p : 0 < 2 ^ ((n : Int) + 1 - 64).toNat := Nat.pow_pos (by decide)
  constructor
  · rw [Nat.le_div_iff_mul_le p]
    have e : (9223372036854775808 : Nat) * 2 ^ ((n : Int) + 1 - 64).toNat = 2 ^ n := by
      rw [show (9223372036854775808 : Nat) = 2 ^ 63 from rfl, ← Nat.pow_add, show 63 + ((n : Int) + 1 - 64).toNat = n by omega]
    omega
  · rw [Nat.div_lt_iff_lt_mul p]
    have e : (18446744073709551616 : Nat) * 2 ^ ((n : Int) + 1 - 64).toNat = 2 ^ (n + 1) := by
      rw [show (18446744073709551616 : Nat) = 2 ^ 64 from rfl, ← Nat.pow_add, show 64 + ((n : Int) + 1 - 64).toNat = n + 1 by omega]
    omega
/-- one more, where it has 65 bits -/
theorem top_more {t : Nat} (h1 : 9223372036854775808 ≤ t) (h2 : t < 18446744073709551616) : (64 < blen ((t + 1 : Nat) : Int) ↔ t = 18446744073709551615) ∧ (t = 18446744073709551615 → (t + 1) / 2 ^ (1 : Int).toNat = 9223372036854775808) := by
  refine ⟨?_, fun h => by subst h; rfl⟩
  constructor
  · intro h
    rcases Nat.lt_or_ge t 18446744073709551615 with k | k
    · have := blen_eq (k := t + 1) (n := 63) (by show 9223372036854775808 ≤ t + 1; omega) (by show t + 1 < 18446744073709551616; omega)
      omega
    · omega
  · intro h
    subst h
    rw [blen_eq (k := 18446744073709551615 + 1) (n := 64) (by decide) (by decide)]
    decide
/-! ### the reference's operations, by value -/
def dyL (p : Bool × Nat × Int) : Bool × List Int × Int := (p.1, lim p.2.1, p.2.2)
theorem dyMake_rng (neg : Bool) (k : Nat) (e : Int) : -4194304 ≤ (dyMake neg k e).2.2 ∧ (dyMake neg k e).2.2 ≤ 4194304 ∧ (dyMake neg k e).2.1 ≤ k := by
  unfold dyMake
  split
  · exact ⟨by show (-4194304 : Int) ≤ 0; decide, by show (0 : Int) ≤ 4194304; decide, Nat.zero_le _⟩
  · rename_i h
    split
    · exact ⟨by show (-4194304 : Int) ≤ 0; decide, by show (0 : Int) ≤ 4194304; decide, Nat.zero_le _⟩
    · exact ⟨by show -4194304 ≤ e + v2 k; omega, by show e + v2 k ≤ 4194304; omega, Nat.div_le_self _ _⟩
/-- an exact number, and whether there is one -/
def Num.exact (n : Num) : (Bool × Nat × Int) × Bool :=
  if n.may = false ∨ n.kind = 2 then ((false, 0, 0), false) else if n.kind = 0 then ((false, 0, 0), true) else (dyMake n.neg n.m.toNat n.e, true)
def dyNorm (p : Bool × Nat × Int) : Bool × Nat × Int := dyMake p.1 p.2.1 p.2.2
def dyRound (p : Bool × Nat × Int) (up : Bool) : Num := rnd (dyNorm p).1 (dyNorm p).2.1 (dyNorm p).2.2 up
end Go.Proofs.YtaiillbjhdoikaaGreat.Ev

/- The least and the greatest of some numbers: plain Lean. -/
namespace Go.Proofs.YtaiillbjhdoikaaGreat.Ev
open Go

theorem wi64_succ {i n : Int} (h0 : 0 ≤ i) (h1 : i < n) (h2 : n < 9223372036854775808) : IntKind.i64.wrap (i + 1) = i + 1 := by
  rw [wi64]; omega

def Num.lesser (o n : Num) : Num := if n.cmp o < 0 then n.fair else o
def Num.least (l : List Num) : Num := l.foldl Num.lesser (Num.inf false)
def Num.greater (o n : Num) : Num := if 0 < n.cmp o then n.fair else o
def Num.most (l : List Num) : Num := l.foldl Num.greater (Num.inf true)
end Go.Proofs.YtaiillbjhdoikaaGreat.Ev

/- Is one of these intervals empty, or none at all? Plain Lean. -/
namespace Go.Proofs.YtaiillbjhdoikaaGreat.Ev
open Go

def Iv.cells (x : Iv) : List AV := [.bool (.s x.empty), .int .i64 (.s x.lo.kind), .bool (.s x.lo.neg), .int .u64 (.s x.lo.m), .int .i64 (.s x.lo.e),
  .int .i64 (.s x.hi.kind), .bool (.s x.hi.neg), .int .u64 (.s x.hi.m), .int .i64 (.s x.hi.e)]
def Iv.bad (x : Iv) : Bool := x.empty || !x.may
def Iv.anyBad (l : List Iv) : Bool := l.any Iv.bad
end Go.Proofs.YtaiillbjhdoikaaGreat.Ev

/- The value of a number, scaled to a whole number; the order; what rounding does: plain Lean. -/
namespace Go.Proofs.YtaiillbjhdoikaaGreat.Ev
open Go

def pw (e : Int) : Int := 2 ^ (e + 8388608).toNat
theorem pw_pos (e : Int) : 0 < pw e := Int.pow_pos (by decide)
theorem pw_add {e f : Int} (h : -8388608 ≤ e) (h2 : 0 ≤ f) : pw (e + f) = pw e * 2 ^ f.toNat := by
  unfold pw; rw [show (e + f + 8388608).toNat = (e + 8388608).toNat + f.toNat by omega, Int.pow_add]
theorem pw_succ {e : Int} (h : -8388608 ≤ e) : pw (e + 1) = pw e * 2 := pw_add h (by decide)
theorem pw_64 {e : Int} (h : -8388608 ≤ e) : pw (e + 64) = pw e * 18446744073709551616 := pw_add h (by decide)
theorem pw_63 {e : Int} (h : -8388608 ≤ e) : pw (e + 63) = pw e * 9223372036854775808 := pw_add h (by decide)
theorem pw_mul {e f : Int} (h : -8388608 ≤ e) (h2 : -8388608 ≤ f) (h3 : -8388608 ≤ e + f) : pw e * pw f = pw 0 * pw (e + f) := by
  unfold pw; rw [← Int.pow_add, ← Int.pow_add, show (e + 8388608).toNat + (f + 8388608).toNat = ((0 : Int) + 8388608).toNat + (e + f + 8388608).toNat by omega]
theorem pw_mono {e f : Int} (h : -8388608 ≤ e) (h2 : e ≤ f) : pw e ≤ pw f := by
  have e1 := pw_add h (show 0 ≤ f - e by omega)
  rw [show e + (f - e) = f by omega] at e1
  rw [e1]
  have p := pw_pos e
  have q : (0 : Int) < 2 ^ (f - e).toNat := Int.pow_pos (by decide)
  have := Int.mul_le_mul_of_nonneg_left (show (1 : Int) ≤ 2 ^ (f - e).toNat by omega) (Int.le_of_lt p)
  omega
theorem pw_lt {e f : Int} (h : -8388608 ≤ e) (h2 : e < f) : pw e * 2 ≤ pw f := by
  rw [← pw_succ h]; exact pw_mono (by omega) (by omega)

def Num.W (n : Num) : Int := if n.kind = 0 then 0 else if n.kind = 1 then n.m * pw n.e else pw 1048640
def Num.val (n : Num) : Int := if n.neg then -n.W else n.W

/-- finite -/
structure Num.Fin (n : Num) : Prop where
  kind : n.kind = 1
  lo : 9223372036854775808 ≤ n.m
  hi : n.m < 18446744073709551616
  elo : -1048576 ≤ n.e
  ehi : n.e ≤ 1048576

theorem Num.may3 {n : Num} (h : n.may = true) (ho : n.ok) : n = Num.zero ∨ n.Fin ∨ n = Num.inf n.neg := by
  rcases Num.may_cases h with h | h | h
  · exact .inl h
  · exact .inr (.inl ⟨h.1, h.2.1, ho.2, h.2.2.1, h.2.2.2⟩)
  · exact .inr (.inr h)

theorem Num.Fin.may {n : Num} (h : n.Fin) : n.may = true := by
  unfold Num.may; rw [if_neg (by rw [h.kind]; decide), if_pos h.kind]
  simp [h.lo, h.elo, h.ehi]
theorem Num.Fin.ok {n : Num} (h : n.Fin) : n.ok := ⟨by have := h.lo; omega, h.hi⟩
theorem Num.Fin.W {n : Num} (h : n.Fin) : n.W = n.m * pw n.e := by
  unfold Num.W; rw [if_neg (by rw [h.kind]; decide), if_pos h.kind]

theorem Num.Fin.lt {n : Num} (h : n.Fin) : 0 < n.W ∧ n.W < pw 1048640 := by
  rw [h.W]
  have p := pw_pos n.e
  have l := h.lo
  have u := h.hi
  have e1 := pw_64 (e := n.e) (by have := h.elo; omega)
  have e2 := pw_mono (e := n.e + 64) (f := 1048640) (by have := h.elo; omega) (by have := h.ehi; omega)
  have e3 : n.m * pw n.e < 18446744073709551616 * pw n.e := Int.mul_lt_mul_of_pos_right u p
  have e4 : 0 < n.m * pw n.e := Int.mul_pos (by omega) p
  omega

theorem Num.zero_W : Num.zero.W = 0 := rfl
theorem Num.zero_may : Num.zero.may = true := by decide
theorem Num.inf_may (b : Bool) : (Num.inf b).may = true := by cases b <;> decide

/-- the greater exponent makes the greater number -/
theorem lex_lt {m e m' e' : Int} (h1 : 9223372036854775808 ≤ m') (h2 : m < 18446744073709551616) (he : -8388608 ≤ e) (h : e < e') : m * pw e < m' * pw e' := by
  have p := pw_pos e
  have e1 := pw_lt he h
  have e2 : m * pw e < 18446744073709551616 * pw e := Int.mul_lt_mul_of_pos_right h2 p
  have e3 : 9223372036854775808 * pw e' ≤ m' * pw e' := Int.mul_le_mul_of_nonneg_right h1 (by omega)
  omega

theorem Num.farther_iff {a b : Num} (ha : a.may = true) (hb : b.may = true) (oa : a.ok) (ob : b.ok) : a.farther b = true ↔ b.W < a.W := by
  rcases Num.may3 ha oa with h | h | h <;> rcases Num.may3 hb ob with k | k | k
  · rw [h, k]; simp [Num.farther]
  · rw [h]; have := k.lt; simp [Num.farther, k.kind, Num.zero, Num.W]; rw [← k.W]; omega
  · rw [h, k]; have := pw_pos 1048640; simp [Num.farther, Num.zero, Num.inf, Num.W]; omega
  · rw [k]; have := h.lt; simp [Num.farther, h.kind, Num.zero, Num.W]; rw [← h.W]; omega
  · unfold Num.farther
    rw [if_neg (by simp [h.kind, k.kind]), h.W, k.W]
    have := h.lo; have := h.hi; have := h.elo; have := h.ehi
    have := k.lo; have := k.hi; have := k.elo; have := k.ehi
    by_cases he : a.e = b.e
    · rw [if_neg (by simp [he]), he, decide_eq_true_eq]
      have p := pw_pos b.e
      exact (Int.mul_lt_mul_right p).symm
    · rw [if_pos he, decide_eq_true_eq]
      constructor
      · intro g; exact lex_lt h.lo k.hi (by omega) g
      · intro g
        rcases Int.lt_or_le b.e a.e with g' | g'
        · exact g'
        · have := lex_lt k.lo h.hi (by omega) (show a.e < b.e by omega)
          omega
  · rw [k]; have := h.lt; simp [Num.farther, h.kind, Num.inf, Num.W]; rw [← h.W]; omega
  · rw [h, k]; have := pw_pos 1048640; simp [Num.farther, Num.zero, Num.inf, Num.W]; omega
  · rw [h]; have := k.lt; simp [Num.farther, k.kind, Num.inf, Num.W]; rw [← k.W]; omega
  · rw [h, k]; simp [Num.farther, Num.inf, Num.W]

theorem Num.sign_of {n : Num} (h : n.may = true) (o : n.ok) : (n.sign = 0 ∧ n.val = 0 ∧ n.W = 0 ∧ n = Num.zero) ∨ (n.sign = 1 ∧ n.val = n.W ∧ 0 < n.W ∧ n.neg = false ∧ n.kind ≠ 0) ∨ (n.sign = -1 ∧ n.val = -n.W ∧ 0 < n.W ∧ n.neg = true ∧ n.kind ≠ 0) := by
  unfold Num.sign Num.val
  rw [Num.fair_of_may h]
  rcases Num.may3 h o with k | k | k
  · left; rw [k]; simp [Num.zero, Num.W]
  · right
    have := k.lt
    rw [if_neg (by rw [k.kind]; decide)]
    cases hn : n.neg
    · left; simp [k.kind]; omega
    · right; simp [k.kind]; omega
  · right
    have := pw_pos 1048640
    rw [k]
    cases hn : n.neg
    · left; simp [Num.inf, Num.W]; exact this
    · right; simp [Num.inf, Num.W]; exact this

theorem Num.cmp_spec {a b : Num} (oa : a.ok) (ob : b.ok) :
    (a.cmp b = -1 ∧ a.fair.val < b.fair.val) ∨ (a.cmp b = 0 ∧ a.fair.val = b.fair.val) ∨ (a.cmp b = 1 ∧ b.fair.val < a.fair.val) := by
  have ma := a.fair_may
  have mb := b.fair_may
  replace oa := Num.fair_ok oa
  replace ob := Num.fair_ok ob
  unfold Num.cmp
  generalize a.fair = A at *
  generalize b.fair = B at *
  have f1 := Num.farther_iff ma mb oa ob
  have f2 := Num.farther_iff mb ma ob oa
  have w0 : IntKind.i64.wrap (0 - 0) = 0 := by decide
  have w1 : IntKind.i64.wrap (0 - 1) = -1 := by decide
  have w2 : IntKind.i64.wrap (0 - -1) = 1 := by decide
  rcases Num.sign_of ma oa with h | h | h <;> rcases Num.sign_of mb ob with k | k | k <;> rw [h.1, k.1] <;> simp only [f1, f2, w0, w1, w2] <;> repeat' split <;> omega

theorem Num.cmp_le {a b : Num} (oa : a.ok) (ob : b.ok) : a.cmp b ≤ 0 ↔ a.fair.val ≤ b.fair.val := by
  rcases Num.cmp_spec oa ob with h | h | h <;> omega
theorem Num.cmp_lt {a b : Num} (oa : a.ok) (ob : b.ok) : a.cmp b < 0 ↔ a.fair.val < b.fair.val := by
  rcases Num.cmp_spec oa ob with h | h | h <;> omega
theorem Num.cmp_gt {a b : Num} (oa : a.ok) (ob : b.ok) : 0 < a.cmp b ↔ b.fair.val < a.fair.val := by
  rcases Num.cmp_spec oa ob with h | h | h <;> omega

theorem Num.val_inf (b : Bool) : (Num.inf b).val = if b then -pw 1048640 else pw 1048640 := rfl
theorem Num.val_zero : Num.zero.val = 0 := rfl
theorem Num.val_le {n : Num} (h : n.may = true) (o : n.ok) : -pw 1048640 ≤ n.val ∧ n.val ≤ pw 1048640 := by
  have p := pw_pos 1048640
  rcases Num.may3 h o with k | k | k
  · rw [k, Num.val_zero]; omega
  · have := k.lt; unfold Num.val; split <;> omega
  · rw [k, Num.val_inf]; split <;> omega

theorem Num.val_inj {a b : Num} (ha : a.may = true) (hb : b.may = true) (oa : a.ok) (ob : b.ok) (h : a.val = b.val) : a = b := by
  have f1 := Num.farther_iff ha hb oa ob
  have f2 := Num.farther_iff hb ha ob oa
  have key : a.neg = b.neg ∧ a.W = b.W := by
    rcases Num.sign_of ha oa with h | h | h <;> rcases Num.sign_of hb ob with k | k | k <;> first | (exfalso; omega) | (refine ⟨?_, by omega⟩; first | rw [h.2.2.2, k.2.2.2] | rw [h.2.2.2.1, k.2.2.2.1])
  rw [key.2] at f1 f2
  have g1 : a.farther b = false := by
    cases hh : a.farther b
    · rfl
    · have := f1.1 hh; omega
  have g2 : b.farther a = false := by
    cases hh : b.farther a
    · rfl
    · have := f2.1 hh; omega
  unfold Num.farther at g1 g2
  by_cases hk : a.kind = b.kind
  · rw [if_neg (by simp [hk])] at g1 g2
    by_cases he : a.e = b.e
    · rw [if_neg (by simp [he]), decide_eq_false_iff_not] at g1 g2
      exact (Num.eq_iff a b).2 ⟨hk, key.1, by omega, he⟩
    · rw [if_pos he, decide_eq_false_iff_not] at g1
      rw [if_pos (fun h => he h.symm), decide_eq_false_iff_not] at g2
      omega
  · rw [if_pos hk, decide_eq_false_iff_not] at g1
    rw [if_pos (fun h => hk h.symm), decide_eq_false_iff_not] at g2
    omega

theorem Num.ne_inf {n : Num} (h : n.may = true) (o : n.ok) : (n ≠ Num.inf false ↔ n.val < pw 1048640) ∧ (n ≠ Num.inf true ↔ -pw 1048640 < n.val) := by
  have b := Num.val_le h o
  constructor
  · constructor
    · intro g
      rcases Int.lt_or_le n.val (pw 1048640) with k | k
      · exact k
      · exact absurd (Num.val_inj h (Num.inf_may _) o (Num.inf_ok _) (by rw [Num.val_inf]; simp; omega)) g
    · rintro g rfl
      rw [Num.val_inf] at g; simp at g
  · constructor
    · intro g
      rcases Int.lt_or_le (-pw 1048640) n.val with k | k
      · exact k
      · exact absurd (Num.val_inj h (Num.inf_may _) o (Num.inf_ok _) (by rw [Num.val_inf]; simp; omega)) g
    · rintro g rfl
      rw [Num.val_inf] at g; simp at g

/-- finite, or nought: its value is no infinity's -/
theorem Num.fin_val {n : Num} (h : n.may = true) (o : n.ok) : n.kind ≠ 2 ↔ (-pw 1048640 < n.val ∧ n.val < pw 1048640) := by
  have p := pw_pos 1048640
  rcases Num.may3 h o with k | k | k
  · rw [k, Num.val_zero]; simp [Num.zero]; omega
  · have := k.lt; unfold Num.val; simp [k.kind]; split <;> omega
  · rw [k, Num.val_inf]; simp [Num.inf]; split <;> omega

/-! the opposite, and what is made of two ends -/
theorem Num.opp_may (n : Num) : n.opp.may = true := by
  have h := n.fair_may
  unfold Num.opp
  unfold Num.may at h ⊢
  dsimp only
  generalize n.fair = A at *
  split
  · rename_i h0; rw [if_pos h0] at h
    simp only [decide_eq_true_eq] at h ⊢
    rw [h]; rfl
  · rename_i h0; rw [if_neg h0] at h
    exact h
theorem Num.opp_opp (n : Num) : n.opp.opp = n.fair := by
  have e := Num.fair_of_may n.opp_may
  rw [Num.eq_iff]
  show n.opp.fair.kind = _ ∧ (decide (n.opp.fair.kind ≠ 0) && !n.opp.fair.neg) = _ ∧ n.opp.fair.m = _ ∧ n.opp.fair.e = _
  rw [e]
  refine ⟨rfl, ?_, rfl, rfl⟩
  show (decide (n.fair.kind ≠ 0) && !(decide (n.fair.kind ≠ 0) && !n.fair.neg)) = n.fair.neg
  rcases Num.may_cases n.fair_may with h | h | h
  · rw [h]; rfl
  · simp [h.1]
  · rw [h]; cases n.fair.neg <;> rfl
/-- an interval that may be, and is not empty -/
structure Iv.Real (x : Iv) : Prop where
  some : x.empty = false
  lom : x.lo.may = true
  him : x.hi.may = true
  loo : x.lo.ok
  hio : x.hi.ok
  le : x.lo.val ≤ x.hi.val
  lt : x.lo.val < pw 1048640
  gt : -pw 1048640 < x.hi.val

theorem Iv.Real.may {x : Iv} (h : x.Real) : x.may = true := by
  unfold Iv.may
  rw [if_neg (by simp [h.some]), h.lom, h.him]
  have e1 := (Num.cmp_le h.loo h.hio).2 (by rw [Num.fair_of_may h.lom, Num.fair_of_may h.him]; exact h.le)
  have e2 := (Num.ne_inf h.lom h.loo).1.2 h.lt
  have e3 := (Num.ne_inf h.him h.hio).2.2 h.gt
  simp [e1, e2, e3]
theorem Iv.Real.fair {x : Iv} (h : x.Real) : x.fair = x := by unfold Iv.fair; rw [if_pos h.may]
theorem Iv.Real.good {x : Iv} (h : x.Real) : x.bad = false := by simp [Iv.bad, h.some, h.may]
theorem Iv.real_of {x : Iv} (h : x.may = true) (hs : x.empty = false) (o1 : x.lo.ok) (o2 : x.hi.ok) : x.Real := by
  unfold Iv.may at h
  rw [if_neg (by simp [hs])] at h
  simp only [Bool.and_eq_true, decide_eq_true_eq] at h
  obtain ⟨⟨⟨⟨h1, h2⟩, h3⟩, h4⟩, h5⟩ := h
  have e1 := (Num.cmp_le o1 o2).1 h3
  rw [Num.fair_of_may h1, Num.fair_of_may h2] at e1
  exact ⟨hs, h1, h2, o1, o2, e1, (Num.ne_inf h1 o1).1.1 h4, (Num.ne_inf h2 o2).2.1 h5⟩
theorem Iv.empty_may {x : Iv} (h : x.may = true) (hs : x.empty = true) : x = Iv.none := by
  unfold Iv.may at h
  rw [if_pos hs] at h
  simpa using h

theorem Iv.make_eq (lo hi : Num) : Iv.make lo hi = Iv.fair ⟨false, lo.fair, hi.fair⟩ := by unfold Iv.make; rw [Num.opp_opp, Num.opp_opp]
theorem Iv.make_real {lo hi : Num} (h : (Iv.mk false lo.fair hi.fair).Real) : Iv.make lo hi = ⟨false, lo.fair, hi.fair⟩ := by rw [Iv.make_eq, h.fair]
/-- what is made of two ends is none, or just these -/
theorem Iv.make_cases {lo hi : Num} (o1 : lo.ok) (o2 : hi.ok) : (Iv.make lo hi = Iv.none ∧ ¬ (Iv.mk false lo.fair hi.fair).Real) ∨ (Iv.make lo hi = ⟨false, lo.fair, hi.fair⟩ ∧ (Iv.mk false lo.fair hi.fair).Real) := by
  by_cases h : (Iv.mk false lo.fair hi.fair).Real
  · exact .inr ⟨Iv.make_real h, h⟩
  · refine .inl ⟨?_, h⟩
    rw [Iv.make_eq]
    unfold Iv.fair
    split
    · rename_i k
      exact absurd (Iv.real_of k rfl (Num.fair_ok o1) (Num.fair_ok o2)) h
    · rfl

/-! the least and the greatest -/
theorem Num.least_go (l : List Num) : ∀ (o : Num), o.may = true → o.ok → (∀ x ∈ l, x.ok) →
    (l.foldl Num.lesser o).may = true ∧ (l.foldl Num.lesser o).ok ∧ (l.foldl Num.lesser o).val ≤ o.val ∧ (∀ x ∈ l, (l.foldl Num.lesser o).val ≤ x.fair.val) ∧ (l.foldl Num.lesser o = o ∨ ∃ x ∈ l, l.foldl Num.lesser o = x.fair) := by
  induction l with
  | nil => intro o m k _; exact ⟨m, k, Int.le_refl _, by simp, .inl rfl⟩
  | cons a l ih =>
    intro o m k hl
    have ha := hl a (List.mem_cons_self ..)
    have hs := Num.cmp_lt ha k
    rw [Num.fair_of_may m] at hs
    have key : (Num.lesser o a).may = true ∧ (Num.lesser o a).ok ∧ (Num.lesser o a).val ≤ o.val ∧ (Num.lesser o a).val ≤ a.fair.val ∧ (Num.lesser o a = o ∨ Num.lesser o a = a.fair) := by
      unfold Num.lesser
      split
      · exact ⟨a.fair_may, Num.fair_ok ha, by omega, Int.le_refl _, .inr rfl⟩
      · exact ⟨m, k, Int.le_refl _, by omega, .inl rfl⟩
    obtain ⟨k1, k2, k3, k4, k5⟩ := key
    obtain ⟨i1, i2, i3, i4, i5⟩ := ih _ k1 k2 (fun x hx => hl x (List.mem_cons_of_mem _ hx))
    rw [List.foldl_cons]
    refine ⟨i1, i2, by omega, ?_, ?_⟩
    · intro x hx
      rcases List.mem_cons.1 hx with rfl | hx
      · omega
      · exact i4 x hx
    · rcases i5 with i5 | ⟨x, hx, i5⟩
      · rcases k5 with k5 | k5
        · exact .inl (by rw [i5, k5])
        · exact .inr ⟨a, List.mem_cons_self .., by rw [i5, k5]⟩
      · exact .inr ⟨x, List.mem_cons_of_mem _ hx, i5⟩
theorem Num.least_spec (l : List Num) (hl : ∀ x ∈ l, x.ok) : (Num.least l).may = true ∧ (Num.least l).ok ∧ (∀ x ∈ l, (Num.least l).val ≤ x.fair.val) ∧ (Num.least l = Num.inf false ∨ ∃ x ∈ l, Num.least l = x.fair) := by
  obtain ⟨h1, h2, _, h4, h5⟩ := Num.least_go l (Num.inf false) (Num.inf_may _) (Num.inf_ok _) hl
  exact ⟨h1, h2, h4, h5⟩
theorem Num.most_go (l : List Num) : ∀ (o : Num), o.may = true → o.ok → (∀ x ∈ l, x.ok) →
    (l.foldl Num.greater o).may = true ∧ (l.foldl Num.greater o).ok ∧ o.val ≤ (l.foldl Num.greater o).val ∧ (∀ x ∈ l, x.fair.val ≤ (l.foldl Num.greater o).val) ∧ (l.foldl Num.greater o = o ∨ ∃ x ∈ l, l.foldl Num.greater o = x.fair) := by
  induction l with
  | nil => intro o m k _; exact ⟨m, k, Int.le_refl _, by simp, .inl rfl⟩
  | cons a l ih =>
    intro o m k hl
    have ha := hl a (List.mem_cons_self ..)
    have hs := Num.cmp_gt ha k
    rw [Num.fair_of_may m] at hs
    have key : (Num.greater o a).may = true ∧ (Num.greater o a).ok ∧ o.val ≤ (Num.greater o a).val ∧ a.fair.val ≤ (Num.greater o a).val ∧ (Num.greater o a = o ∨ Num.greater o a = a.fair) := by
      unfold Num.greater
      split
      · exact ⟨a.fair_may, Num.fair_ok ha, by omega, Int.le_refl _, .inr rfl⟩
      · exact ⟨m, k, Int.le_refl _, by omega, .inl rfl⟩
    obtain ⟨k1, k2, k3, k4, k5⟩ := key
    obtain ⟨i1, i2, i3, i4, i5⟩ := ih _ k1 k2 (fun x hx => hl x (List.mem_cons_of_mem _ hx))
    rw [List.foldl_cons]
    refine ⟨i1, i2, by omega, ?_, ?_⟩
    · intro x hx
      rcases List.mem_cons.1 hx with rfl | hx
      · omega
      · exact i4 x hx
    · rcases i5 with i5 | ⟨x, hx, i5⟩
      · rcases k5 with k5 | k5
        · exact .inl (by rw [i5, k5])
        · exact .inr ⟨a, List.mem_cons_self .., by rw [i5, k5]⟩
      · exact .inr ⟨x, List.mem_cons_of_mem _ hx, i5⟩
theorem Num.most_spec (l : List Num) (hl : ∀ x ∈ l, x.ok) : (Num.most l).may = true ∧ (Num.most l).ok ∧ (∀ x ∈ l, x.fair.val ≤ (Num.most l).val) ∧ (Num.most l = Num.inf true ∨ ∃ x ∈ l, Num.most l = x.fair) := by
  obtain ⟨h1, h2, _, h4, h5⟩ := Num.most_go l (Num.inf true) (Num.inf_may _) (Num.inf_ok _) hl
  exact ⟨h1, h2, h4, h5⟩

/-! rounding -/
/-- r is a magnitude's q * 2^e, to nought or away -/
structure Rnd (r : Num) (neg away : Bool) (q q' e : Int) : Prop where
  may : r.may = true
  ok : r.ok
  neg : r.kind = 0 ∨ r.neg = neg
  down : away = false → r.kind ≠ 2 ∧ r.W ≤ q * pw e
  up : away = true → r.kind ≠ 0 ∧ (r.kind = 2 ∨ q' * pw e ≤ r.W)

theorem bound_rnd {neg away : Bool} {m e : Int} (hm : 9223372036854775808 ≤ m) (hm' : m < 18446744073709551616) (he : -4194304 ≤ e) (he' : e ≤ 4194304) :
    Rnd (Num.bound neg m e away) neg away m m e := by
  unfold Num.bound
  by_cases h1 : 1048576 < e
  · rw [if_pos h1]
    cases away
    · rw [if_neg (by decide)]
      refine ⟨by cases neg <;> decide, by constructor <;> simp [Num.huge], .inr rfl, fun _ => ⟨by simp [Num.huge], ?_⟩, by simp⟩
      show 18446744073709551615 * pw 1048576 ≤ _
      have := lex_lt (m := 18446744073709551615) hm (by decide) (by decide) h1
      omega
    · rw [if_pos rfl]
      exact ⟨Num.inf_may _, Num.inf_ok _, .inr rfl, by simp, fun _ => ⟨by simp [Num.inf], .inl rfl⟩⟩
  · rw [if_neg h1]
    by_cases h2 : e < -1048576
    · rw [if_pos h2]
      cases away
      · rw [if_neg (by decide)]
        refine ⟨Num.zero_may, Num.zero_ok, .inl rfl, fun _ => ⟨by simp [Num.zero], ?_⟩, by simp⟩
        rw [Num.zero_W]; exact Int.mul_nonneg (by omega) (Int.le_of_lt (pw_pos _))
      · rw [if_pos rfl]
        refine ⟨by cases neg <;> decide, by constructor <;> simp [Num.tiny, Num.top], .inr rfl, by simp, fun _ => ⟨by simp [Num.tiny], .inr ?_⟩⟩
        show _ ≤ 9223372036854775808 * pw (-1048576)
        have := lex_lt (m' := 9223372036854775808) (by decide) hm' (by omega) h2
        omega
    · rw [if_neg h2]
      have f : (Num.mk 1 neg m e).Fin := ⟨rfl, hm, hm', by show -1048576 ≤ e; omega, by show e ≤ 1048576; omega⟩
      exact ⟨f.may, f.ok, .inr rfl, fun _ => ⟨by simp, by rw [f.W]; exact Int.le_refl _⟩, fun _ => ⟨by simp, .inr (by rw [f.W]; exact Int.le_refl _)⟩⟩

theorem grow_rnd {neg cut away : Bool} {m e : Int} (hm : 9223372036854775808 ≤ m) (hm' : m < 18446744073709551616) (he : -4194303 ≤ e) (he' : e ≤ 4194303) :
    Rnd (Num.grow neg m e cut away) neg away m (if cut then m + 1 else m) e := by
  unfold Num.grow
  by_cases hc : (cut && away) = true
  · rw [if_pos hc]
    simp only [Bool.and_eq_true] at hc
    obtain ⟨h1, h2⟩ := hc
    subst h1; subst h2
    rw [if_pos rfl]
    by_cases h0 : IntKind.u64.wrap (m + 1) = 0
    · rw [if_pos h0]
      have em : m + 1 = 18446744073709551616 := by rw [wu64] at h0; omega
      have ee : IntKind.i64.wrap (e + 1) = e + 1 := by rw [wi64]; omega
      rw [ee, em]
      have b := bound_rnd (neg := neg) (away := true) (m := Num.top) (e := e + 1) (by decide) (by decide) (by omega) (by omega)
      have e2 : Num.top * pw (e + 1) = 18446744073709551616 * pw e := by
        rw [pw_succ (by omega)]; show 9223372036854775808 * (pw e * 2) = _; omega
      exact ⟨b.may, b.ok, b.neg, by simp, fun h => ⟨(b.up h).1, by rw [← e2]; exact (b.up h).2⟩⟩
    · rw [if_neg h0]
      have em : IntKind.u64.wrap (m + 1) = m + 1 := by rw [wu64] at h0 ⊢; omega
      have hlt : m + 1 < 18446744073709551616 := by rw [wu64] at h0; omega
      rw [em]
      have b := bound_rnd (neg := neg) (away := true) (m := m + 1) (e := e) (by omega) hlt (by omega) (by omega)
      exact ⟨b.may, b.ok, b.neg, by simp, b.up⟩
  · rw [if_neg hc]
    have b := bound_rnd (neg := neg) (away := away) hm hm' (e := e) (by omega) (by omega)
    refine ⟨b.may, b.ok, b.neg, b.down, ?_⟩
    intro ha
    subst ha
    simp only [Bool.and_true, Bool.not_eq_true] at hc
    rw [if_neg (by simp [hc])]
    exact b.up rfl

/-- what a rounded one's value is to the exact one, t / c -/
structure Side (r : Num) (up : Bool) (t c : Int) : Prop where
  may : r.may = true
  ok : r.ok
  down : up = false → r ≠ Num.inf false ∧ (r = Num.inf true ∨ r.val * c ≤ t)
  up : up = true → r ≠ Num.inf true ∧ (r = Num.inf false ∨ t ≤ r.val * c)

theorem Num.inf_of {r : Num} (h : r.may = true) (o : r.ok) (hk : r.kind = 2) : r = Num.inf r.neg := by
  rcases Num.may3 h o with k | k | k
  · rw [k] at hk; simp [Num.zero] at hk
  · have := k.kind; omega
  · exact k

theorem Rnd.side {r : Num} {neg up : Bool} {q q' e T c : Int} (R : Rnd r neg (up != neg) q q' e) (h1 : q * pw e * c ≤ T) (h2 : T ≤ q' * pw e * c) (hT : 0 ≤ T) (hc : 0 ≤ c) : Side r up (if neg then -T else T) c := by
  have hv : r.val * c = if r.neg then -(r.W * c) else r.W * c := by
    unfold Num.val; cases r.neg <;> simp [Int.neg_mul]
  have down : (up != neg) = false → r.kind ≠ 2 ∧ r.W * c ≤ T := fun h => ⟨(R.down h).1, Int.le_trans (Int.mul_le_mul_of_nonneg_right (R.down h).2 hc) h1⟩
  have upw : (up != neg) = true → r.kind ≠ 0 ∧ (r.kind = 2 ∨ T ≤ r.W * c) := by
    intro h
    refine ⟨(R.up h).1, ?_⟩
    rcases (R.up h).2 with k | k
    · exact .inl k
    · exact .inr (Int.le_trans h2 (Int.mul_le_mul_of_nonneg_right k hc))
  have w0 : r.kind = 0 → r.W = 0 := fun h => by unfold Num.W; rw [if_pos h]
  have n0 : ∀ b, r.kind ≠ 2 → r ≠ Num.inf b := fun b h g => h (by rw [g]; rfl)
  refine ⟨R.may, R.ok, ?_, ?_⟩
  · intro hu
    subst hu
    cases neg
    · obtain ⟨d1, d2⟩ := down rfl
      refine ⟨n0 _ d1, .inr ?_⟩
      rw [hv]
      rcases R.neg with h | h
      · rw [w0 h]; simp; exact hT
      · rw [h]; simpa using d2
    · obtain ⟨d1, d2⟩ := upw rfl
      have hn : r.neg = true := by rcases R.neg with h | h <;> simp_all
      refine ⟨fun g => by rw [g] at hn; simp [Num.inf] at hn, ?_⟩
      rcases d2 with d2 | d2
      · left; rw [Num.inf_of R.may R.ok d2, hn]
      · right; rw [hv, hn]; simp; exact d2
  · intro hu
    subst hu
    cases neg
    · obtain ⟨d1, d2⟩ := upw rfl
      have hn : r.neg = false := by rcases R.neg with h | h <;> simp_all
      refine ⟨fun g => by rw [g] at hn; simp [Num.inf] at hn, ?_⟩
      rcases d2 with d2 | d2
      · left; rw [Num.inf_of R.may R.ok d2, hn]
      · right; rw [hv, hn]; simpa using d2
    · obtain ⟨d1, d2⟩ := down rfl
      refine ⟨n0 _ d1, .inr ?_⟩
      rw [hv]
      rcases R.neg with h | h
      · rw [w0 h]; simp; exact hT
      · rw [h]; simpa using d2

theorem Num.Fin.val_mul {a b : Num} : a.val * b.val = if (a.neg != b.neg) then -(a.W * b.W) else a.W * b.W := by
  unfold Num.val
  cases a.neg <;> cases b.neg <;> simp [Int.neg_mul, Int.mul_neg]

/-- the product, rounded -/
theorem mulF_side {a b : Num} (ha : a.Fin) (hb : b.Fin) (up : Bool) : Side (Num.mulF a b up) up (a.val * b.val) (pw 0) := by
  rw [Num.Fin.val_mul]
  have := ha.lo; have := ha.hi; have := ha.elo; have := ha.ehi
  have := hb.lo; have := hb.hi; have := hb.elo; have := hb.ehi
  have m1 : 9223372036854775808 * 9223372036854775808 ≤ a.m * b.m := Int.mul_le_mul ha.lo hb.lo (by decide) (by omega)
  have m2 : a.m * b.m ≤ 18446744073709551615 * 18446744073709551615 := Int.mul_le_mul (by omega) (by omega) (by omega) (by decide)
  have eW : a.W * b.W = a.m * b.m * pw (a.e + b.e) * pw 0 := by
    rw [ha.W, hb.W]
    have e := pw_mul (e := a.e) (f := b.e) (by omega) (by omega) (by omega)
    have e1 : a.m * pw a.e * (b.m * pw b.e) = a.m * b.m * (pw a.e * pw b.e) := by grind
    rw [e1, e]; grind
  have p := pw_pos (a.e + b.e)
  have p0 := pw_pos 0
  have hT : 0 ≤ a.W * b.W := Int.mul_nonneg (Int.le_of_lt ha.lt.1) (Int.le_of_lt hb.lt.1)
  unfold Num.mulF
  rw [eW] at hT ⊢
  generalize a.m * b.m = p' at *
  split
  · rename_i h
    have R := grow_rnd (neg := a.neg != b.neg) (cut := decide (p' % 9223372036854775808 ≠ 0)) (away := up != (a.neg != b.neg)) (m := p' / 9223372036854775808) (e := a.e + b.e + 63) (by omega) (by omega) (by omega) (by omega)
    refine R.side ?_ ?_ hT (Int.le_of_lt p0)
    · refine Int.mul_le_mul_of_nonneg_right ?_ (Int.le_of_lt p0)
      rw [pw_63 (by omega)]
      have : p' / 9223372036854775808 * (pw (a.e + b.e) * 9223372036854775808) = p' / 9223372036854775808 * 9223372036854775808 * pw (a.e + b.e) := by grind
      rw [this]
      exact Int.mul_le_mul_of_nonneg_right (by omega) (by omega)
    · refine Int.mul_le_mul_of_nonneg_right ?_ (Int.le_of_lt p0)
      rw [pw_63 (by omega)]
      have : ∀ q : Int, q * (pw (a.e + b.e) * 9223372036854775808) = q * 9223372036854775808 * pw (a.e + b.e) := fun q => by grind
      rw [this]
      refine Int.mul_le_mul_of_nonneg_right ?_ (by omega)
      split
      · omega
      · rename_i h; simp only [decide_eq_true_eq] at h; omega
  · rename_i h
    have R := grow_rnd (neg := a.neg != b.neg) (cut := decide (p' % 18446744073709551616 ≠ 0)) (away := up != (a.neg != b.neg)) (m := p' / 18446744073709551616) (e := a.e + b.e + 64) (by omega) (by omega) (by omega) (by omega)
    refine R.side ?_ ?_ hT (Int.le_of_lt p0)
    · refine Int.mul_le_mul_of_nonneg_right ?_ (Int.le_of_lt p0)
      rw [pw_64 (by omega)]
      have : p' / 18446744073709551616 * (pw (a.e + b.e) * 18446744073709551616) = p' / 18446744073709551616 * 18446744073709551616 * pw (a.e + b.e) := by grind
      rw [this]
      exact Int.mul_le_mul_of_nonneg_right (by omega) (by omega)
    · refine Int.mul_le_mul_of_nonneg_right ?_ (Int.le_of_lt p0)
      rw [pw_64 (by omega)]
      have : ∀ q : Int, q * (pw (a.e + b.e) * 18446744073709551616) = q * 18446744073709551616 * pw (a.e + b.e) := fun q => by grind
      rw [this]
      refine Int.mul_le_mul_of_nonneg_right ?_ (by omega)
      split
      · omega
      · rename_i h; simp only [decide_eq_true_eq] at h; omega
end Go.Proofs.YtaiillbjhdoikaaGreat.Ev

/- Contracts of the reference: exact numbers, and rounding. Printed by gen.py. -/
namespace Go.Proofs.YtaiillbjhdoikaaGreat.Ev
open Go Go.Proofs
set_option linter.unusedVariables false
set_option linter.unusedSimpArgs false

attribute [local irreducible] Lb
theorem k_r3Make (neg : Bool) (m : List Int) (e : Int) (h : Lb m) (hl : m.length ≤ 125000) (he : -9223372036854775808 ≤ e ∧ e < 9223372036854775808) : ∃ t : Bool × List Int × Int, t = dyL (dyMake neg (lv m) e) ∧
    CallsA Tryz.prog 95 [.agg [.bool (.s neg), .sli .u32 m], .int .i64 (.s e)] (.agg [.bool (.s t.1), .sli .u32 t.2.1, .int .i64 (.s t.2.2)]) := by
  obtain ⟨t, ht, hC⟩ := c_r3Make neg m e h hl he
  refine ⟨dyL t, by rw [ht], hC⟩
theorem lim_len_of {k : Nat} {m : List Int} (h : Lb m) (hk : k ≤ lv m) : (lim k).length ≤ m.length := lim_length_le (by have := lv_lt h; omega)

end Go.Proofs.YtaiillbjhdoikaaGreat.Ev

/- Contract of the reference: rounding. Printed by gen.py. -/
namespace Go.Proofs.YtaiillbjhdoikaaGreat.Ev
open Go Go.Proofs
set_option linter.unusedVariables false
set_option linter.unusedSimpArgs false

attribute [local irreducible] Lb
theorem c_rRound (neg : Bool) (m : List Int) (e : Int) (up : Bool) (h : Lb m) (hl : m.length ≤ 62500) (he : -9223372036854775808 ≤ e ∧ e < 9223372036854775808) :
    ∃ t : Num, t = rnd (dyMake neg (lv m) e).1 (dyMake neg (lv m) e).2.1 (dyMake neg (lv m) e).2.2 up ∧
    CallsA Tryz.prog 94 [.agg [.bool (.s neg), .sli .u32 m, .int .i64 (.s e)], .bool (.s up)] t.av := by
  refine ⟨_, rfl, ?_⟩
  have rg := dyMake_rng neg (lv m) e
  have dl := fun k (hk : k ≤ lv m) => lim_len_of h hk
  generalize ed : dyMake neg (lv m) e = d at *
  generalize hr : rnd d.1 d.2.1 d.2.2 up = r
  obtain ⟨ng, k, e1⟩ := d
  dsimp only at rg hr
  have rg1 := rg.1
  have rg2 := rg.2.1
  have hk := dl k rg.2.2
  have lbk := lim_lb k
  have vk := lv_lim k
  have kb := lv_blen lbk
  rw [vk] at kb
  have kb0 := blen_nonneg (k : Int)
  have few := fun (h0 : 0 < k) => rnd_few h0
  have many := fun (h0 : 0 < k) => rnd_many h0
  have zer : k = 0 → r = Num.zero := by intro z; rw [← hr]; unfold rnd; rw [if_pos z]
  have lo : k ≠ 0 → blen (k : Int) ≤ 64 → r = Num.bound ng ((k * 2 ^ (64 - blen (k : Int)).toNat : Nat) : Int) (e1 + blen (k : Int) - 64) (up != ng) := by
    intro z y; rw [← hr]; unfold rnd; rw [if_neg z, if_pos y]
  have hi : k ≠ 0 → ¬ blen (k : Int) ≤ 64 → r = Num.grow ng ((k / 2 ^ (blen (k : Int) - 64).toNat : Nat) : Int) (e1 + blen (k : Int) - 64) true (up != ng) := by
    intro z y; rw [← hr]; unfold rnd; rw [if_neg z, if_neg y]
  have bw : blen (k : Int) ≤ 2000000 := by
    have q : ((lim k).length : Int) ≤ 62500 := by omega
    omega
  have F1 : IntKind.i64.wrap (IntKind.i64.wrap (e1 + blen (k : Int)) - 64) = e1 + blen (k : Int) - 64 := by rw [wi64, wi64]; omega
  have F2 : IntKind.i64.wrap (64 - blen (k : Int)) = 64 - blen (k : Int) := by rw [wi64]; omega
  have F3 : IntKind.i64.wrap (blen (k : Int) - 64) = blen (k : Int) - 64 := by rw [wi64]; omega
  have F4 : IntKind.i64.wrap (e1 + blen (k : Int) - 64 + 1) = e1 + blen (k : Int) - 64 + 1 := by rw [wi64]; omega
  have F5 : blen (k : Int) - 64 < 9223372036854775807 := by omega
  have l1 : Lb [(1 : Int)] := Lb.cons (by decide) (by decide) Lb.nil
  have Tp : ∀ s, 64 < blen (k : Int) → k / 2 ^ (blen (k : Int) - 64).toNat < 18446744073709551616 → s = (if blen (k : Int) - 64 < 1 then lim k else lim (k / 2 ^ (blen (k : Int) - 64).toNat)) → Lb s ∧ s.length ≤ 2 ∧ lv s = k / 2 ^ (blen (k : Int) - 64).toNat := by
    intro s b kk hs
    rw [if_neg (by omega)] at hs
    rw [hs]
    exact ⟨lim_lb _, len_two kk, lv_lim _⟩
  have Up : ∀ u, k / 2 ^ (blen (k : Int) - 64).toNat < 18446744073709551616 → u = lim (k / 2 ^ (blen (k : Int) - 64).toNat + lv [(1 : Int)]) → Lb u ∧ u.length ≤ 3 ∧ lv u = k / 2 ^ (blen (k : Int) - 64).toNat + 1 := by
    intro u kk hu
    rw [hu]
    refine ⟨lim_lb _, lim_length_le ?_, lv_lim _⟩
    show k / 2 ^ (blen (k : Int) - 64).toNat + 1 < 4294967296 ^ 3
    omega
  have Gr : 64 < blen (k : Int) → r = Num.grow ng ((k / 2 ^ (blen (k : Int) - 64).toNat : Nat) : Int) (e1 + blen (k : Int) - 64) true (up != ng) → (9223372036854775808 ≤ k / 2 ^ (blen (k : Int) - 64).toNat ∧ k / 2 ^ (blen (k : Int) - 64).toNat < 18446744073709551616) →
      ((up != ng) = true → (64 < blen ((k / 2 ^ (blen (k : Int) - 64).toNat + 1 : Nat) : Int) → r = Num.bound ng ((9223372036854775808 : Nat) : Int) (e1 + blen (k : Int) - 64 + 1) true ∧ (k / 2 ^ (blen (k : Int) - 64).toNat + 1) / 2 ^ (1 : Int).toNat = 9223372036854775808) ∧
        (¬ 64 < blen ((k / 2 ^ (blen (k : Int) - 64).toNat + 1 : Nat) : Int) → r = Num.bound ng ((k / 2 ^ (blen (k : Int) - 64).toNat + 1 : Nat) : Int) (e1 + blen (k : Int) - 64) true ∧ k / 2 ^ (blen (k : Int) - 64).toNat + 1 < 18446744073709551616)) ∧
      ((up != ng) = false → r = Num.bound ng ((k / 2 ^ (blen (k : Int) - 64).toNat : Nat) : Int) (e1 + blen (k : Int) - 64) false) := by
    intro b hr m
    generalize k / 2 ^ (blen (k : Int) - 64).toNat = v at *
    have tm := top_more m.1 m.2
    refine ⟨fun a => ⟨fun c => ?_, fun c => ?_⟩, fun a => ?_⟩
    · have e := tm.1.1 c
      refine ⟨?_, tm.2 e⟩
      rw [hr, a]
      unfold Num.grow
      rw [if_pos (show (true && true) = true from rfl), if_pos (by rw [e]; decide), F4]
      rfl
    · have e : v ≠ 18446744073709551615 := fun z => c (tm.1.2 z)
      refine ⟨?_, by omega⟩
      rw [hr, a]
      unfold Num.grow
      have w : IntKind.u64.wrap ((v : Int) + 1) = ((v + 1 : Nat) : Int) := by rw [wu64]; omega
      rw [if_pos (show (true && true) = true from rfl), w, if_neg (by omega)]
    · rw [hr, a]
      unfold Num.grow
      rw [if_neg (by decide)]
  have Sh : ∀ s, blen (k : Int) ≤ 64 → k * 2 ^ (64 - blen (k : Int)).toNat < 18446744073709551616 → s = (if 64 - blen (k : Int) < 1 then lim k else if 16777216 < 64 - blen (k : Int) then [] else lim (k * 2 ^ (64 - blen (k : Int)).toNat)) →
      Lb s ∧ s.length ≤ 2 ∧ lv s = k * 2 ^ (64 - blen (k : Int)).toNat := by
    intro s b kk hs
    have e : s = lim (k * 2 ^ (64 - blen (k : Int)).toNat) := by
      rw [hs]
      split
      · rw [show (64 - blen (k : Int)).toNat = 0 by omega]; simp
      · rw [if_neg (by omega)]
    rw [e]
    exact ⟨lim_lb _, len_two kk, lv_lim _⟩
  refine callsA_of hG hm Tryz.func94 (by kernel_rfl) ?_
  intro E hE lp hl'
  cbv
  (apply E_callX hE (k_r3Make _ _ _ h ?_ he); (case hf => rfl); (case hc => (cbv <;> trivial)); (case hle => exact u_up); all_goals (first | (intro x hx; cbv) | (exact Nat.le_trans hl (by decide))))
  have X : x = (ng, lim k, e1) := by rw [hx]; show dyL (dyMake neg (lv m) e) = _; rw [ed]; rfl
  have x1 : x.1 = ng := by rw [X]
  have x2 : x.2.1 = lim k := by rw [X]
  have x3 : x.2.2 = e1 := by rw [X]
  clear X hx
  refine E_br hE (fun g1 => ?_) (fun g1 => ?_) <;> cbv
  · have z : k = 0 := by
      subst hE
      have q : (x.2.1.length : Int) = 0 := eql_t g1
      rw [x2] at q
      exact lim_eq_nil.1 (List.length_eq_zero_iff.1 (by omega))
    rw [zer z]; exact ⟨rfl, rfl, rfl, rfl, trivial⟩
  have kz : k ≠ 0 := by
    intro z
    subst hE
    have q : ¬ (x.2.1.length : Int) = 0 := eql_f g1
    rw [x2, z] at q
    exact q rfl
  have few := few (by omega)
  have many := many (by omega)
  have lo := lo kz
  have hi := hi kz
  have xl : Lb x.2.1 ∧ x.2.1.length ≤ 62500 := by rw [x2]; exact ⟨lbk, Nat.le_trans hk hl⟩
  (apply E_callX hE (c_rLen _ xl.1 ?_); (case hf => rfl); (case hc => (cbv <;> trivial)); (case hle => exact u_up); all_goals (first | (intro nn hn; cbv) | (exact Nat.le_trans xl.2 (by decide))))
  refine E_nm hE (fun n hn' => ?_)
  cbv
  have nB : n = blen (k : Int) := by
    have q : nn = blen (lv x.2.1 : Int) := hn
    rw [x2, vk] at q
    subst hE; exact Eq.trans (b := nn) hn' q
  have ea : E.bnot (E.beq up x.1) = (up != ng) := by rw [x1]; subst hE; rfl
  have ee : E.bin .sub .i64 (E.bin .add .i64 x.2.2 n) 64 = e1 + blen (k : Int) - 64 := by
    rw [x3, nB]; subst hE
    exact F1
  refine E_br hE (fun g2 => ?_) (fun g2 => ?_) <;> cbv
  · have b64 : blen (k : Int) ≤ 64 := by rw [← nB]; subst hE; exact leq_t g2
    have en : E.bin .sub .i64 64 n = 64 - blen (k : Int) := by rw [nB]; subst hE; exact F2
    have kk := few b64
    (apply E_pcallX hE (c_rShl _ _ xl.1 ?_); (case hm => rfl); (case hle => exact u_up); all_goals (first | (intro s hs; cbv) | (exact Nat.lt_of_le_of_lt xl.2 (by decide))))
    have S : Lb s ∧ s.length ≤ 2 ∧ lv s = k * 2 ^ (64 - blen (k : Int)).toNat := by
      have q : s = (if E.bin .sub .i64 64 n < 1 then lim (lv x.2.1) else if 16777216 < E.bin .sub .i64 64 n then [] else lim (lv x.2.1 * 2 ^ (E.bin .sub .i64 64 n).toNat)) := hs
      rw [en, x2, vk] at q
      exact Sh s b64 kk q
    (apply E_pcallX hE (c_rWord _ S.1 S.2.1); (case hm => rfl); (case hle => exact u_up); all_goals (first | (intro w hw; cbv) | (assumption)))
    (apply E_pcallX hE (c_rFin _ _ _ _); (case hm => rfl); (case hle => exact u_up); all_goals (first | (intro t ht; cbv) | (assumption)))
    have ht' : t = Num.bound x.1 w (E.bin .sub .i64 (E.bin .add .i64 x.2.2 n) 64) (E.bnot (E.beq up x.1)) := ht
    rw [ee, ea, x1, show w = (lv s : Int) from hw, S.2.2, ← lo b64] at ht'
    rw [ht']; exact ⟨rfl, rfl, rfl, rfl, trivial⟩
  · have b64 : ¬ blen (k : Int) ≤ 64 := by rw [← nB]; subst hE; exact leq_f g2
    have en : E.bin .sub .i64 n 64 = blen (k : Int) - 64 := by rw [nB]; subst hE; exact F3
    have M := many (Int.not_le.1 b64)
    (apply E_callX hE (c_rShr _ _ xl.1 ?_ ?_); (case hf => rfl); (case hc => (cbv <;> trivial)); (case hle => exact u_up); all_goals (first | (intro s hs; cbv) | (first | exact Nat.lt_of_le_of_lt xl.2 (by decide) | (show E.bin .sub .i64 n 64 < 9223372036854775807; rw [en]; exact F5))))
    have T : Lb s ∧ s.length ≤ 2 ∧ lv s = k / 2 ^ (blen (k : Int) - 64).toNat := by
      have q : s = (if E.bin .sub .i64 n 64 < 1 then lim (lv x.2.1) else lim (lv x.2.1 / 2 ^ (E.bin .sub .i64 n 64).toNat)) := hs
      rw [en, x2, vk] at q
      exact Tp s (Int.not_le.1 b64) M.2 q
    have G := Gr (Int.not_le.1 b64) (hi b64) M
    refine E_nm hE (fun e2 he2 => ?_)
    cbv
    have ee2 : e2 = e1 + blen (k : Int) - 64 := Eq.trans (b := E.bin .sub .i64 (E.bin .add .i64 x.2.2 n) 64) he2 ee
    have es : E.sub [1] 0 1 = [1] := by subst hE; rfl
    refine E_br hE (fun g3 => ?_) (fun g3 => ?_) <;> cbv
    · have a1 : (up != ng) = true := ea.symm.trans g3
      (apply E_callX hE (c_rAdd _ _ T.1 ?_ ?_ ?_); (case hf => rfl); (case hc => (cbv <;> trivial)); (case hle => exact u_up); all_goals (first | (intro u hu; cbv) | (first | exact Nat.lt_of_le_of_lt T.2.1 (by decide) | (show Lb (E.sub [1] 0 1); rw [es]; exact l1) | (show (E.sub [1] 0 1).length < 268435456; rw [es]; show (1 : Nat) < 268435456; decide))))
      have U : Lb u ∧ u.length ≤ 3 ∧ lv u = k / 2 ^ (blen (k : Int) - 64).toNat + 1 := by
        have q : u = lim (lv s + lv (E.sub [1] 0 1)) := hu
        rw [es, T.2.2] at q
        exact Up u M.2 q
      (apply E_callX hE (c_rLen _ U.1 ?_); (case hf => rfl); (case hc => (cbv <;> trivial)); (case hle => exact u_up); all_goals (first | (intro n2 hn2; cbv) | (exact Nat.le_trans U.2.1 (by decide))))
      have n2e : n2 = blen ((k / 2 ^ (blen (k : Int) - 64).toNat + 1 : Nat) : Int) := by rw [← U.2.2]; exact hn2
      refine E_br hE (fun g4 => ?_) (fun g4 => ?_) <;> cbv
      · have c : 64 < blen ((k / 2 ^ (blen (k : Int) - 64).toNat + 1 : Nat) : Int) := by rw [← n2e]; subst hE; exact gtr_t g4
        have GG := (G.1 a1).1 c
        (apply E_callX hE (c_rShr _ 1 U.1 ?_ ?_); (case hf => rfl); (case hc => (cbv <;> trivial)); (case hle => exact u_up); all_goals (first | (intro y hy; cbv) | (first | exact Nat.lt_of_le_of_lt U.2.1 (by decide) | (show (1 : Int) < 9223372036854775807; decide))))
        have Y : Lb y ∧ y.length ≤ 2 ∧ lv y = 9223372036854775808 := by
          have q : y = (if (1 : Int) < 1 then lim (lv u) else lim (lv u / 2 ^ (1 : Int).toNat)) := hy
          rw [if_neg (by decide), U.2.2, GG.2] at q
          rw [q]; exact ⟨lim_lb _, len_two (by decide), lv_lim _⟩
        refine E_nm hE (fun e3 he3 => ?_)
        cbv
        have ee3 : e3 = e1 + blen (k : Int) - 64 + 1 := by subst hE; rw [← F4, ← ee2]; exact he3
        (apply E_pcallX hE (c_rWord _ Y.1 Y.2.1); (case hm => rfl); (case hle => exact u_up); all_goals (first | (intro w hw; cbv) | (assumption)))
        (apply E_pcallX hE (c_rFin _ _ _ _); (case hm => rfl); (case hle => exact u_up); all_goals (first | (intro t ht; cbv) | (assumption)))
        have ht' : t = Num.bound x.1 w e3 (E.bnot (E.beq up x.1)) := ht
        rw [ee3, ea, x1, show w = (lv y : Int) from hw, Y.2.2, a1] at ht'
        have e : t = r := ht'.trans GG.1.symm
        rw [e]; exact ⟨rfl, rfl, rfl, rfl, trivial⟩
      · have c : ¬ 64 < blen ((k / 2 ^ (blen (k : Int) - 64).toNat + 1 : Nat) : Int) := by rw [← n2e]; subst hE; exact gtr_f g4
        have GG := (G.1 a1).2 c
        have UL : k / 2 ^ (blen (k : Int) - 64).toNat + 1 < 18446744073709551616 → u.length ≤ 2 := fun z => by have q : u = lim (lv s + lv (E.sub [1] 0 1)) := hu; rw [es, T.2.2] at q; rw [q]; exact len_two z
        (apply E_pcallX hE (c_rWord _ U.1 ?_); (case hm => rfl); (case hle => exact u_up); all_goals (first | (intro w hw; cbv) | (exact UL GG.2)))
        (apply E_pcallX hE (c_rFin _ _ _ _); (case hm => rfl); (case hle => exact u_up); all_goals (first | (intro t ht; cbv) | (assumption)))
        have ht' : t = Num.bound x.1 w e2 (E.bnot (E.beq up x.1)) := ht
        rw [ee2, ea, x1, show w = (lv u : Int) from hw, U.2.2, a1] at ht'
        have e : t = r := ht'.trans GG.1.symm
        rw [e]; exact ⟨rfl, rfl, rfl, rfl, trivial⟩
    · have a1 : (up != ng) = false := ea.symm.trans g3
      have GG := G.2 a1
      (apply E_pcallX hE (c_rWord _ T.1 T.2.1); (case hm => rfl); (case hle => exact u_up); all_goals (first | (intro w hw; cbv) | (assumption)))
      (apply E_pcallX hE (c_rFin _ _ _ _); (case hm => rfl); (case hle => exact u_up); all_goals (first | (intro t ht; cbv) | (assumption)))
      have ht' : t = Num.bound x.1 w e2 (E.bnot (E.beq up x.1)) := ht
      rw [ee2, ea, x1, show w = (lv s : Int) from hw, T.2.2, a1] at ht'
      have e : t = r := ht'.trans GG.symm
      rw [e]; exact ⟨rfl, rfl, rfl, rfl, trivial⟩

end Go.Proofs.YtaiillbjhdoikaaGreat.Ev

/- Contracts of the reference: products. Printed by gen.py. -/
namespace Go.Proofs.YtaiillbjhdoikaaGreat.Ev
open Go Go.Proofs
set_option linter.unusedVariables false
set_option linter.unusedSimpArgs false

attribute [local irreducible] Lb
end Go.Proofs.YtaiillbjhdoikaaGreat.Ev

/- The quotient of two numbers; products and quotients of intervals hold what they ought to: plain Lean. -/
namespace Go.Proofs.YtaiillbjhdoikaaGreat.Ev
open Go

def Num.divF (a b : Num) (up : Bool) : Num :=
  if b.m ≤ a.m then Num.grow (a.neg != b.neg) (a.m * 9223372036854775808 / b.m) (a.e - b.e - 63) (decide (a.m * 9223372036854775808 % b.m ≠ 0)) (up != (a.neg != b.neg))
  else Num.grow (a.neg != b.neg) (a.m * 18446744073709551616 / b.m) (a.e - b.e - 64) (decide (a.m * 18446744073709551616 % b.m ≠ 0)) (up != (a.neg != b.neg))
def Num.div (a b : Num) (up : Bool) : Num :=
  if b.fair.kind = 0 then Num.inf (!up) else if a.fair.kind = 0 ∨ b.fair.kind = 2 then Num.zero else if a.fair.kind = 2 then Num.inf (a.fair.neg != b.fair.neg) else Num.divF a.fair b.fair up

def Iv.corners (F : Num → Num → Bool → Num) (a b : Iv) : Iv :=
  Iv.make (Num.least [F a.lo b.lo false, F a.lo b.hi false, F a.hi b.lo false, F a.hi b.hi false]) (Num.most [F a.lo b.lo true, F a.lo b.hi true, F a.hi b.lo true, F a.hi b.hi true])
def Iv.mul (a b : Iv) : Iv := if Iv.anyBad [a, b] then Iv.none else Iv.corners Num.mul a b

def Iv.half (near fin : Num) : Iv :=
  if near.sign = fin.sign then Iv.make (Num.div near fin false) (Num.inf false) else Iv.make (Num.inf true) (Num.div near fin true)
def Iv.div (a b : Iv) : Iv :=
  if Iv.anyBad [a, b] ∨ (b.lo.sign = 0 ∧ b.hi.sign = 0) then Iv.none
  else if 0 < b.lo.sign ∨ b.hi.sign < 0 then Iv.corners Num.div a b
  else if (b.lo.sign < 0 ∧ 0 < b.hi.sign) ∨ Iv.has a Num.zero then Iv.all
  else Iv.half (if a.lo.sign < 0 then a.hi else a.lo) (if b.hi.sign = 0 then b.lo else b.hi)

theorem divF_side {a b : Num} (ha : a.Fin) (hb : b.Fin) (up : Bool) : Side (Num.divF a b up) up (if (a.neg != b.neg) then -(a.W * pw 0) else a.W * pw 0) b.W := by
  have := ha.lo; have := ha.hi; have := ha.elo; have := ha.ehi
  have := hb.lo; have := hb.hi; have := hb.elo; have := hb.ehi
  have p0 := pw_pos 0
  have hT : 0 ≤ a.W * pw 0 := Int.mul_nonneg (Int.le_of_lt ha.lt.1) (Int.le_of_lt p0)
  have hb0 : 0 < b.m := by omega
  unfold Num.divF
  split
  · rename_i h
    have e1 := Int.mul_ediv_add_emod (a.m * 9223372036854775808) b.m
    have e2 := Int.emod_nonneg (a.m * 9223372036854775808) (show b.m ≠ 0 by omega)
    have e3 := Int.emod_lt_of_pos (a.m * 9223372036854775808) hb0
    generalize hq : a.m * 9223372036854775808 / b.m = q at *
    generalize hr : a.m * 9223372036854775808 % b.m = r at *
    have q1 : 9223372036854775808 ≤ q := by
      rcases Int.lt_or_le q 9223372036854775808 with g | g
      · exfalso
        have : b.m * q ≤ b.m * 9223372036854775807 := Int.mul_le_mul_of_nonneg_left (by omega) (by omega)
        omega
      · exact g
    have q2 : q < 18446744073709551616 := by
      rcases Int.lt_or_le q 18446744073709551616 with g | g
      · exact g
      · exfalso
        have : b.m * 18446744073709551616 ≤ b.m * q := Int.mul_le_mul_of_nonneg_left g (by omega)
        omega
    have R := grow_rnd (neg := a.neg != b.neg) (cut := decide (r ≠ 0)) (away := up != (a.neg != b.neg)) (m := q) (e := a.e - b.e - 63) q1 q2 (by omega) (by omega)
    have E : ∀ k : Int, k * pw (a.e - b.e - 63) * b.W = (b.m * k) * (pw (a.e - 63) * pw 0) := by
      intro k
      rw [hb.W]
      have e := pw_mul (e := b.e) (f := a.e - b.e - 63) (by omega) (by omega) (by omega)
      rw [show b.e + (a.e - b.e - 63) = a.e - 63 by omega] at e
      have e' : k * pw (a.e - b.e - 63) * (b.m * pw b.e) = b.m * k * (pw b.e * pw (a.e - b.e - 63)) := by grind
      rw [e', e]; grind
    have ET : a.W * pw 0 = (a.m * 9223372036854775808) * (pw (a.e - 63) * pw 0) := by
      rw [ha.W]
      have e := pw_63 (e := a.e - 63) (by omega)
      rw [show a.e - 63 + 63 = a.e by omega] at e
      rw [e]; grind
    have pp : 0 ≤ pw (a.e - 63) * pw 0 := Int.le_of_lt (Int.mul_pos (pw_pos _) p0)
    refine R.side ?_ ?_ hT (Int.le_of_lt hb.lt.1)
    · rw [E, ET]; exact Int.mul_le_mul_of_nonneg_right (by omega) pp
    · rw [E, ET]
      refine Int.mul_le_mul_of_nonneg_right ?_ pp
      split
      · have : b.m * (q + 1) = b.m * q + b.m := by grind
        omega
      · rename_i h; simp only [decide_eq_true_eq] at h; omega
  · rename_i h
    have e1 := Int.mul_ediv_add_emod (a.m * 18446744073709551616) b.m
    have e2 := Int.emod_nonneg (a.m * 18446744073709551616) (show b.m ≠ 0 by omega)
    have e3 := Int.emod_lt_of_pos (a.m * 18446744073709551616) hb0
    generalize hq : a.m * 18446744073709551616 / b.m = q at *
    generalize hr : a.m * 18446744073709551616 % b.m = r at *
    have q1 : 9223372036854775808 ≤ q := by
      rcases Int.lt_or_le q 9223372036854775808 with g | g
      · exfalso
        have : b.m * q ≤ b.m * 9223372036854775807 := Int.mul_le_mul_of_nonneg_left (by omega) (by omega)
        omega
      · exact g
    have q2 : q < 18446744073709551616 := by
      rcases Int.lt_or_le q 18446744073709551616 with g | g
      · exact g
      · exfalso
        have : b.m * 18446744073709551616 ≤ b.m * q := Int.mul_le_mul_of_nonneg_left g (by omega)
        omega
    have R := grow_rnd (neg := a.neg != b.neg) (cut := decide (r ≠ 0)) (away := up != (a.neg != b.neg)) (m := q) (e := a.e - b.e - 64) q1 q2 (by omega) (by omega)
    have E : ∀ k : Int, k * pw (a.e - b.e - 64) * b.W = (b.m * k) * (pw (a.e - 64) * pw 0) := by
      intro k
      rw [hb.W]
      have e := pw_mul (e := b.e) (f := a.e - b.e - 64) (by omega) (by omega) (by omega)
      rw [show b.e + (a.e - b.e - 64) = a.e - 64 by omega] at e
      have e' : k * pw (a.e - b.e - 64) * (b.m * pw b.e) = b.m * k * (pw b.e * pw (a.e - b.e - 64)) := by grind
      rw [e', e]; grind
    have ET : a.W * pw 0 = (a.m * 18446744073709551616) * (pw (a.e - 64) * pw 0) := by
      rw [ha.W]
      have e := pw_64 (e := a.e - 64) (by omega)
      rw [show a.e - 64 + 64 = a.e by omega] at e
      rw [e]; grind
    have pp : 0 ≤ pw (a.e - 64) * pw 0 := Int.le_of_lt (Int.mul_pos (pw_pos _) p0)
    refine R.side ?_ ?_ hT (Int.le_of_lt hb.lt.1)
    · rw [E, ET]; exact Int.mul_le_mul_of_nonneg_right (by omega) pp
    · rw [E, ET]
      refine Int.mul_le_mul_of_nonneg_right ?_ pp
      split
      · have : b.m * (q + 1) = b.m * q + b.m := by grind
        omega
      · rename_i h; simp only [decide_eq_true_eq] at h; omega

theorem zero_side (up : Bool) (c : Int) : Side Num.zero up 0 c :=
  ⟨Num.zero_may, Num.zero_ok, fun _ => ⟨by decide, .inr (by rw [Num.val_zero]; simp)⟩, fun _ => ⟨by decide, .inr (by rw [Num.val_zero]; simp)⟩⟩

/-- the product of two that are finite -/
theorem mul_side {a b : Num} (ma : a.may = true) (mb : b.may = true) (oa : a.ok) (ob : b.ok) (ka : a.kind ≠ 2) (kb : b.kind ≠ 2) (up : Bool) : Side (Num.mul a b up) up (a.val * b.val) (pw 0) := by
  unfold Num.mul
  rw [Num.fair_of_may ma, Num.fair_of_may mb]
  rcases Num.may3 ma oa with h | h | h
  · rw [if_pos (.inl (by rw [h]; rfl)), h, Num.val_zero, Int.zero_mul]; exact zero_side _ _
  · rcases Num.may3 mb ob with k | k | k
    · rw [if_pos (.inr (by rw [k]; rfl)), k, Num.val_zero, Int.mul_zero]; exact zero_side _ _
    · rw [if_neg (by rw [h.kind, k.kind]; decide), if_neg (by rw [h.kind, k.kind]; decide)]
      exact mulF_side h k up
    · rw [k] at kb; exact absurd rfl kb
  · rw [h] at ka; exact absurd rfl ka

theorem div_core {a b : Num} (ma : a.may = true) (mb : b.may = true) (oa : a.ok) (ob : b.ok) (hb : b.val ≠ 0) (up : Bool) :
    (b.kind = 2 ∧ Num.div a b up = Num.zero) ∨ (b.Fin ∧ a.kind = 2 ∧ Num.div a b up = Num.inf (a.neg != b.neg)) ∨
      (b.Fin ∧ a.kind ≠ 2 ∧ Side (Num.div a b up) up (if b.neg then -(a.val * pw 0) else a.val * pw 0) b.W) := by
  unfold Num.div
  rw [Num.fair_of_may ma, Num.fair_of_may mb]
  rcases Num.may3 mb ob with k | k | k
  · rw [k] at hb; exact absurd rfl hb
  · right
    rw [if_neg (by rw [k.kind]; decide)]
    rcases Num.may3 ma oa with h | h | h
    · right
      refine ⟨k, by rw [h]; decide, ?_⟩
      rw [if_pos (.inl (by rw [h]; rfl)), h, Num.val_zero]
      have : (if b.neg = true then -(0 * pw 0) else 0 * pw 0) = 0 := by split <;> simp
      rw [this]; exact zero_side _ _
    · right
      refine ⟨k, by rw [h.kind]; decide, ?_⟩
      rw [if_neg (by rw [h.kind, k.kind]; decide), if_neg (by rw [h.kind]; decide)]
      have e : (if b.neg = true then -(a.val * pw 0) else a.val * pw 0) = if (a.neg != b.neg) then -(a.W * pw 0) else a.W * pw 0 := by
        unfold Num.val; cases a.neg <;> cases b.neg <;> simp [Int.neg_mul]
      rw [e]
      exact divF_side h k up
    · left
      have ha : a.kind = 2 := by rw [h]; rfl
      refine ⟨k, ha, ?_⟩
      rw [if_neg (by rw [ha, k.kind]; decide), if_pos ha]
  · left
    have hk : b.kind = 2 := by rw [k]; rfl
    exact ⟨hk, by rw [if_neg (by rw [hk]; decide), if_pos (.inr hk)]⟩

theorem div_may {a b : Num} (ma : a.may = true) (mb : b.may = true) (oa : a.ok) (ob : b.ok) (hb : b.val ≠ 0) (up : Bool) : (Num.div a b up).may = true ∧ (Num.div a b up).ok := by
  rcases div_core ma mb oa ob hb up with h | h | h
  · rw [h.2]; exact ⟨Num.zero_may, Num.zero_ok⟩
  · rw [h.2.2]; exact ⟨Num.inf_may _, Num.inf_ok _⟩
  · exact ⟨h.2.2.may, h.2.2.ok⟩

/-- the quotient to below is not above v, which is v * w / w -/
theorem div_dn {a b : Num} {v w : Int} (ma : a.may = true) (mb : b.may = true) (oa : a.ok) (ob : b.ok) (hb : b.val ≠ 0) (hw : 0 < w) (hw' : w < pw 1048640) (hv : -pw 1048640 ≤ v)
    (hA : (a.kind = 2 ∧ a.neg ≠ b.neg) ∨ (a.kind ≠ 2 ∧ (if b.neg then -(a.val * pw 0) else a.val * pw 0) ≤ v * w))
    (h : (0 ≤ v ∧ w ≤ b.W) ∨ (v ≤ 0 ∧ b.W ≤ w)) : (Num.div a b false).val ≤ v := by
  rcases div_core ma mb oa ob hb false with ⟨k1, k2⟩ | ⟨k1, k2, k3⟩ | ⟨k1, k2, k3⟩
  · rw [k2, Num.val_zero]
    rcases h with h | h
    · exact h.1
    · have : b.W = pw 1048640 := by unfold Num.W; rw [k1]; rfl
      omega
  · rcases hA with hA | hA
    · rw [k3, Num.val_inf]
      have : (a.neg != b.neg) = true := by simpa using hA.2
      rw [this]; simpa using hv
    · exact absurd k2 hA.1
  · rcases hA with hA | hA
    · exact absurd hA.1 k2
    · rcases (k3.down rfl).2 with g | g
      · rw [g, Num.val_inf]; simpa using hv
      · have e1 : v * w ≤ v * b.W := by
          rcases h with h | h
          · exact Int.mul_le_mul_of_nonneg_left h.2 h.1
          · have := Int.mul_le_mul_of_nonneg_left h.2 (show 0 ≤ -v by omega)
            rw [Int.neg_mul, Int.neg_mul] at this; omega
        have := Int.le_trans g (Int.le_trans hA.2 e1)
        exact Int.le_of_mul_le_mul_right this k1.lt.1

theorem div_up {a b : Num} {v w : Int} (ma : a.may = true) (mb : b.may = true) (oa : a.ok) (ob : b.ok) (hb : b.val ≠ 0) (hw : 0 < w) (hw' : w < pw 1048640) (hv : v ≤ pw 1048640)
    (hA : (a.kind = 2 ∧ a.neg = b.neg) ∨ (a.kind ≠ 2 ∧ v * w ≤ (if b.neg then -(a.val * pw 0) else a.val * pw 0)))
    (h : (0 ≤ v ∧ b.W ≤ w) ∨ (v ≤ 0 ∧ w ≤ b.W)) : v ≤ (Num.div a b true).val := by
  rcases div_core ma mb oa ob hb true with ⟨k1, k2⟩ | ⟨k1, k2, k3⟩ | ⟨k1, k2, k3⟩
  · rw [k2, Num.val_zero]
    rcases h with h | h
    · have : b.W = pw 1048640 := by unfold Num.W; rw [k1]; rfl
      omega
    · exact h.1
  · rcases hA with hA | hA
    · rw [k3, Num.val_inf, hA.2]; simpa using hv
    · exact absurd k2 hA.1
  · rcases hA with hA | hA
    · exact absurd hA.1 k2
    · rcases (k3.up rfl).2 with g | g
      · rw [g, Num.val_inf]; simpa using hv
      · have e1 : v * b.W ≤ v * w := by
          rcases h with h | h
          · exact Int.mul_le_mul_of_nonneg_left h.2 h.1
          · have := Int.mul_le_mul_of_nonneg_left h.2 (show 0 ≤ -v by omega)
            rw [Int.neg_mul, Int.neg_mul] at this; omega
        have := Int.le_trans e1 (Int.le_trans hA.2 g)
        exact Int.le_of_mul_le_mul_right this k1.lt.1

/-- v is between what four corners make, if it is not below one to below and not above one to above -/
theorem corners_has {F : Num → Num → Bool → Num} {a b : Iv} {v : Int} (hF : ∀ x ∈ [a.lo, a.hi], ∀ y ∈ [b.lo, b.hi], ∀ up, (F x y up).may = true ∧ (F x y up).ok) (h1 : -pw 1048640 < v) (h2 : v < pw 1048640)
    (hd : ∃ x ∈ [a.lo, a.hi], ∃ y ∈ [b.lo, b.hi], (F x y false).val ≤ v) (hu : ∃ x ∈ [a.lo, a.hi], ∃ y ∈ [b.lo, b.hi], v ≤ (F x y true).val) :
    (Iv.corners F a b).Real ∧ (Iv.corners F a b).lo.val ≤ v ∧ v ≤ (Iv.corners F a b).hi.val := by
  have all : ∀ up, ∀ x ∈ [F a.lo b.lo up, F a.lo b.hi up, F a.hi b.lo up, F a.hi b.hi up], x.may = true ∧ x.ok := by
    intro up x hx
    simp only [List.mem_cons, List.not_mem_nil, or_false] at hx
    rcases hx with rfl | rfl | rfl | rfl <;> exact hF _ (by simp) _ (by simp) up
  have inl : ∀ up, ∀ x ∈ [a.lo, a.hi], ∀ y ∈ [b.lo, b.hi], F x y up ∈ [F a.lo b.lo up, F a.lo b.hi up, F a.hi b.lo up, F a.hi b.hi up] := by
    intro up x hx y hy
    simp only [List.mem_cons, List.not_mem_nil, or_false] at hx hy ⊢
    rcases hx with rfl | rfl <;> rcases hy with rfl | rfl <;> simp
  obtain ⟨l1, l2, l3, _⟩ := Num.least_spec _ (fun x hx => (all false x hx).2)
  obtain ⟨m1, m2, m3, _⟩ := Num.most_spec _ (fun x hx => (all true x hx).2)
  unfold Iv.corners
  obtain ⟨x, hx, y, hy, hd⟩ := hd
  obtain ⟨x', hx', y', hy', hu⟩ := hu
  have d := l3 _ (inl false x hx y hy)
  rw [Num.fair_of_may (hF x hx y hy false).1] at d
  have u := m3 _ (inl true x' hx' y' hy')
  rw [Num.fair_of_may (hF x' hx' y' hy' true).1] at u
  generalize Num.least _ = L at *
  generalize Num.most _ = M at *
  have R : (Iv.mk false L.fair M.fair).Real := by
    rw [Num.fair_of_may l1, Num.fair_of_may m1]
    exact ⟨rfl, l1, m1, l2, m2, by show L.val ≤ M.val; omega, by show L.val < _; omega, by show _ < M.val; omega⟩
  rw [Iv.make_real R]
  refine ⟨R, ?_, ?_⟩
  · show L.fair.val ≤ v; rw [Num.fair_of_may l1]; omega
  · show v ≤ M.fair.val; rw [Num.fair_of_may m1]; omega

theorem Iv.anyBad2 {a b : Iv} (ha : a.Real) (hb : b.Real) : Iv.anyBad [a, b] = false := by
  simp [Iv.anyBad, ha.good, hb.good]

theorem Iv.has_iff {x : Iv} {n : Num} (hn : n.ok) (o1 : x.lo.ok) (o2 : x.hi.ok) :
    Iv.has x n = true ↔ (n.fair.kind ≠ 2 ∧ x.Real ∧ x.lo.val ≤ n.fair.val ∧ n.fair.val ≤ x.hi.val) := by
  have mn := n.fair_may
  have on := Num.fair_ok hn
  have fv := Num.fin_val mn on
  unfold Iv.has Iv.point
  rcases Iv.make_cases hn hn with ⟨e, h⟩ | ⟨e, h⟩
  · rw [e]
    constructor
    · intro g; simp [Iv.none] at g
    · rintro ⟨k, _⟩
      have k' := fv.1 k
      exact absurd ⟨rfl, mn, mn, on, on, Int.le_refl _, k'.2, k'.1⟩ h
  · rw [e]
    have k : n.fair.kind ≠ 2 := fv.2 ⟨h.gt, h.lt⟩
    unfold Iv.within
    rw [h.fair]
    by_cases hx : x.Real
    · rw [hx.fair]
      simp only [hx.some, Bool.not_false, Bool.true_and, Bool.false_or, Bool.and_eq_true, decide_eq_true_eq]
      rw [Num.cmp_le hx.loo on, Num.cmp_le on hx.hio, Num.fair_of_may hx.lom, Num.fair_of_may hx.him, Num.fair_fair]
      exact ⟨fun g => ⟨k, hx, g⟩, fun g => g.2.2⟩
    · constructor
      · intro g
        exfalso
        apply hx
        have hm : x.may = true := by
          cases hh : x.may
          · rw [show x.fair = Iv.none by unfold Iv.fair; rw [if_neg (by simp [hh])]] at g
            simp [Iv.none] at g
          · rfl
        have he : x.empty = false := by
          cases hh : x.empty
          · rfl
          · rw [show x.fair = Iv.none by rw [Iv.empty_may hm hh]; rfl] at g
            simp [Iv.none] at g
        exact Iv.real_of hm he o1 o2
      · exact fun g => absurd g.2.1 hx

theorem Num.val_pos {n : Num} (m : n.may = true) (o : n.ok) : (0 < n.val → n.neg = false ∧ n.W = n.val ∧ n.sign = 1) ∧ (n.val < 0 → n.neg = true ∧ n.W = -n.val ∧ n.sign = -1) ∧ (n.val = 0 → n.sign = 0 ∧ n = Num.zero) := by
  rcases Num.sign_of m o with h | h | h
  · refine ⟨fun g => by omega, fun g => by omega, fun _ => ⟨h.1, h.2.2.2⟩⟩
  · refine ⟨fun g => ⟨h.2.2.2.1, by omega, h.1⟩, fun g => by omega, fun g => by omega⟩
  · refine ⟨fun g => by omega, fun g => ⟨h.2.2.2.1, by omega, h.1⟩, fun g => by omega⟩

theorem Num.inf_val {n : Num} (m : n.may = true) (o : n.ok) (k : n.kind = 2) : (n.neg = true ∧ n.val = -pw 1048640) ∨ (n.neg = false ∧ n.val = pw 1048640) := by
  have e := Num.inf_of m o k
  cases hn : n.neg
  · right; rw [e, hn]; exact ⟨rfl, rfl⟩
  · left; rw [e, hn]; exact ⟨rfl, rfl⟩

/-- what may be below, and above, an exact number -/
def Num.below (n : Num) (x : Int) : Prop := n = Num.inf true ∨ (n.kind ≠ 2 ∧ n.val * pw 0 ≤ x)
def Num.above (n : Num) (x : Int) : Prop := n = Num.inf false ∨ (n.kind ≠ 2 ∧ x ≤ n.val * pw 0)

theorem Num.below_neg {n : Num} {x : Int} (h : n.below x) (g : n.kind = 2) : n.neg = true := by
  rcases h with h | h
  · rw [h]; rfl
  · exact absurd g h.1
theorem Num.above_pos {n : Num} {x : Int} (h : n.above x) (g : n.kind = 2) : n.neg = false := by
  rcases h with h | h
  · rw [h]; rfl
  · exact absurd g h.1
theorem Num.below_le {n : Num} {x : Int} (h : n.below x) (g : n.kind ≠ 2) : n.val * pw 0 ≤ x := by
  rcases h with h | h
  · rw [h] at g; exact absurd rfl g
  · exact h.2
theorem Num.above_le {n : Num} {x : Int} (h : n.above x) (g : n.kind ≠ 2) : x ≤ n.val * pw 0 := by
  rcases h with h | h
  · rw [h] at g; exact absurd rfl g
  · exact h.2

theorem Iv.div_has {a b : Iv} {v w : Int} (ha : a.Real) (hb : b.Real) (hw : w ≠ 0) (b1 : b.lo.val ≤ w) (b2 : w ≤ b.hi.val) (w1 : -pw 1048640 < w) (w2 : w < pw 1048640)
    (v1 : -pw 1048640 < v) (v2 : v < pw 1048640) (a1 : a.lo.below (v * w)) (a2 : a.hi.above (v * w)) :
    (Iv.div a b).Real ∧ (Iv.div a b).lo.val ≤ v ∧ v ≤ (Iv.div a b).hi.val := by
  have pl := Num.val_pos hb.lom hb.loo
  have ph := Num.val_pos hb.him hb.hio
  have ql := Num.val_pos ha.lom ha.loo
  have qh := Num.val_pos ha.him ha.hio
  have P := pw_pos 1048640
  have kl := hb.lt
  have kh := hb.gt
  have em : (-v) * (-w) = v * w := by rw [Int.neg_mul_neg]
  have em2 : v * (-w) = -(v * w) := by rw [Int.mul_neg]
  unfold Iv.div
  rw [Iv.anyBad2 ha hb]
  rw [if_neg (by
    rintro (h | ⟨h, h'⟩)
    · cases h
    · have e1 : b.lo.val = 0 := by
        rcases Int.lt_trichotomy b.lo.val 0 with g | g | g
        · have := (pl.2.1 g).2.2; omega
        · exact g
        · have := (pl.1 g).2.2; omega
      have e2 : b.hi.val = 0 := by
        rcases Int.lt_trichotomy b.hi.val 0 with g | g | g
        · have := (ph.2.1 g).2.2; omega
        · exact g
        · have := (ph.1 g).2.2; omega
      omega)]
  by_cases c1 : 0 < b.lo.val
  · rw [if_pos (.inl (by rw [(pl.1 c1).2.2]; decide))]
    have c2 : 0 < b.hi.val := by omega
    have hw0 : 0 < w := by omega
    obtain ⟨l1, l2, l3⟩ := pl.1 c1
    obtain ⟨h1, h2, h3⟩ := ph.1 c2
    refine corners_has ?_ v1 v2 ?_ ?_
    · intro x hx y hy up
      simp only [List.mem_cons, List.not_mem_nil, or_false] at hx hy
      rcases hx with rfl | rfl <;> rcases hy with rfl | rfl <;> first | exact div_may ha.lom hb.lom ha.loo hb.loo (by omega) up | exact div_may ha.lom hb.him ha.loo hb.hio (by omega) up | exact div_may ha.him hb.lom ha.hio hb.loo (by omega) up | exact div_may ha.him hb.him ha.hio hb.hio (by omega) up
    · have hA : ∀ y : Num, y.neg = false → (a.lo.kind = 2 ∧ a.lo.neg ≠ y.neg) ∨ (a.lo.kind ≠ 2 ∧ (if y.neg then -(a.lo.val * pw 0) else a.lo.val * pw 0) ≤ v * w) := by
        intro y hy
        by_cases g : a.lo.kind = 2
        · exact .inl ⟨g, by rw [Num.below_neg a1 g, hy]; decide⟩
        · exact .inr ⟨g, by rw [hy]; exact Num.below_le a1 g⟩
      by_cases hv : 0 ≤ v
      · exact ⟨a.lo, by simp, b.hi, by simp, div_dn ha.lom hb.him ha.loo hb.hio (by omega) hw0 w2 (by omega) (hA _ h1) (.inl ⟨hv, by omega⟩)⟩
      · exact ⟨a.lo, by simp, b.lo, by simp, div_dn ha.lom hb.lom ha.loo hb.loo (by omega) hw0 w2 (by omega) (hA _ l1) (.inr ⟨by omega, by omega⟩)⟩
    · have hA : ∀ y : Num, y.neg = false → (a.hi.kind = 2 ∧ a.hi.neg = y.neg) ∨ (a.hi.kind ≠ 2 ∧ v * w ≤ (if y.neg then -(a.hi.val * pw 0) else a.hi.val * pw 0)) := by
        intro y hy
        by_cases g : a.hi.kind = 2
        · exact .inl ⟨g, by rw [Num.above_pos a2 g, hy]⟩
        · exact .inr ⟨g, by rw [hy]; exact Num.above_le a2 g⟩
      by_cases hv : 0 ≤ v
      · exact ⟨a.hi, by simp, b.lo, by simp, div_up ha.him hb.lom ha.hio hb.loo (by omega) hw0 w2 (by omega) (hA _ l1) (.inl ⟨hv, by omega⟩)⟩
      · exact ⟨a.hi, by simp, b.hi, by simp, div_up ha.him hb.him ha.hio hb.hio (by omega) hw0 w2 (by omega) (hA _ h1) (.inr ⟨by omega, by omega⟩)⟩
  by_cases c2 : b.hi.val < 0
  · rw [if_pos (.inr (by rw [(ph.2.1 c2).2.2]; decide))]
    have c3 : b.lo.val < 0 := by omega
    have hw0 : 0 < -w := by omega
    obtain ⟨l1, l2, l3⟩ := pl.2.1 c3
    obtain ⟨h1, h2, h3⟩ := ph.2.1 c2
    refine corners_has ?_ v1 v2 ?_ ?_
    · intro x hx y hy up
      simp only [List.mem_cons, List.not_mem_nil, or_false] at hx hy
      rcases hx with rfl | rfl <;> rcases hy with rfl | rfl <;> first | exact div_may ha.lom hb.lom ha.loo hb.loo (by omega) up | exact div_may ha.lom hb.him ha.loo hb.hio (by omega) up | exact div_may ha.him hb.lom ha.hio hb.loo (by omega) up | exact div_may ha.him hb.him ha.hio hb.hio (by omega) up
    · have hA : ∀ y : Num, y.neg = true → (a.hi.kind = 2 ∧ a.hi.neg ≠ y.neg) ∨ (a.hi.kind ≠ 2 ∧ (if y.neg then -(a.hi.val * pw 0) else a.hi.val * pw 0) ≤ v * (-w)) := by
        intro y hy
        by_cases g : a.hi.kind = 2
        · exact .inl ⟨g, by rw [Num.above_pos a2 g, hy]; decide⟩
        · exact .inr ⟨g, by rw [hy, em2]; have := Num.above_le a2 g; simp; omega⟩
      by_cases hv : 0 ≤ v
      · exact ⟨a.hi, by simp, b.lo, by simp, div_dn ha.him hb.lom ha.hio hb.loo (by omega) hw0 (by omega) (by omega) (hA _ l1) (.inl ⟨hv, by omega⟩)⟩
      · exact ⟨a.hi, by simp, b.hi, by simp, div_dn ha.him hb.him ha.hio hb.hio (by omega) hw0 (by omega) (by omega) (hA _ h1) (.inr ⟨by omega, by omega⟩)⟩
    · have hA : ∀ y : Num, y.neg = true → (a.lo.kind = 2 ∧ a.lo.neg = y.neg) ∨ (a.lo.kind ≠ 2 ∧ v * (-w) ≤ (if y.neg then -(a.lo.val * pw 0) else a.lo.val * pw 0)) := by
        intro y hy
        by_cases g : a.lo.kind = 2
        · exact .inl ⟨g, by rw [Num.below_neg a1 g, hy]⟩
        · exact .inr ⟨g, by rw [hy, em2]; have := Num.below_le a1 g; simp; omega⟩
      by_cases hv : 0 ≤ v
      · exact ⟨a.lo, by simp, b.hi, by simp, div_up ha.lom hb.him ha.loo hb.hio (by omega) hw0 (by omega) (by omega) (hA _ h1) (.inl ⟨hv, by omega⟩)⟩
      · exact ⟨a.lo, by simp, b.lo, by simp, div_up ha.lom hb.lom ha.loo hb.loo (by omega) hw0 (by omega) (by omega) (hA _ l1) (.inr ⟨by omega, by omega⟩)⟩
  have s1 : ¬ (0 < b.lo.sign ∨ b.hi.sign < 0) := by
    rintro (h | h)
    · rcases Int.lt_trichotomy b.lo.val 0 with g | g | g
      · have := (pl.2.1 g).2.2; omega
      · have := (pl.2.2 g).1; omega
      · exact c1 g
    · rcases Int.lt_trichotomy b.hi.val 0 with g | g | g
      · exact c2 g
      · have := (ph.2.2 g).1; omega
      · have := (ph.1 g).2.2; omega
  rw [if_neg s1]
  by_cases c3 : (b.lo.sign < 0 ∧ 0 < b.hi.sign) ∨ Iv.has a Num.zero = true
  · rw [if_pos c3]
    refine ⟨⟨rfl, Num.inf_may _, Num.inf_may _, Num.inf_ok _, Num.inf_ok _, ?_, ?_, ?_⟩, ?_, ?_⟩ <;> simp only [Iv.all, Num.val_inf] <;> simp <;> omega
  rw [if_neg c3]
  have c4 : ¬ (b.lo.sign < 0 ∧ 0 < b.hi.sign) := fun h => c3 (.inl h)
  have c5 : ¬ (a.lo.val ≤ 0 ∧ 0 ≤ a.hi.val) := fun h => c3 (.inr ((Iv.has_iff Num.zero_ok ha.loo ha.hio).2 ⟨by decide, ha, h.1, h.2⟩))
  have c6 : ¬ (b.lo.val < 0 ∧ 0 < b.hi.val) := fun h => c4 ⟨by rw [(pl.2.1 h.1).2.2]; decide, by rw [(ph.1 h.2).2.2]; decide⟩
  -- the nearest end of the dividend, the farthest one of the divisor
  have near : ∃ n, (if a.lo.sign < 0 then a.hi else a.lo) = n ∧ n.may = true ∧ n.ok ∧ n.kind ≠ 2 ∧ ((0 < n.val ∧ n.val * pw 0 ≤ v * w) ∨ (n.val < 0 ∧ v * w ≤ n.val * pw 0)) := by
    have := ha.lt; have := ha.gt; have := ha.le
    by_cases g : 0 < a.lo.val
    · have k := (Num.fin_val ha.lom ha.loo).2 ⟨by omega, by omega⟩
      exact ⟨a.lo, by rw [if_neg (by rw [(ql.1 g).2.2]; decide)], ha.lom, ha.loo, k, .inl ⟨g, Num.below_le a1 k⟩⟩
    · have g' : a.hi.val < 0 := by omega
      have k := (Num.fin_val ha.him ha.hio).2 ⟨by omega, by omega⟩
      exact ⟨a.hi, by rw [if_pos (by rw [(ql.2.1 (by omega)).2.2]; decide)], ha.him, ha.hio, k, .inr ⟨g', Num.above_le a2 k⟩⟩
  have far : ∃ f, (if b.hi.sign = 0 then b.lo else b.hi) = f ∧ f.may = true ∧ f.ok ∧ ((0 < f.val ∧ w ≤ f.val ∧ 0 < w) ∨ (f.val < 0 ∧ f.val ≤ w ∧ w < 0)) := by
    by_cases g : b.hi.val = 0
    · exact ⟨b.lo, by rw [if_pos (ph.2.2 g).1], hb.lom, hb.loo, .inr ⟨by omega, by omega, by omega⟩⟩
    · have g' : 0 < b.hi.val := by omega
      exact ⟨b.hi, by rw [if_neg (by rw [(ph.1 g').2.2]; decide)], hb.him, hb.hio, .inl ⟨by omega, by omega, by omega⟩⟩
  obtain ⟨n, en, nm, no, nk, n1⟩ := near
  obtain ⟨f, ef, fm, fo, f1⟩ := far
  rw [en, ef]
  have p0 := pw_pos 0
  have pn := Num.val_pos nm no
  have pf := Num.val_pos fm fo
  have vs : (0 < v * w → (0 < w → 0 < v) ∧ (w < 0 → v < 0)) ∧ (v * w < 0 → (0 < w → v < 0) ∧ (w < 0 → 0 < v)) := by
    refine ⟨fun h => ⟨fun g => ?_, fun g => ?_⟩, fun h => ⟨fun g => ?_, fun g => ?_⟩⟩
    · rcases Int.lt_or_le 0 v with k | k
      · exact k
      · have := Int.mul_nonneg (show 0 ≤ -v by omega) (show 0 ≤ w by omega); rw [Int.neg_mul] at this; omega
    · rcases Int.lt_or_le v 0 with k | k
      · exact k
      · have := Int.mul_nonneg k (show 0 ≤ -w by omega); rw [Int.mul_neg] at this; omega
    · rcases Int.lt_or_le v 0 with k | k
      · exact k
      · have := Int.mul_nonneg k (show 0 ≤ w by omega); omega
    · rcases Int.lt_or_le 0 v with k | k
      · exact k
      · have := Int.mul_nonneg (show 0 ≤ -v by omega) (show 0 ≤ -w by omega); rw [em] at this; omega
  have xs : (0 < n.val → 0 < v * w) ∧ (n.val < 0 → v * w < 0) := by
    constructor
    · intro g
      have := Int.mul_pos g p0
      rcases n1 with h | h <;> omega
    · intro g
      have := Int.mul_neg_of_neg_of_pos g p0
      rcases n1 with h | h <;> omega
  have fin : ∀ r : Num, r.may = true → r.ok → r.val ≤ v → (Iv.make r (Num.inf false)).Real ∧ (Iv.make r (Num.inf false)).lo.val ≤ v ∧ v ≤ (Iv.make r (Num.inf false)).hi.val := by
    intro r m o h
    have R : (Iv.mk false r.fair (Num.inf false).fair).Real := by
      rw [Num.fair_of_may m, Num.fair_of_may (Num.inf_may _)]
      refine ⟨rfl, m, Num.inf_may _, o, Num.inf_ok _, ?_, ?_, ?_⟩ <;> (try simp only [Num.val_inf]) <;> (try simp) <;> omega
    rw [Iv.make_real R]
    refine ⟨R, by show r.fair.val ≤ v; rw [Num.fair_of_may m]; exact h, ?_⟩
    show v ≤ (Num.inf false).fair.val
    rw [Num.fair_of_may (Num.inf_may _)]; show v ≤ pw 1048640; omega
  have fin' : ∀ r : Num, r.may = true → r.ok → v ≤ r.val → (Iv.make (Num.inf true) r).Real ∧ (Iv.make (Num.inf true) r).lo.val ≤ v ∧ v ≤ (Iv.make (Num.inf true) r).hi.val := by
    intro r m o h
    have R : (Iv.mk false (Num.inf true).fair r.fair).Real := by
      rw [Num.fair_of_may m, Num.fair_of_may (Num.inf_may _)]
      refine ⟨rfl, Num.inf_may _, m, Num.inf_ok _, o, ?_, ?_, ?_⟩ <;> (try simp only [Num.val_inf]) <;> (try simp) <;> omega
    rw [Iv.make_real R]
    refine ⟨R, ?_, by show v ≤ r.fair.val; rw [Num.fair_of_may m]; exact h⟩
    show (Num.inf true).fair.val ≤ v
    rw [Num.fair_of_may (Num.inf_may _)]; show -pw 1048640 ≤ v; omega
  unfold Iv.half
  rcases n1 with ⟨g1, g2⟩ | ⟨g1, g2⟩ <;> rcases f1 with ⟨k1, k2, k3⟩ | ⟨k1, k2, k3⟩
  · obtain ⟨t1, t2, t3⟩ := pn.1 g1
    obtain ⟨u1, u2, u3⟩ := pf.1 k1
    rw [if_pos (by omega)]
    have m := div_may nm fm no fo (show f.val ≠ 0 by omega) false
    have vp := (vs.1 (xs.1 g1)).1 k3
    exact fin _ m.1 m.2 (div_dn nm fm no fo (by omega) k3 w2 (by omega) (.inr ⟨nk, by rw [u1]; exact g2⟩) (.inl ⟨by omega, by omega⟩))
  · obtain ⟨t1, t2, t3⟩ := pn.1 g1
    obtain ⟨u1, u2, u3⟩ := pf.2.1 k1
    rw [if_neg (by omega)]
    have m := div_may nm fm no fo (show f.val ≠ 0 by omega) true
    have vp := (vs.1 (xs.1 g1)).2 k3
    exact fin' _ m.1 m.2 (div_up (w := -w) nm fm no fo (by omega) (by omega) (by omega) (by omega) (.inr ⟨nk, by rw [u1, em2]; simp; omega⟩) (.inr ⟨by omega, by omega⟩))
  · obtain ⟨t1, t2, t3⟩ := pn.2.1 g1
    obtain ⟨u1, u2, u3⟩ := pf.1 k1
    rw [if_neg (by omega)]
    have m := div_may nm fm no fo (show f.val ≠ 0 by omega) true
    have vp := (vs.2 (xs.2 g1)).1 k3
    exact fin' _ m.1 m.2 (div_up nm fm no fo (by omega) k3 w2 (by omega) (.inr ⟨nk, by rw [u1]; exact g2⟩) (.inr ⟨by omega, by omega⟩))
  · obtain ⟨t1, t2, t3⟩ := pn.2.1 g1
    obtain ⟨u1, u2, u3⟩ := pf.2.1 k1
    rw [if_pos (by omega)]
    have m := div_may nm fm no fo (show f.val ≠ 0 by omega) false
    have vp := (vs.2 (xs.2 g1)).2 k3
    exact fin _ m.1 m.2 (div_dn (w := -w) nm fm no fo (by omega) (by omega) (by omega) (by omega) (.inr ⟨nk, by rw [u1, em2]; simp; omega⟩) (.inl ⟨by omega, by omega⟩))

theorem Iv.point_real {n : Num} (m : n.may = true) (o : n.ok) (k : n.kind ≠ 2) : Iv.point n = ⟨false, n, n⟩ ∧ (Iv.mk false n n).Real := by
  have k' := (Num.fin_val m o).1 k
  have R : (Iv.mk false n n).Real := ⟨rfl, m, m, o, o, Int.le_refl _, k'.2, k'.1⟩
  refine ⟨?_, R⟩
  unfold Iv.point
  rw [Iv.make_real (by rw [Num.fair_of_may m]; exact R), Num.fair_of_may m]

theorem Iv.mul_points {y z : Num} (my : y.may = true) (mz : z.may = true) (oy : y.ok) (oz : z.ok) (ky : y.kind ≠ 2) (kz : z.kind ≠ 2) :
    (Iv.mul (Iv.point y) (Iv.point z)).Real ∧ (Iv.mul (Iv.point y) (Iv.point z)).lo.below (y.val * z.val) ∧ (Iv.mul (Iv.point y) (Iv.point z)).hi.above (y.val * z.val) := by
  obtain ⟨ey, ry⟩ := Iv.point_real my oy ky
  obtain ⟨ez, rz⟩ := Iv.point_real mz oz kz
  rw [ey, ez]
  unfold Iv.mul
  rw [Iv.anyBad2 ry rz, if_neg (by decide)]
  unfold Iv.corners
  dsimp only
  have d := mul_side my mz oy oz ky kz false
  have u := mul_side my mz oy oz ky kz true
  generalize Num.mul y z false = p at *
  generalize Num.mul y z true = q at *
  obtain ⟨d1, d2⟩ := d.down rfl
  obtain ⟨u1, u2⟩ := u.up rfl
  have p0 := pw_pos 0
  have P := pw_pos 1048640
  obtain ⟨l1, l2, l3, l4⟩ := Num.least_spec [p, p, p, p] (by simp [d.ok])
  obtain ⟨m1, m2, m3, m4⟩ := Num.most_spec [q, q, q, q] (by simp [u.ok])
  have dv := (Num.ne_inf d.may d.ok).1.1 d1
  have uv := (Num.ne_inf u.may u.ok).2.1 u1
  have el : Num.least [p, p, p, p] = p := by
    have a := l3 p (by simp)
    rw [Num.fair_of_may d.may] at a
    rcases l4 with l4 | ⟨x, hx, l4⟩
    · rw [l4, Num.val_inf] at a; simp at a; omega
    · have : x = p := by simpa using hx
      rw [l4, this, Num.fair_of_may d.may]
  have em : Num.most [q, q, q, q] = q := by
    have a := m3 q (by simp)
    rw [Num.fair_of_may u.may] at a
    rcases m4 with m4 | ⟨x, hx, m4⟩
    · rw [m4, Num.val_inf] at a; simp at a; omega
    · have : x = q := by simpa using hx
      rw [m4, this, Num.fair_of_may u.may]
  rw [el, em]
  have pk : p = Num.inf true ∨ (p.kind ≠ 2 ∧ p.val * pw 0 ≤ y.val * z.val) := by
    rcases d2 with h | h
    · exact .inl h
    · by_cases hk : p.kind = 2
      · rcases Num.inf_val d.may d.ok hk with g | g
        · exact .inl (by rw [Num.inf_of d.may d.ok hk, g.1])
        · exact absurd (by rw [Num.inf_of d.may d.ok hk, g.1]) d1
      · exact .inr ⟨hk, h⟩
  have qk : q = Num.inf false ∨ (q.kind ≠ 2 ∧ y.val * z.val ≤ q.val * pw 0) := by
    rcases u2 with h | h
    · exact .inl h
    · by_cases hk : q.kind = 2
      · rcases Num.inf_val u.may u.ok hk with g | g
        · exact absurd (by rw [Num.inf_of u.may u.ok hk, g.1]) u1
        · exact .inl (by rw [Num.inf_of u.may u.ok hk, g.1])
      · exact .inr ⟨hk, h⟩
  have le : p.val ≤ q.val := by
    rcases pk with h | h
    · rw [h, Num.val_inf]; have := Num.val_le u.may u.ok; simp; omega
    · rcases qk with k | k
      · rw [k, Num.val_inf]; have := Num.val_le d.may d.ok; simp; omega
      · exact Int.le_of_mul_le_mul_right (Int.le_trans h.2 k.2) p0
  have R : (Iv.mk false p.fair q.fair).Real := by
    rw [Num.fair_of_may d.may, Num.fair_of_may u.may]
    exact ⟨rfl, d.may, u.may, d.ok, u.ok, le, dv, uv⟩
  rw [Iv.make_real R]
  refine ⟨R, ?_, ?_⟩
  · show p.fair.below _; rw [Num.fair_of_may d.may]; exact pk
  · show q.fair.above _; rw [Num.fair_of_may u.may]; exact qk

/-- a number times a divisor, divided by it, is within the quotient -/
theorem quotients {b : Iv} {y z : Num} (oy : y.ok) (oz : z.ok) (o1 : b.lo.ok) (o2 : b.hi.ok) (h1 : Iv.has b y = true) (h2 : y.sign ≠ 0) (h3 : z.kind ≠ 2) (h4 : z.may = true) :
    Iv.has (Iv.div (Iv.mul (Iv.point y) (Iv.point z)) b) z = true := by
  obtain ⟨k, R, l, u⟩ := (Iv.has_iff oy o1 o2).1 h1
  have my : y.may = true := by
    cases hh : y.may
    · exfalso; apply h2
      have e : y.fair = Num.zero := by unfold Num.fair; rw [if_neg (by simp [hh])]
      unfold Num.sign; rw [e]; rfl
    · rfl
  rw [Num.fair_of_may my] at k l u
  obtain ⟨r1, r2, r3⟩ := Iv.mul_points my h4 oy oz k h3
  have vy := (Num.fin_val my oy).1 k
  have vz := (Num.fin_val h4 oz).1 h3
  have hy : y.val ≠ 0 := fun g => h2 ((Num.val_pos my oy).2.2 g).1
  rw [Int.mul_comm] at r2 r3
  obtain ⟨q1, q2, q3⟩ := Iv.div_has r1 R hy l u vy.1 vy.2 vz.1 vz.2 r2 r3
  exact (Iv.has_iff oz q1.loo q1.hio).2 ⟨by rw [Num.fair_of_may h4]; exact h3, q1, by rw [Num.fair_of_may h4]; exact q2, by rw [Num.fair_of_may h4]; exact q3⟩
end Go.Proofs.YtaiillbjhdoikaaGreat.Ev

/- Whole numbers as numbers, the opposite, how far from nought, the square: plain Lean. -/
namespace Go.Proofs.YtaiillbjhdoikaaGreat.Ev
open Go

theorem E_br_t {P : Program} {E : Env} (hE : E = realE P) {c : Bool} {t f : Unit → Prop} (h : c = true) (ht : t ()) : E.br c t f := by
  subst hE; exact ⟨fun _ => ht, fun h' => (by rw [h] at h'; cases h')⟩
theorem E_br_f {P : Program} {E : Env} (hE : E = realE P) {c : Bool} {t f : Unit → Prop} (h : c = false) (hf : f ()) : E.br c t f := by
  subst hE; exact ⟨fun h' => (by rw [h] at h'; cases h'), fun _ => hf⟩

def Num.ofInt (n : Int) : Num :=
  if n = 0 then Num.zero else ⟨1, decide (n < 0), IntKind.u64.wrap ((n.natAbs : Int) * 2 ^ min (Int.toNat (64 - blen n.natAbs)) IntKind.u64.bits), IntKind.i64.wrap (0 - (64 - blen n.natAbs))⟩
def Iv.neg (a : Iv) : Iv := if Iv.anyBad [a] then Iv.none else Iv.make a.hi.opp a.lo.opp
end Go.Proofs.YtaiillbjhdoikaaGreat.Ev

/- Contracts of the reference: the product of two numbers. Printed by gen.py. -/
namespace Go.Proofs.YtaiillbjhdoikaaGreat.Ev
open Go Go.Proofs
set_option linter.unusedVariables false
set_option linter.unusedSimpArgs false

attribute [local irreducible] Lb
theorem k_rRound (p : Bool × Nat × Int) (up : Bool) (hp : (lim p.2.1).length ≤ 62500) (ep : -9223372036854775808 ≤ p.2.2 ∧ p.2.2 < 9223372036854775808) (x : Bool × List Int × Int) (hx : x = dyL p) : ∃ t : Num, t = dyRound p up ∧
    CallsA Tryz.prog 94 [.agg [.bool (.s x.1), .sli .u32 x.2.1, .int .i64 (.s x.2.2)], .bool (.s up)] t.av := by
  subst hx
  obtain ⟨t, ht, hC⟩ := c_rRound p.1 (lim p.2.1) p.2.2 up (lim_lb _) hp ep
  refine ⟨t, ?_, hC⟩
  rw [ht, lv_lim]; rfl
end Go.Proofs.YtaiillbjhdoikaaGreat.Ev

/- Sums and differences of two numbers, the parts: plain Lean. -/
namespace Go.Proofs.YtaiillbjhdoikaaGreat.Ev
open Go

structure Dbl where
  hi : Int
  lo : Int
  cut : Bool
def Dbl.av (d : Dbl) : AV := .agg [.int .u64 (.s d.hi), .int .u64 (.s d.lo), .bool (.s d.cut)]
theorem Dbl.fin {t r : Dbl} (h : t = r) : t.hi = r.hi ∧ t.lo = r.lo ∧ t.cut = r.cut ∧ True := by subst h; exact ⟨rfl, rfl, rfl, trivial⟩

/-- the sum of two of one sign: 128 bits, or one more -/
def plusX (a b : Num) : Int := a.m * 18446744073709551616 + b.m * 18446744073709551616 / 2 ^ (a.e - b.e).toNat
def plusC (a b : Num) : Bool := decide (b.m * 18446744073709551616 % 2 ^ (a.e - b.e).toNat ≠ 0)
def plusP (a b : Num) (up : Bool) : Num :=
  if plusX a b < 340282366920938463463374607431768211456 then Num.grow a.neg (plusX a b / 18446744073709551616) a.e (plusC a b || decide (plusX a b % 18446744073709551616 ≠ 0)) (up != a.neg)
  else Num.grow a.neg (plusX a b / 36893488147419103232) (a.e + 1) (plusC a b || decide (plusX a b % 36893488147419103232 ≠ 0)) (up != a.neg)

section
variable {a b : Num} {up : Bool} {D : Dbl}
end
end Go.Proofs.YtaiillbjhdoikaaGreat.Ev

/- Division of two words by one: plain Lean. -/
namespace Go.Proofs.YtaiillbjhdoikaaGreat.Ev
open Go

section
variable {y u un q r : Int}

end
end Go.Proofs.YtaiillbjhdoikaaGreat.Ev

/- The difference of two numbers: plain Lean. -/
namespace Go.Proofs.YtaiillbjhdoikaaGreat.Ev
open Go

def minusZ (a b : Num) : Int := a.m * 18446744073709551616 - b.m * 18446744073709551616 / 2 ^ (a.e - b.e).toNat - (if plusC a b then 1 else 0)
def minusP (a b : Num) (up : Bool) : Num :=
  Num.grow a.neg (minusZ a b * 2 ^ (128 - blen (minusZ a b)).toNat / 18446744073709551616) (a.e - (128 - blen (minusZ a b))) (plusC a b || decide (minusZ a b * 2 ^ (128 - blen (minusZ a b)).toNat % 18446744073709551616 ≠ 0)) (up != a.neg)

section
variable {a b : Num} {up : Bool} {D : Dbl}
end
end Go.Proofs.YtaiillbjhdoikaaGreat.Ev

/- The sum of two numbers: plain Lean. -/
namespace Go.Proofs.YtaiillbjhdoikaaGreat.Ev
open Go

def Num.addS (a b : Num) (up : Bool) : Num := if a.neg = b.neg then plusP a b up else if a.e = b.e ∧ a.m = b.m then Num.zero else minusP a b up
def Num.addF (a b : Num) (up : Bool) : Num := if a.e < b.e ∨ (a.e = b.e ∧ a.m < b.m) then Num.addS b a up else Num.addS a b up
def Num.add (a b : Num) (up : Bool) : Num :=
  if a.fair.kind = 2 ∧ b.fair.kind = 2 ∧ a.fair.neg ≠ b.fair.neg then Num.inf (!up)
  else if a.fair.kind = 2 ∨ b.fair.kind = 0 then a.fair else if b.fair.kind = 2 ∨ a.fair.kind = 0 then b.fair else Num.addF a.fair b.fair up
end Go.Proofs.YtaiillbjhdoikaaGreat.Ev

/- The sum of intervals: plain Lean. -/
namespace Go.Proofs.YtaiillbjhdoikaaGreat.Ev
open Go

def Iv.addStep (p : Num × Num) (x : Iv) : Num × Num := (Num.add p.1 x.lo false, Num.add p.2 x.hi true)
def Iv.addEnds : List Iv → Num × Num
  | [] => (Num.zero, Num.zero)
  | x :: r => r.foldl Iv.addStep (x.lo, x.hi)
def Iv.add (l : List Iv) : Iv := if Iv.anyBad l then Iv.none else Iv.make (Iv.addEnds l).1 (Iv.addEnds l).2
end Go.Proofs.YtaiillbjhdoikaaGreat.Ev

/- Whole numbers as numbers are exact: plain Lean. -/
namespace Go.Proofs.YtaiillbjhdoikaaGreat.Ev
open Go

end Go.Proofs.YtaiillbjhdoikaaGreat.Ev

/- What a rounded number is: of all numbers on its side of the exact one the nearest. Plain Lean. -/
namespace Go.Proofs.YtaiillbjhdoikaaGreat.Ev
open Go

/-- the nearest one on a side of t / c -/
structure Best (r : Num) (up : Bool) (t c : Int) : Prop where
  may : r.may = true
  ok : r.ok
  down : up = false → r ≠ Num.inf false ∧ (r = Num.inf true ∨ r.val * c ≤ t)
  dopt : up = false → ∀ s : Num, s.may = true → s.ok → s ≠ Num.inf false → s.val * c ≤ t → s.val ≤ r.val
  uopt : up = true → ∀ s : Num, s.may = true → s.ok → s ≠ Num.inf true → t ≤ s.val * c → r.val ≤ s.val
  hi : up = true → r ≠ Num.inf true ∧ (r = Num.inf false ∨ t ≤ r.val * c)

theorem Best.side {r : Num} {up : Bool} {t c : Int} (h : Best r up t c) : Side r up t c := ⟨h.may, h.ok, h.down, h.hi⟩

theorem Best.mono {r r' : Num} {up : Bool} {t c t' c' : Int} (h : Best r up t c) (h' : Best r' up t' c') (hc : 0 < c) (hc' : 0 < c') (ht : t * c' ≤ t' * c) : r.val ≤ r'.val := by
  have key : ∀ v : Int, v * c ≤ t → v * c' ≤ t' := by
    intro v hv
    have h1 : v * c * c' ≤ t * c' := Int.mul_le_mul_of_nonneg_right hv (Int.le_of_lt hc')
    refine Int.le_of_mul_le_mul_right (a := c) ?_ hc
    have : v * c' * c = v * c * c' := by grind
    omega
  have key2 : ∀ v : Int, t' ≤ v * c' → t ≤ v * c := by
    intro v hv
    have h1 : t' * c ≤ v * c' * c := Int.mul_le_mul_of_nonneg_right hv (Int.le_of_lt hc)
    refine Int.le_of_mul_le_mul_right (a := c') ?_ hc'
    have : v * c' * c = v * c * c' := by grind
    omega
  cases up with
  | false =>
    obtain ⟨d1, d2⟩ := h.down rfl
    rcases d2 with d2 | d2
    · have := (Num.val_le h'.may h'.ok).1
      rw [d2, Num.val_inf]
      simpa using this
    · exact h'.dopt rfl r h.may h.ok d1 (key _ d2)
  | true =>
    obtain ⟨d1, d2⟩ := h'.hi rfl
    rcases d2 with d2 | d2
    · have := (Num.val_le h.may h.ok).2
      rw [d2, Num.val_inf]
      simpa using this
    · exact h.uopt rfl r' h'.may h'.ok d1 (key2 _ d2)

theorem Best.uniq {r r' : Num} {up : Bool} {t c t' c' : Int} (h : Best r up t c) (h' : Best r' up t' c') (hc : 0 < c) (hc' : 0 < c') (ht : t * c' = t' * c) : r = r' :=
  Num.val_inj h.may h'.may h.ok h'.ok (Int.le_antisymm (h.mono h' hc hc' (by omega)) (h'.mono h hc' hc (by omega)))

/-- what is a number is not rounded -/
theorem Best.exact {r s : Num} {up : Bool} {t c : Int} (h : Best r up t c) (hc : 0 < c) (ms : s.may = true) (os : s.ok) (ks : s.kind ≠ 2) (ht : s.val * c = t) : r = s := by
  have n : ∀ b, s ≠ Num.inf b := fun b g => ks (by rw [g]; rfl)
  refine h.uniq (t' := s.val) (c' := 1) ⟨ms, os, fun _ => ⟨n _, .inr (by omega)⟩, fun _ x _ _ _ hx => by omega, fun _ x _ _ _ hx => by omega, fun _ => ⟨n _, .inr (by omega)⟩⟩ hc (by decide) (by omega)

/-- down is not above up -/
theorem Best.le {r r' : Num} {t c : Int} (h : Best r false t c) (h' : Best r' true t c) (hc : 0 < c) : r.val ≤ r'.val := by
  obtain ⟨d1, d2⟩ := h.down rfl
  obtain ⟨e1, e2⟩ := h'.hi rfl
  rcases d2 with d2 | d2
  · have := (Num.val_le h'.may h'.ok).1
    rw [d2, Num.val_inf]
    simpa using this
  · rcases e2 with e2 | e2
    · have := (Num.val_le h.may h.ok).2
      rw [e2, Num.val_inf]
      simpa using this
    · exact Int.le_of_mul_le_mul_right (a := c) (by omega) hc

end Go.Proofs.YtaiillbjhdoikaaGreat.Ev

/- Products, quotients and sums are rounded as they ought to be: plain Lean. -/
namespace Go.Proofs.YtaiillbjhdoikaaGreat.Ev
open Go

end Go.Proofs.YtaiillbjhdoikaaGreat.Ev

/- The reference's rounding is the best; its products and quotients are the program's: plain Lean. -/
namespace Go.Proofs.YtaiillbjhdoikaaGreat.Ev
open Go

theorem Best.scale {r : Num} {up : Bool} {t c : Int} (h : Best r up t 1) (hc : 0 < c) : Best r up (t * c) c := by
  refine ⟨h.may, h.ok, fun u => ⟨(h.down u).1, ?_⟩, fun u s ms os ks hs => ?_, fun u s ms os ks hs => ?_, fun u => ⟨(h.hi u).1, ?_⟩⟩
  · rcases (h.down u).2 with k | k
    · exact .inl k
    · exact .inr (Int.mul_le_mul_of_nonneg_right (by omega) (Int.le_of_lt hc))
  · exact h.dopt u s ms os ks (by have := Int.le_of_mul_le_mul_right hs hc; omega)
  · exact h.uopt u s ms os ks (by have := Int.le_of_mul_le_mul_right hs hc; omega)
  · rcases (h.hi u).2 with k | k
    · exact .inl k
    · exact .inr (Int.mul_le_mul_of_nonneg_right (by omega) (Int.le_of_lt hc))

end Go.Proofs.YtaiillbjhdoikaaGreat.Ev

/- The reference's quotients are the program's: plain Lean. -/
namespace Go.Proofs.YtaiillbjhdoikaaGreat.Ev
open Go

/-- a quotient's bits, and whether something was cut off -/
def ratioM (ka kb : Nat) : Nat := 2 * (ka * 2 ^ (70 + blen (kb : Int)).toNat / kb) + (if ka * 2 ^ (70 + blen (kb : Int)).toNat % kb = 0 then 0 else 1)
def ratioP (na : Bool) (ka : Nat) (nb : Bool) (kb : Nat) (e : Int) (up : Bool) : Num :=
  if kb = 0 then Num.inf (!up) else dyRound (dyMake ((na != nb) && decide (ratioM ka kb ≠ 0)) (ratioM ka kb) (e - (70 + blen (kb : Int)) - 1)) up

end Go.Proofs.YtaiillbjhdoikaaGreat.Ev

/- Contracts of the reference: the ratio of two whole numbers. Printed by gen.py. -/
namespace Go.Proofs.YtaiillbjhdoikaaGreat.Ev
open Go Go.Proofs
set_option linter.unusedVariables false
set_option linter.unusedSimpArgs false

attribute [local irreducible] Lb
theorem c_r7sticky (m : List Int) (cut : Bool) (h : Lb m) (hl : m.length ≤ 100000) : ∃ t : List Int, t = lim (2 * lv m + (if cut = true then 1 else 0)) ∧ CallsA Tryz.prog 93 [.sli .u32 m, .bool (.s cut)] (.sli .u32 t) := by
  refine ⟨_, rfl, ?_⟩
  generalize hr : lim (2 * lv m + (if cut = true then 1 else 0)) = r
  have r1 : cut = true → lim (2 * lv m + 1) = r := by intro z; rw [← hr, if_pos z]
  have r0 : cut = false → lim (2 * lv m) = r := by intro z; rw [← hr, z]; rfl
  have l1 : Lb [(1 : Int)] := Lb.cons (by decide) (by decide) Lb.nil
  have sh : ∀ s, s = (if (1 : Int) < 1 then lim (lv m) else if 16777216 < (1 : Int) then [] else lim (lv m * 2 ^ (1 : Int).toNat)) → s = lim (2 * lv m) ∧ Lb s ∧ s.length < 268435456 := by
    intro s hs
    rw [if_neg (by decide), if_neg (by decide), show (2 : Nat) ^ (1 : Int).toNat = 2 from rfl, Nat.mul_comm] at hs
    refine ⟨hs, by rw [hs]; exact lim_lb _, ?_⟩
    have l := lv_lt h
    have : (lim (2 * lv m)).length ≤ m.length + 1 := lim_length_le (by rw [Nat.pow_succ]; omega)
    rw [hs]; omega
  refine callsA_of hG hm Tryz.func93 (by kernel_rfl) ?_
  intro E hE lp hl'
  cbv
  (apply E_callX hE (c_rShl _ 1 h ?_); (case hf => rfl); (case hc => (cbv <;> trivial)); (case hle => exact u_up); all_goals (first | (intro s hs; cbv) | (exact Nat.lt_of_le_of_lt hl (by decide))))
  have S := sh s hs
  have es : E.sub [1] 0 1 = [1] := by subst hE; rfl
  refine E_br hE (fun g => ?_) (fun g => ?_) <;> cbv
  · (apply E_callX hE (c_rAdd _ _ S.2.1 ?_ S.2.2 ?_); (case hf => rfl); (case hc => (cbv <;> trivial)); (case hle => exact u_up); all_goals (first | (intro u hu; cbv) | (first | (show Lb (E.sub [1] 0 1); rw [es]; exact l1) | (show (E.sub [1] 0 1).length < 268435456; rw [es]; show (1 : Nat) < 268435456; decide))))
    have k : u = lim (lv s + lv (E.sub [1] 0 1)) := hu
    rw [es, S.1, lv_lim] at k
    rw [k]; exact r1 g
  · rw [S.1]; exact r0 g

/-! ### the ratio, step by step -/
theorem ratio_by {b : List Int} {n by_ : Int} (hb : Lb b) (hlb : b.length ≤ 1000) (hn : n = blen (lv b : Int)) (h : by_ = IntKind.i64.wrap (70 + n)) : by_ = 70 + blen (lv b : Int) ∧ 70 ≤ by_ ∧ by_ ≤ 33000 := by
  have bb := lv_blen hb
  have b0 := blen_nonneg (lv b : Int)
  rw [h, hn, wi64]
  omega
theorem ratio_len {a : List Int} {y X : Nat} (ha : Lb a) (hla : a.length ≤ 1000) (hy : y ≤ 33000) (hX : X ≤ lv a * 2 ^ y) : (lim X).length ≤ 3000 := by
  have l := lv_lt ha
  have p : (2 : Nat) ^ y ≤ 2 ^ (32 * (y / 32 + 1)) := Nat.pow_le_pow_right (by decide) (by omega)
  rw [Nat.pow_mul] at p
  have lt : X < 4294967296 ^ (a.length + (y / 32 + 1)) := by
    rw [Nat.pow_add]
    exact Nat.lt_of_le_of_lt hX (Nat.mul_lt_mul_of_lt_of_le l p (Nat.pow_pos (by decide)))
  have := lim_length_le lt
  omega
theorem ratio_shl {a s : List Int} {y : Int} (ha : Lb a) (hla : a.length ≤ 1000) (hy : 70 ≤ y ∧ y ≤ 33000) (hs : s = if y < 1 then lim (lv a) else if 16777216 < y then [] else lim (lv a * 2 ^ y.toNat)) :
    Lb s ∧ s.length < 67108864 ∧ lv s = lv a * 2 ^ y.toNat := by
  rw [if_neg (by omega), if_neg (by omega)] at hs
  rw [hs]
  exact ⟨lim_lb _, Nat.lt_of_le_of_lt (ratio_len ha hla (by omega) (Nat.le_refl _)) (by decide), lv_lim _⟩
theorem ratio_div {a b s : List Int} {y : Int} {d : List Int × List Int × Bool} (ha : Lb a) (hla : a.length ≤ 1000) (hy : 70 ≤ y ∧ y ≤ 33000) (hs : lv s = lv a * 2 ^ y.toNat) (z : lv b ≠ 0)
    (hd : d = if lv b = 0 then ([], [], false) else (lim (lv s / lv b), lim (lv s % lv b), true)) : Lb d.1 ∧ d.1.length ≤ 3000 ∧ lv d.1 = lv s / lv b ∧ (d.2.1.length = 0 ↔ lv s % lv b = 0) := by
  rw [if_neg z] at hd
  rw [hd]
  refine ⟨lim_lb _, ratio_len ha hla (by omega : y.toNat ≤ 33000) (by rw [hs]; exact Nat.div_le_self _ _), lv_lim _, ?_⟩
  show (lim (lv s % lv b)).length = 0 ↔ _
  exact ⟨fun q => lim_eq_nil.1 (List.length_eq_zero_iff.1 q), fun q => by rw [q]; rfl⟩
theorem ratio_M {a b s m : List Int} {y : Int} {d : List Int × List Int × Bool} {c : Bool} (ha : Lb a) (hla : a.length ≤ 1000) (hy : 70 ≤ y ∧ y ≤ 33000) (hb : y = 70 + blen (lv b : Int)) (hs : lv s = lv a * 2 ^ y.toNat)
    (D : Lb d.1 ∧ d.1.length ≤ 3000 ∧ lv d.1 = lv s / lv b ∧ (d.2.1.length = 0 ↔ lv s % lv b = 0)) (hc : c = decide ((0 : Int) < (d.2.1.length : Int))) (hm' : m = lim (2 * lv d.1 + (if c = true then 1 else 0))) :
    Lb m ∧ m.length ≤ 3001 ∧ lv m = ratioM (lv a) (lv b) := by
  have e : lv m = ratioM (lv a) (lv b) := by
    rw [hm', lv_lim, D.2.2.1, hc, hs]
    unfold ratioM
    rw [← hb]
    rw [hs] at D
    by_cases z : lv a * 2 ^ y.toNat % lv b = 0
    · rw [if_pos z, decide_eq_false (by have := D.2.2.2.2 z; omega)]; rfl
    · rw [if_neg z, decide_eq_true (by have : d.2.1.length ≠ 0 := fun q => z (D.2.2.2.1 q)
                                       omega), if_pos rfl]
  refine ⟨by rw [hm']; exact lim_lb _, ?_, e⟩
  have k := D.2.1
  have l := lv_lt D.1
  rw [hm']
  obtain ⟨n, hn⟩ : ∃ n, n = 3000 := ⟨_, rfl⟩
  rw [← hn] at k
  have p : (4294967296 : Nat) ^ d.1.length ≤ 4294967296 ^ n := Nat.pow_le_pow_right (by decide) k
  have : 2 * lv d.1 + (if c = true then 1 else 0) < 4294967296 ^ (n + 1) := by
    rw [Nat.pow_succ]
    generalize (4294967296 : Nat) ^ n = q at p ⊢
    split <;> omega
  have := lim_length_le this
  omega
theorem ratio_P {na nb : Bool} {a b m : List Int} {e f y : Int} {up : Bool} {w : Bool × List Int} (hb : y = 70 + blen (lv b : Int)) (hy : 70 ≤ y ∧ y ≤ 33000) (he : -8000000 ≤ e ∧ e ≤ 8000000) (z : lv b ≠ 0)
    (M : Lb m ∧ m.length ≤ 3001 ∧ lv m = ratioM (lv a) (lv b)) (hw : w = ((na != nb) && decide (lv m ≠ 0), lim (lv m))) (hf : f = IntKind.i64.wrap (IntKind.i64.wrap (e - y) - 1)) :
    Lb w.2 ∧ w.2.length ≤ 3001 ∧ (-9223372036854775808 ≤ f ∧ f < 9223372036854775808) ∧
      (lim (dyMake w.1 (lv w.2) f).2.1).length ≤ 62500 ∧ (-9223372036854775808 ≤ (dyMake w.1 (lv w.2) f).2.2 ∧ (dyMake w.1 (lv w.2) f).2.2 < 9223372036854775808) ∧ dyRound (dyMake w.1 (lv w.2) f) up = ratioP na (lv a) nb (lv b) e up := by
  have hf' : f = e - y - 1 := by rw [hf, wi64, wi64]; omega
  have hl : (lim (lv m)).length ≤ 3001 := Nat.le_trans (lim_len_of M.1 (Nat.le_refl _)) M.2.1
  have w2 : w.2 = lim (lv m) := by rw [hw]
  have w1 : w.1 = ((na != nb) && decide (lv m ≠ 0)) := by rw [hw]
  have r := dyMake_rng w.1 (lv w.2) f
  refine ⟨by rw [w2]; exact lim_lb _, by rw [w2]; exact hl, by omega, ?_, by omega, ?_⟩
  · rw [w2, lv_lim] at r ⊢
    have := lim_len_of M.1 (k := (dyMake w.1 (lv m) f).2.1) r.2.2
    have := M.2.1
    omega
  · unfold ratioP
    rw [if_neg z, w2, lv_lim, w1, M.2.2, hf', hb]
theorem c_r7ratio (na : Bool) (a : List Int) (nb : Bool) (b : List Int) (e : Int) (up : Bool) (ha : Lb a) (hb : Lb b) (hla : a.length ≤ 1000) (hlb : b.length ≤ 1000) (he : -8000000 ≤ e ∧ e ≤ 8000000) :
    ∃ t : Num, t = ratioP na (lv a) nb (lv b) e up ∧ CallsA Tryz.prog 76 [.agg [.bool (.s na), .sli .u32 a], .agg [.bool (.s nb), .sli .u32 b], .int .i64 (.s e), .bool (.s up)] t.av := by
  refine ⟨_, rfl, ?_⟩
  obtain ⟨r, hr⟩ : ∃ r, ratioP na (lv a) nb (lv b) e up = r := ⟨_, rfl⟩
  rw [hr]
  obtain ⟨Q, hQ⟩ : ∃ Q : Num → Prop, ∀ r, Q r ↔ ratioP na (lv a) nb (lv b) e up = r := ⟨_, fun _ => Iff.rfl⟩
  have hq := (hQ r).2 hr
  clear hr
  have zer : lv b = 0 → ∀ t, t = Num.inf (!up) → t = r := by intro z t ht; rw [← (hQ r).1 hq, ht]; unfold ratioP; rw [if_pos z]
  have fin : ∀ t, t = ratioP na (lv a) nb (lv b) e up → t = r := fun t ht => ht.trans ((hQ r).1 hq)
  clear hQ hq Q
  refine callsA_of hG hm Tryz.func76 (by kernel_rfl) ?_
  intro E hE lp hl'
  cbv
  (apply E_callX hE (c_r2Sign _ _ hb ?_); (case hf => rfl); (case hc => (cbv <;> trivial)); (case hle => exact u_up); all_goals (first | (intro sg hsg; cbv) | (exact Nat.le_trans hlb (by decide))))
  have sgz : sg = 0 ↔ lv b = 0 := by
    have h : sg = (if lv b = 0 then 0 else if nb = true then -1 else 1 : Int) := hsg
    rw [h]
    constructor
    · intro q
      rcases Nat.eq_zero_or_pos (lv b) with k | k
      · exact k
      · exfalso
        rw [if_neg (by omega)] at q
        split at q <;> omega
    · intro q; rw [if_pos q]
  clear hsg
  refine E_br hE (fun g1 => ?_) (fun g1 => ?_) <;> cbv
  · have z : lv b = 0 := sgz.1 (by subst hE; exact eql_t g1)
    (apply E_callX hE (c_rInf _); (case hf => rfl); (case hc => (cbv <;> trivial)); (case hle => exact u_up); all_goals (first | (intro t ht; cbv) | (assumption)))
    have T : t = r := zer z t (by subst hE; exact ht)
    rw [T]; exact ⟨rfl, rfl, rfl, rfl, trivial⟩
  have nz : lv b ≠ 0 := fun z => (eql_f (by subst hE; exact g1) : ¬ sg = 0) (sgz.2 z)
  clear sgz zer g1
  (apply E_callX hE (c_rLen _ hb ?_); (case hf => rfl); (case hc => (cbv <;> trivial)); (case hle => exact u_up); all_goals (first | (intro n hn; cbv) | (exact Nat.le_trans hlb (by decide))))
  refine E_nm hE (fun by_ hby => ?_)
  have B := ratio_by hb hlb hn (by subst hE; exact hby)
  clear hn hby
  cbv
  (apply E_pcallX hE (c_rShl _ by_ ha ?_); (case hm => rfl); (case hle => exact u_up); all_goals (first | (intro s hs; cbv) | (exact Nat.lt_of_le_of_lt hla (by decide))))
  have S := ratio_shl ha hla B.2 hs
  clear hs
  (apply E_pcallX hE (c_rDiv _ _ S.1 hb S.2.1 ?_); (case hm => rfl); (case hle => exact u_up); all_goals (first | (intro d hd; cbv) | (exact Nat.lt_of_le_of_lt hlb (by decide))))
  have D := ratio_div ha hla B.2 S.2.2 nz hd
  clear hd
  (apply E_callX hE (c_r7sticky _ _ D.1 ?_); (case hf => rfl); (case hc => (cbv <;> trivial)); (case hle => exact u_up); all_goals (first | (intro m hm_; cbv) | (exact Nat.le_trans D.2.1 (by decide))))
  have M := ratio_M (c := E.cmp .gtr (E.len d.2.1) 0) ha hla B.2 B.1 S.2.2 D (by subst hE; rfl) hm_
  clear hm_
  (apply E_callX hE (c_r2Make _ _ M.1 ?_); (case hf => rfl); (case hc => (cbv <;> trivial)); (case hle => exact u_up); all_goals (first | (intro w hw; cbv) | (exact Nat.le_trans M.2.1 (by decide))))
  have P := ratio_P (na := na) (nb := nb) (up := up) (f := E.bin .sub .i64 (E.bin .sub .i64 e by_) 1) B.1 B.2 he nz M (by have k := hw; subst hE; exact k) (by subst hE; rfl)
  clear hw
  (apply E_callX hE (k_r3Make _ _ _ P.1 ?_ ?_); (case hf => rfl); (case hc => (cbv <;> trivial)); (case hle => exact u_up); all_goals (first | (intro y hy; cbv) | (first | exact Nat.le_trans P.2.1 (by decide) | exact P.2.2.1)))
  (apply E_callX hE (k_rRound (dyMake w.1 (lv w.2) (E.bin .sub .i64 (E.bin .sub .i64 e by_) 1)) up P.2.2.2.1 P.2.2.2.2.1 ⟨_, _, _⟩ ?_); (case hf => rfl); (case hc => (cbv <;> trivial)); (case hle => exact u_up); all_goals (first | (intro t ht; cbv) | (exact hy)))
  have T : t = r := fin t (ht.trans P.2.2.2.2.2)
  rw [T]; exact ⟨rfl, rfl, rfl, rfl, trivial⟩

end Go.Proofs.YtaiillbjhdoikaaGreat.Ev

/- The reference's sums are the program's: plain Lean. -/
namespace Go.Proofs.YtaiillbjhdoikaaGreat.Ev
open Go

/-- the sum of two whole numbers with signs -/
def wsum (na : Bool) (ka : Nat) (nb : Bool) (kb : Nat) : Bool × Nat :=
  if na = nb then (na && decide (ka + kb ≠ 0), ka + kb) else if ka < kb then (nb && decide (kb - ka ≠ 0), kb - ka) else (na && decide (ka - kb ≠ 0), ka - kb)
end Go.Proofs.YtaiillbjhdoikaaGreat.Ev

/- Contracts of the reference: the quotient of two numbers. Printed by gen.py. -/
namespace Go.Proofs.YtaiillbjhdoikaaGreat.Ev
open Go Go.Proofs
set_option linter.unusedVariables false
set_option linter.unusedSimpArgs false

attribute [local irreducible] Lb
end Go.Proofs.YtaiillbjhdoikaaGreat.Ev

/- The reference's order of numbers is the program's: plain Lean. -/
namespace Go.Proofs.YtaiillbjhdoikaaGreat.Ev
open Go

def Num.rcmp (x y : Num) : Int :=
  if x.fair.sign ≠ y.fair.sign then (if x.fair.sign < y.fair.sign then -1 else 1)
  else if x.fair.sign = 0 ∨ x.fair = y.fair then 0
  else if x.fair.kind = 2 ∨ (y.fair.kind ≠ 2 ∧ (y.fair.e < x.fair.e ∨ (x.fair.e = y.fair.e ∧ y.fair.m < x.fair.m))) then x.fair.sign else IntKind.i64.wrap (0 - x.fair.sign)
theorem more_iff {A B : Num} (mA : A.may = true) (mB : B.may = true) (oA : A.ok) (oB : B.ok) (kA : A.kind ≠ 0) (kB : B.kind ≠ 0) (hn : A.neg = B.neg) (hne : A ≠ B) :
    (A.kind = 2 ∨ (B.kind ≠ 2 ∧ (B.e < A.e ∨ (A.e = B.e ∧ B.m < A.m)))) ↔ B.W < A.W := by
  rw [← Num.farther_iff mA mB oA oB]
  unfold Num.farther
  rcases Num.may3 mA oA with h | h | h
  · rw [h] at kA; exact absurd rfl kA
  · have a1 := h.kind
    rcases Num.may3 mB oB with k | k | k
    · rw [k] at kB; exact absurd rfl kB
    · have b1 := k.kind
      rw [if_neg (by rw [a1, b1]; decide)]
      split
      · rw [decide_eq_true_eq]; omega
      · rw [decide_eq_true_eq]; omega
    · have b1 : B.kind = 2 := by rw [k]; rfl
      rw [if_pos (by omega), decide_eq_true_eq]; omega
  · have a1 : A.kind = 2 := by rw [h]; rfl
    rcases Num.may3 mB oB with k | k | k
    · rw [k] at kB; exact absurd rfl kB
    · have b1 := k.kind
      rw [if_pos (by omega), decide_eq_true_eq]; omega
    · exact absurd (by rw [h, k, hn]) hne
theorem rcmp_eq {x y : Num} (ox : x.ok) (oy : y.ok) : Num.rcmp x y = Num.cmp x y := by
  have S := Num.cmp_spec ox oy
  have mA := x.fair_may
  have mB := y.fair_may
  have oA := Num.fair_ok ox
  have oB := Num.fair_ok oy
  unfold Num.rcmp
  generalize Num.cmp x y = c at *
  generalize x.fair = A at *
  generalize y.fair = B at *
  have sA := Num.sign_of mA oA
  have sB := Num.sign_of mB oB
  have w1 : IntKind.i64.wrap (0 - 1) = -1 := by decide
  have w2 : IntKind.i64.wrap (0 - -1) = 1 := by decide
  by_cases h : A.sign = B.sign
  · rw [if_neg (by omega)]
    by_cases h0 : A.sign = 0 ∨ A = B
    · rw [if_pos h0]
      rcases h0 with h0 | h0
      · omega
      · rw [h0] at S; omega
    · rw [if_neg h0]
      have hne : A ≠ B := fun e => h0 (.inr e)
      have vne : A.val ≠ B.val := fun e => hne (Num.val_inj mA mB oA oB e)
      rcases sA with sA | sA | sA
      · omega
      · rcases sB with sB | sB | sB
        · omega
        · have M := more_iff mA mB oA oB sA.2.2.2.2 sB.2.2.2.2 (by rw [sA.2.2.2.1, sB.2.2.2.1]) hne
          rw [sA.1, w1]
          split
          · rename_i q; have := M.1 q; omega
          · rename_i q
            have : ¬ B.W < A.W := fun k => q (M.2 k)
            omega
        · omega
      · rcases sB with sB | sB | sB
        · omega
        · omega
        · have M := more_iff mA mB oA oB sA.2.2.2.2 sB.2.2.2.2 (by rw [sA.2.2.2.1, sB.2.2.2.1]) hne
          rw [sA.1, w2]
          split
          · rename_i q; have := M.1 q; omega
          · rename_i q
            have : ¬ B.W < A.W := fun k => q (M.2 k)
            omega
  · rw [if_pos h]
    split <;> omega
end Go.Proofs.YtaiillbjhdoikaaGreat.Ev

/- Contracts: words of 64 bits. Printed by gen.py out of C3.spec. -/
namespace Go.Proofs.YtaiillbjhdoikaaGreat.Ev
open Go Go.Proofs
set_option linter.unusedVariables false
set_option linter.unusedSimpArgs false

end Go.Proofs.YtaiillbjhdoikaaGreat.Ev

/- Contracts: the product. Printed by gen.py out of C4.spec. -/
namespace Go.Proofs.YtaiillbjhdoikaaGreat.Ev
open Go Go.Proofs
set_option linter.unusedVariables false
set_option linter.unusedSimpArgs false

end Go.Proofs.YtaiillbjhdoikaaGreat.Ev

namespace Go.Proofs.YtaiillbjhdoikaaGreat.Ev
open Go Go.Proofs
set_option linter.unusedVariables false

end Go.Proofs.YtaiillbjhdoikaaGreat.Ev

/- Contracts: the operations on intervals. -/
namespace Go.Proofs.YtaiillbjhdoikaaGreat.Ev
open Go Go.Proofs
set_option linter.unusedVariables false
end Go.Proofs.YtaiillbjhdoikaaGreat.Ev

/- Contracts of the reference: the order of numbers, the least and the greatest. Printed by gen.py. -/
namespace Go.Proofs.YtaiillbjhdoikaaGreat.Ev
open Go Go.Proofs
set_option linter.unusedVariables false
set_option linter.unusedSimpArgs false
theorem c_r0Cmp (x : Num) (y : Num)  : ∃ t : Int, t = Num.rcmp x y ∧ CallsA Tryz.prog 98 [x.av, y.av] (.int .i64 (.s t)) := by
  refine ⟨_, rfl, ?_⟩
  generalize hr : Num.rcmp x y = r
  refine callsA_of hG hm Tryz.func98 (by kernel_rfl) ?_
  intro E hE lp hl
  cbv
  repeat' (first
    | (apply E_br_t hE; assumption; cbv)
    | (apply E_br_f hE; assumption; cbv)
    | (refine E_br hE (fun h => ?_) (fun h => ?_) <;> cbv)
    | (refine E_nm hE (fun v hv => ?_); cbv)
    | (apply E_callX hE (c_rFair ⟨_, _, _, _⟩); (case hf => rfl); (case hc => (cbv <;> trivial)); (case hle => exact u_up); intro t ht; cbv)
    | (apply E_callX hE (c_rSign ⟨_, _, _, _⟩); (case hf => rfl); (case hc => (cbv <;> trivial)); (case hle => exact u_up); intro t ht; cbv)
    | fail)
  all_goals (subst hE; subst hr)
  all_goals (try simp only [realE, cmp_eql, cmp_neq, cmp_lss, cmp_leq, cmp_gtr, cmp_geq, intBinR, decide_eq_true_eq, decide_eq_false_iff_not, SI.val, SB.val, Num.eta, Iv.eta] at *)
  all_goals (simp only [Num.rcmp])
  all_goals (try subst_vars)
  all_goals (try simp_all [Num.eq_iff])
  all_goals (try (intros; omega))
  all_goals (rw [if_neg (fun k => ‹x.fair.kind = y.fair.kind → x.fair.neg = y.fair.neg → ¬ x.fair.m = y.fair.m› k.1 k.2.1 k.2.2), if_neg (by omega)])

theorem c_r5Cmp (x y : Num) (ox : x.ok) (oy : y.ok) : ∃ t : Int, t = Num.cmp x y ∧ CallsA Tryz.prog 98 [x.av, y.av] (.int .i64 (.s t)) := by
  obtain ⟨t, ht, hC⟩ := c_r0Cmp x y
  exact ⟨t, ht.trans (rcmp_eq ox oy), hC⟩

end Go.Proofs.YtaiillbjhdoikaaGreat.Ev

/- The reference's intervals are the program's: plain Lean. -/
namespace Go.Proofs.YtaiillbjhdoikaaGreat.Ev
open Go

end Go.Proofs.YtaiillbjhdoikaaGreat.Ev

/- Contracts of the reference: intervals. Printed by gen.py. -/
namespace Go.Proofs.YtaiillbjhdoikaaGreat.Ev
open Go Go.Proofs
set_option linter.unusedVariables false
set_option linter.unusedSimpArgs false

theorem c_r8None   : ∃ t : Iv, t = Iv.none ∧ CallsA Tryz.prog 90 [] (t.av) := by
  refine ⟨_, rfl, ?_⟩
  generalize hr : Iv.none = r
  refine callsA_of hG hm Tryz.func90 (by kernel_rfl) ?_
  intro E hE lp hl
  cbv
  repeat' (first
    | (refine E_br hE (fun h => ?_) (fun h => ?_) <;> cbv)
    | (refine E_nm hE (fun v hv => ?_); cbv)
    | fail)
  all_goals (subst hE; subst hr)
  all_goals (try simp only [realE, cmp_eql, cmp_neq, cmp_lss, cmp_leq, cmp_gtr, cmp_geq, intBinR, decide_eq_true_eq, decide_eq_false_iff_not, SI.val, SB.val, Num.eta, Iv.eta] at *)
  all_goals (try simp_all [Iv.none, Num.zero])
  all_goals (try omega)
  all_goals (try simp only [Bool.and_assoc])
  all_goals (try rfl)
  all_goals ((repeat' split) <;> (try simp_all) <;> (try omega))

theorem c_r8May (x : Iv) (o1 : x.lo.ok) (o2 : x.hi.ok) : ∃ t : Bool, t = x.may ∧ CallsA Tryz.prog 89 [x.av] (.bool (.s t)) := by
  refine ⟨_, rfl, ?_⟩
  generalize hr : x.may = r
  refine callsA_of hG hm Tryz.func89 (by kernel_rfl) ?_
  intro E hE lp hl
  cbv
  repeat' (first
    | (refine E_br hE (fun h => ?_) (fun h => ?_) <;> cbv)
    | (refine E_nm hE (fun v hv => ?_); cbv)
    | (apply E_pcallX hE (c_r8None ); (case hm => rfl); (case hle => exact u_up); intro t ht; cbv)
    | (apply E_callX hE (c_rMay ⟨_, _, _, _⟩); (case hf => rfl); (case hc => (cbv <;> trivial)); (case hle => exact u_up); intro t ht; cbv)
    | (apply E_pcallX hE (c_r5Cmp ⟨_, _, _, _⟩ ⟨_, _, _, _⟩ ?_ ?_); (case hm => rfl); (case hle => exact u_up); all_goals (first | (intro t ht; cbv) | (subst hE; (try simp only [realE, cmp_eql, cmp_neq, cmp_lss, cmp_leq, cmp_gtr, cmp_geq, intBinR, decide_eq_true_eq, decide_eq_false_iff_not, SI.val, SB.val, Num.eta, Iv.eta] at *); first | assumption | omega)))
    | (apply E_pcallX hE (c_rInf _); (case hm => rfl); (case hle => exact u_up); intro t ht; cbv)
    | fail)
  all_goals (subst hE; subst hr)
  all_goals (try simp only [realE, cmp_eql, cmp_neq, cmp_lss, cmp_leq, cmp_gtr, cmp_geq, intBinR, decide_eq_true_eq, decide_eq_false_iff_not, SI.val, SB.val, Num.eta, Iv.eta] at *)
  all_goals (try simp_all [Iv.may, Iv.none, Num.zero, Iv.eq_iff, Num.eq_iff, Num.inf])
  all_goals (try omega)
  all_goals (try simp only [Bool.and_assoc])
  all_goals (try rfl)
  all_goals ((repeat' split) <;> (try simp_all) <;> (try omega))

theorem c_r8Fair (x : Iv) (o1 : x.lo.ok) (o2 : x.hi.ok) : ∃ t : Iv, t = x.fair ∧ CallsA Tryz.prog 74 [x.av] (t.av) := by
  refine ⟨_, rfl, ?_⟩
  generalize hr : x.fair = r
  refine callsA_of hG hm Tryz.func74 (by kernel_rfl) ?_
  intro E hE lp hl
  cbv
  repeat' (first
    | (refine E_br hE (fun h => ?_) (fun h => ?_) <;> cbv)
    | (refine E_nm hE (fun v hv => ?_); cbv)
    | (apply E_callX hE (c_r8May ⟨_, ⟨_, _, _, _⟩, ⟨_, _, _, _⟩⟩ ?_ ?_); (case hf => rfl); (case hc => (cbv <;> trivial)); (case hle => exact u_up); all_goals (first | (intro t ht; cbv) | (subst hE; (try simp only [realE, cmp_eql, cmp_neq, cmp_lss, cmp_leq, cmp_gtr, cmp_geq, intBinR, decide_eq_true_eq, decide_eq_false_iff_not, SI.val, SB.val, Num.eta, Iv.eta] at *); first | assumption | omega)))
    | (apply E_callX hE (c_r8None ); (case hf => rfl); (case hc => (cbv <;> trivial)); (case hle => exact u_up); intro t ht; cbv)
    | fail)
  all_goals (subst hE; subst hr)
  all_goals (try simp only [realE, cmp_eql, cmp_neq, cmp_lss, cmp_leq, cmp_gtr, cmp_geq, intBinR, decide_eq_true_eq, decide_eq_false_iff_not, SI.val, SB.val, Num.eta, Iv.eta] at *)
  all_goals (try simp_all [Iv.fair])
  all_goals (try omega)
  all_goals (try simp only [Bool.and_assoc])
  all_goals (try rfl)
  all_goals ((repeat' split) <;> (try simp_all) <;> (try omega))

theorem c_r8Make (lo hi : Num) (o1 : lo.ok) (o2 : hi.ok) : ∃ t : Iv, t = Iv.make lo hi ∧ CallsA Tryz.prog 58 [lo.av, hi.av] t.av := by
  refine ⟨_, rfl, ?_⟩
  rw [Iv.make_eq]
  generalize hr : Iv.fair ⟨false, lo.fair, hi.fair⟩ = r
  have f1 := Num.fair_ok o1
  have f2 := Num.fair_ok o2
  refine callsA_of hG hm Tryz.func58 (by kernel_rfl) ?_
  intro E hE lp hl'
  cbv
  (apply E_pcallX hE (c_r6Fair ⟨_, _, _, _⟩); (case hm => rfl); (case hle => exact u_up); all_goals (first | (intro a ha; cbv) | (assumption)))
  (apply E_pcallX hE (c_r6Fair ⟨_, _, _, _⟩); (case hm => rfl); (case hle => exact u_up); all_goals (first | (intro b hb; cbv) | (assumption)))
  (apply E_pcallX hE (c_r8Fair ⟨_, ⟨_, _, _, _⟩, ⟨_, _, _, _⟩⟩ ?_ ?_); (case hm => rfl); (case hle => exact u_up); all_goals (first | (intro t ht; cbv) | (first | (show a.ok; rw [show a = lo.fair from ha]; exact f1) | (show b.ok; rw [show b = hi.fair from hb]; exact f2))))
  have T : t = r := by
    rw [← hr, ← show a = lo.fair from ha, ← show b = hi.fair from hb]; exact ht
  rw [T]; exact ⟨rfl, rfl, rfl, rfl, rfl, rfl, rfl, rfl, rfl, trivial⟩
end Go.Proofs.YtaiillbjhdoikaaGreat.Ev

/- Contracts of the reference: the sum of two numbers. Printed by gen.py. -/
namespace Go.Proofs.YtaiillbjhdoikaaGreat.Ev
open Go Go.Proofs
set_option linter.unusedVariables false
set_option linter.unusedSimpArgs false

attribute [local irreducible] Lb
theorem sum_len {a b : List Int} (ha : Lb a) (hb : Lb b) : (lim (lv a + lv b)).length ≤ a.length + b.length + 1 := by
  have l1 := lv_lt ha
  have l2 := lv_lt hb
  have p1 : (4294967296 : Nat) ^ a.length ≤ 4294967296 ^ (a.length + b.length) := Nat.pow_le_pow_right (by decide) (by omega)
  have p2 : (4294967296 : Nat) ^ b.length ≤ 4294967296 ^ (a.length + b.length) := Nat.pow_le_pow_right (by decide) (by omega)
  refine lim_length_le ?_
  rw [Nat.pow_succ]; omega
theorem c_r2Add (na : Bool) (a : List Int) (nb : Bool) (b : List Int) (ha : Lb a) (hb : Lb b) (hla : a.length ≤ 100000) (hlb : b.length ≤ 100000) :
    ∃ t : Bool × List Int, t = ((wsum na (lv a) nb (lv b)).1, lim (wsum na (lv a) nb (lv b)).2) ∧ CallsA Tryz.prog 25 [.agg [.bool (.s na), .sli .u32 a], .agg [.bool (.s nb), .sli .u32 b]] (.agg [.bool (.s t.1), .sli .u32 t.2]) := by
  refine ⟨_, rfl, ?_⟩
  generalize hr : (((wsum na (lv a) nb (lv b)).1, lim (wsum na (lv a) nb (lv b)).2) : Bool × List Int) = r
  have same : na = nb → ∀ s : List Int, s = lim (lv a + lv b) → Lb s ∧ s.length ≤ 268435456 ∧ ∀ t : Bool × List Int, t = (na && decide (lv s ≠ 0), lim (lv s)) → t = r := by
    intro h s hs
    refine ⟨by rw [hs]; exact lim_lb _, by rw [hs]; have := sum_len ha hb; omega, fun t ht => ?_⟩
    rw [ht, ← hr, hs, lv_lim]; unfold wsum; rw [if_pos h]
  have less : na ≠ nb → lv a < lv b → ∀ s : List Int, s = lim (lv b - lv a) → Lb s ∧ s.length ≤ 268435456 ∧ ∀ t : Bool × List Int, t = (nb && decide (lv s ≠ 0), lim (lv s)) → t = r := by
    intro h g s hs
    refine ⟨by rw [hs]; exact lim_lb _, by rw [hs]; have := lim_len_of hb (Nat.sub_le (lv b) (lv a)); omega, fun t ht => ?_⟩
    rw [ht, ← hr, hs, lv_lim]; unfold wsum; rw [if_neg h, if_pos g]
  have more : na ≠ nb → ¬ lv a < lv b → ∀ s : List Int, s = lim (lv a - lv b) → Lb s ∧ s.length ≤ 268435456 ∧ ∀ t : Bool × List Int, t = (na && decide (lv s ≠ 0), lim (lv s)) → t = r := by
    intro h g s hs
    refine ⟨by rw [hs]; exact lim_lb _, by rw [hs]; have := lim_len_of ha (Nat.sub_le (lv a) (lv b)); omega, fun t ht => ?_⟩
    rw [ht, ← hr, hs, lv_lim]; unfold wsum; rw [if_neg h, if_neg g]
  have subs : ∀ (x y : List Int) (s : List Int × Bool), s = (if lv x < lv y then ([], false) else (lim (lv x - lv y), true)) → (s.2 = false → lv x < lv y) ∧ (s.2 = true → ¬ lv x < lv y ∧ s.1 = lim (lv x - lv y)) := by
    intro x y s hs
    subst hs
    by_cases k : lv x < lv y
    · rw [if_pos k]; exact ⟨fun _ => k, fun h => by cases h⟩
    · rw [if_neg k]; exact ⟨fun h => by (cases h), fun _ => ⟨k, rfl⟩⟩
  have subs2 : ∀ (x y : List Int) (s : List Int × Bool), lv y < lv x → s = (if lv x < lv y then ([], false) else (lim (lv x - lv y), true)) → s.1 = lim (lv x - lv y) := by
    intro x y s h hs
    rw [hs, if_neg (by omega)]
  clear hr
  refine callsA_of hG hm Tryz.func25 (by kernel_rfl) ?_
  intro E hE lp hl'
  cbv
  refine E_br hE (fun g => ?_) (fun g => ?_) <;> cbv
  · have gn : na = nb := by subst hE; have k : (na == nb) = true := g; simpa using k
    (apply E_pcallX hE (c_rAdd _ _ ha hb ?_ ?_); (case hm => rfl); (case hle => exact u_up); all_goals (first | (intro s hs; cbv) | (first | exact Nat.lt_of_le_of_lt hla (by decide) | exact Nat.lt_of_le_of_lt hlb (by decide))))
    have S := same gn s hs
    (apply E_pcallX hE (c_r2Make _ _ S.1 S.2.1); (case hm => rfl); (case hle => exact u_up); all_goals (first | (intro t ht; cbv) | (assumption)))
    rw [← S.2.2 t ht]; exact ⟨rfl, rfl, trivial⟩
  · have gn : na ≠ nb := by subst hE; have k : (na == nb) = false := g; simpa using k
    (apply E_callX hE (c_rSub _ _ ha hb ?_ ?_); (case hf => rfl); (case hc => (cbv <;> trivial)); (case hle => exact u_up); all_goals (first | (intro s hs; cbv) | (first | exact Nat.lt_of_le_of_lt hla (by decide) | exact Nat.lt_of_le_of_lt hlb (by decide))))
    have D := subs a b s hs
    clear hs
    refine E_br hE (fun g2 => ?_) (fun g2 => ?_) <;> cbv
    · have S := more gn (D.2 g2).1 s.1 (D.2 g2).2
      (apply E_callX hE (c_r2Make _ _ S.1 S.2.1); (case hf => rfl); (case hc => (cbv <;> trivial)); (case hle => exact u_up); all_goals (first | (intro t ht; cbv) | (assumption)))
      rw [← S.2.2 t ht]; exact ⟨rfl, rfl, trivial⟩
    · have lt := D.1 g2
      (apply E_callX hE (c_rSub _ _ hb ha ?_ ?_); (case hf => rfl); (case hc => (cbv <;> trivial)); (case hle => exact u_up); all_goals (first | (intro u hu; cbv) | (first | exact Nat.lt_of_le_of_lt hla (by decide) | exact Nat.lt_of_le_of_lt hlb (by decide))))
      have S := less gn lt u.1 (subs2 b a u lt hu)
      (apply E_callX hE (c_r2Make _ _ S.1 S.2.1); (case hf => rfl); (case hc => (cbv <;> trivial)); (case hle => exact u_up); all_goals (first | (intro t ht; cbv) | (assumption)))
      rw [← S.2.2 t ht]; exact ⟨rfl, rfl, trivial⟩

/-- of an exponent that is not too far from nought, if any -/
def Num.near (n : Num) : Prop := n.kind = 1 → -50000 ≤ n.e ∧ n.e ≤ 50000
end Go.Proofs.YtaiillbjhdoikaaGreat.Ev

/- Handing on within: a place in the call's own memory becomes what is only read, ahead of a loop. -/
namespace Go.Proofs.YtaiillbjhdoikaaGreat.Ev
open Go Go.RowKit
set_option linter.unusedVariables false
set_option linter.unusedSimpArgs false

def isMs : AV → Bool
  | .ms _ _ _ _ => true
  | _ => false

section
variable {P : Program} {G : Nat → TI}

/-- AHEAD OF A LOOP: what a temporary has of the call's own memory is only read from here on. -/
theorem E_frz {E : Env} (hE : E = realE P) {n : Nat} {lp : Code → St → (Ex → St → Prop) → Prop} (hlp : Loops P n lp) {c : Code} {t : List (Nat × AV)} {h : List Blk} {K : Ex → St → Prop}
    (d : Nat) {y : AV} {h' : List Blk} {v : AV} (hd : lookT t d = v) (hv : isMs v = true) (hf : frz1 E h v = some (y, h')) (hcl : clean1 h v) (hk : lp c ⟨(d, y) :: t, h'⟩ K) : lp c ⟨t, h⟩ K := by
  subst hE
  subst hlp
  subst hd
  intro hc base O0 I μ a w R
  have hr := R.tmps d
  have hl : LeafR (mkX base O0 μ h w) (lookT t d) (a.tmps.getD d undef) := by
    revert hv hr
    generalize lookT t d = v
    cases v <;> intro hv hr <;> first | exact hr | cases hv
  obtain ⟨F, q⟩ := frz1_sound R.hr hl hcl hf
  exact hk hc base O0 I μ a w ⟨R.size, R.defers, F.hr, (R.tmps.mono F.ext).refine (relV_of_ro q), R.ext.trans F.ext, R.below⟩
end
end Go.Proofs.YtaiillbjhdoikaaGreat.Ev

/- Contracts: limbs cut of their noughts, their copies, which of two is less. Printed by gen.py. -/
namespace Go.Proofs.YtaiillbjhdoikaaGreat.Ev
open Go Go.Proofs
set_option linter.unusedVariables false
set_option linter.unusedSimpArgs false

attribute [local irreducible] Lb
theorem c_cut (a : List Int) (ha : Lb a) (hb : a.length < 9223372036854775808) : ∃ t : List Int, t = lim (lv a) ∧ CallsA Tryz.prog 52 [.sli .u32 a] (.sli .u32 t) := by
  refine ⟨_, rfl, ?_⟩
  generalize hr : lim (lv a) = r
  refine callsA_of hG hm Tryz.func52 (by kernel_rfl) ?_
  intro E hE lp hl
  cbv
  refine E_loop hE hG hm hl (fun (p : List Int) => (⟨[(0, .sli .u32 p), (2, .s0)], []⟩ : St)) (fun p => p.length) (fun p => ∃ k : Nat, k ≤ a.length ∧ p = a.take k ∧ lv (a.take k) = lv a) ⟨a, ⟨a.length, Nat.le_refl _, by simp, by simp⟩, stLe rfl ?_⟩ ?_
  · (repeat' (first | exact t_nil | apply t_cons | exact u2_sli | exact u2_int | exact u2_bool | exact u2_ms | exact u2_ptr | exact (rfl : sle2 .s0 .s0)))
  rintro p ⟨k, hk, hp, hv⟩
  have hpl : p.length = k := by rw [hp]; simp; omega
  cbv
  repeat' (first
    | (refine E_br hE (fun h => ?_) (fun h => ?_) <;> cbv)
    | (refine E_nm hE (fun v hv => ?_); cbv)
    | (refine E_nilS hE (fun b hb => ?_); cbv)
    | fail)
  case refine_2.refine_1.refine_1.refine_1.refine_1.refine_1.refine_1 =>
    refine ⟨E.sub p 0 (E.bin .sub .i64 (E.len p) 1), ?_, ⟨k - 1, ?_, ?_, ?_⟩, stLe rfl ?_⟩
    rotate_right
    · (repeat' (first | exact t_nil | apply t_cons | exact u2_sli | exact u2_int | exact u2_bool | exact u2_ms | exact u2_ptr | exact (rfl : sle2 .s0 .s0)))
    all_goals (subst hE; simp only [NatCast.natCast, Int.ofNat_eq_natCast, realE, cmp_eql, cmp_neq, cmp_lss, cmp_leq, cmp_gtr, cmp_geq, intBinR, decide_eq_true_eq, decide_eq_false_iff_not, SI.val, SB.val, Num.eta, Iv.eta] at *)
    all_goals (rw [hpl] at *; rw [wi64_pred (by omega) (by omega)] at *)
    all_goals (have e0 : ((k : Int) - 1).toNat = k - 1 := by omega)
    · simp; omega
    · omega
    · rw [e0, hp]; simp [List.take_take]
    · rw [lv_cut_step (by omega) hk ?_, hv]
      rw [← getD_take (k := k) (by omega), ← hp, ← e0]; assumption
  all_goals (subst hE; simp only [NatCast.natCast, Int.ofNat_eq_natCast, realE, cmp_eql, cmp_neq, cmp_lss, cmp_leq, cmp_gtr, cmp_geq, intBinR, decide_eq_true_eq, decide_eq_false_iff_not, SI.val, SB.val, Num.eta, Iv.eta] at *)
  all_goals (rw [hpl] at *)
  all_goals (try (rw [wi64_pred (by omega) (by omega)] at *))
  all_goals (try (exfalso; omega))
  all_goals (rw [← hr, hp])
  · exact cut_end ha hk (.inr (by rw [← getD_take (k := k) (by omega), ← hp]; rw [show ((k : Int) - 1).toNat = k - 1 by omega] at h; exact h)) hv
  · exact cut_end ha hk (.inl (by omega)) hv

theorem c_Clone (a : List Int) (hlb : a.length ≤ 268435456) : ∃ t : List Int, t = a ∧ CallsA Tryz.prog 53 [.sli .u32 a] (.sli .u32 t) := by
  refine ⟨_, rfl, ?_⟩
  generalize hr : a = r
  refine callsA_of hG hm Tryz.func53 (by kernel_rfl) ?_
  intro E hE lp hl
  cbv
  repeat' (first
    | (refine E_br hE (fun h => ?_) (fun h => ?_) <;> cbv)
    | (refine E_nm hE (fun v hv => ?_); cbv)
    | (refine E_nilS hE (fun b hb => ?_); cbv)
    | fail)
  all_goals (subst hE; simp only [NatCast.natCast, Int.ofNat_eq_natCast, realE, cmp_eql, cmp_neq, cmp_lss, cmp_leq, cmp_gtr, cmp_geq, intBinR, decide_eq_true_eq, decide_eq_false_iff_not, SI.val, SB.val, Num.eta, Iv.eta] at *)
  · exact List.length_eq_zero_iff.1 (by have := hb h; omega)
  · simp
  · subst hr; omega

theorem c_natCmp (a b : List Int) (ha : Lb a) (hb : Lb b) (hla : a.length ≤ 268435456) (hlb : b.length ≤ 268435456) : ∃ t : Int, t = (if lv a < lv b then -1 else if lv b < lv a then 1 else 0 : Int) ∧ CallsA Tryz.prog 65 [.sli .u32 a, .sli .u32 b] (.int .i64 (.s t)) := by
  refine ⟨_, rfl, ?_⟩
  generalize hr : (if lv a < lv b then -1 else if lv b < lv a then 1 else 0 : Int) = r
  have hl1 := lim_length_le' ha
  have hl2 := lim_length_le' hb
  have l1 := lim_lb (lv a)
  have l2 := lim_lb (lv b)
  have v1 := lv_lim (lv a)
  have v2 := lv_lim (lv b)
  have k1 : (lim (lv a)).length < (lim (lv b)).length → r = -1 := by
    intro h; rw [← hr, if_pos (lim_len_lt h)]
  have k2 : (lim (lv b)).length < (lim (lv a)).length → r = 1 := by
    intro h; have := lim_len_lt h; rw [← hr, if_neg (by omega), if_pos this]
  have k3 : lv (lim (lv a)) < lv (lim (lv b)) → r = -1 := by
    intro h; rw [v1, v2] at h; rw [← hr, if_pos h]
  have k4 : lv (lim (lv b)) < lv (lim (lv a)) → r = 1 := by
    intro h; rw [v1, v2] at h; rw [← hr, if_neg (by omega), if_pos h]
  have k5 : lim (lv a) = lim (lv b) → r = 0 := by
    intro h; have := lim_inj h; rw [← hr, if_neg (by omega), if_neg (by omega)]
  refine callsA_of hG hm Tryz.func65 (by kernel_rfl) ?_
  intro E hE lp hl
  cbv
  (apply E_callX hE (c_cut a ha (by omega)); (case hf => rfl); (case hc => (cbv <;> trivial)); (case hle => exact ⟨u2_sli, trivial⟩); intro x hx; cbv)
  (apply E_callX hE (c_cut b hb (by omega)); (case hf => rfl); (case hc => (cbv <;> trivial)); (case hle => exact ⟨u2_sli, trivial⟩); intro y hy; cbv)
  repeat' (first
    | (refine E_br hE (fun h => ?_) (fun h => ?_) <;> cbv)
    | (refine E_nm hE (fun v hv => ?_); cbv)
    | (refine E_nilS hE (fun b hb => ?_); cbv)
    | fail)
  case hK.hK.refine_1 => subst hE; simp only [NatCast.natCast, Int.ofNat_eq_natCast, realE, cmp_eql, cmp_neq, cmp_lss, cmp_leq, cmp_gtr, cmp_geq, intBinR, decide_eq_true_eq, decide_eq_false_iff_not, SI.val, SB.val, Num.eta, Iv.eta] at *; rw [k1 (by rw [← hx, ← hy]; omega)]
  case hK.hK.refine_2.refine_1 => subst hE; simp only [NatCast.natCast, Int.ofNat_eq_natCast, realE, cmp_eql, cmp_neq, cmp_lss, cmp_leq, cmp_gtr, cmp_geq, intBinR, decide_eq_true_eq, decide_eq_false_iff_not, SI.val, SB.val, Num.eta, Iv.eta] at *; rw [k2 (by rw [← hx, ← hy]; omega)]
  have hlen : x.length = y.length := by subst hE; simp only [NatCast.natCast, Int.ofNat_eq_natCast, realE, cmp_eql, cmp_neq, cmp_lss, cmp_leq, cmp_gtr, cmp_geq, intBinR, decide_eq_true_eq, decide_eq_false_iff_not, SI.val, SB.val, Num.eta, Iv.eta] at *; omega
  rw [← hx] at k1 k2 k3 k4 k5 hl1 l1
  rw [← hy] at k1 k2 k3 k4 k5 hl2 l2
  obtain ⟨m, em⟩ : ∃ m : Int → Nat, ∀ i, m i = (x.length - i).toNat := ⟨_, fun _ => rfl⟩
  obtain ⟨ok, eok⟩ : ∃ ok : Int → Prop, ∀ i, ok i ↔ 0 ≤ i ∧ i ≤ x.length ∧ x.drop (x.length - i).toNat = y.drop (x.length - i).toNat := ⟨_, fun _ => Iff.rfl⟩
  refine E_loop hE hG hm hl (fun i : Int => (⟨[(0, .sli .u32 x), (1, .sli .u32 y), (24, .int .i64 (.s (E.len x))), (25, .int .i64 (.s i))], []⟩ : St)) m ok ⟨0, (eok 0).2 ⟨by omega, by omega, ?_⟩, stLe rfl ?_⟩ ?_
  · rw [show ((x.length : Int) - 0).toNat = x.length by omega, List.drop_length, List.drop_eq_nil_of_le (by omega)]
  · (repeat' (first | exact t_nil | apply t_cons | exact u2_sli | exact u2_int | exact u2_bool | exact u2_ms | exact u2_ptr | exact (rfl : sle2 .s0 .s0)))
  intro i hok
  obtain ⟨h1, h2, h3⟩ := (eok i).1 hok
  have low : ∀ v : Int, v = x.length - 1 - i → i < x.length → x.getD v.toNat 0 < y.getD v.toNat 0 → -1 = r := by
    intro v hv hi h
    exact (k3 (cmp_step l1 l2 (k := v.toNat) hlen (by omega) (by rw [show v.toNat + 1 = ((x.length : Int) - i).toNat by omega]; exact h3) h)).symm
  have high : ∀ v : Int, v = x.length - 1 - i → i < x.length → y.getD v.toNat 0 < x.getD v.toNat 0 → 1 = r := by
    intro v hv hi h
    exact (k4 (cmp_step l2 l1 (k := v.toNat) hlen.symm (by omega) (by rw [show v.toNat + 1 = ((x.length : Int) - i).toNat by omega]; exact h3.symm) h)).symm
  have same : ∀ v : Int, v = x.length - 1 - i → i < x.length → ¬ y.getD v.toNat 0 < x.getD v.toNat 0 → ¬ x.getD v.toNat 0 < y.getD v.toNat 0 → x.drop (x.length - (i + 1)).toNat = y.drop (x.length - (i + 1)).toNat := by
    intro v hv hi h h'
    rw [show ((x.length : Int) - (i + 1)).toNat = v.toNat by omega]
    exact drop_step hlen (by omega) (by rw [show v.toNat + 1 = ((x.length : Int) - i).toNat by omega]; exact h3) (by omega)
  have done : ¬ i < x.length → 0 = r := by
    intro h
    rw [k5 (by rw [show ((x.length : Int) - i).toNat = 0 by omega] at h3; simpa using h3)]
  clear h3 k1 k2 k3 k4 k5
  cbv
  repeat' (first
    | (refine E_br hE (fun h => ?_) (fun h => ?_) <;> cbv)
    | (refine E_nm hE (fun v hv => ?_); cbv)
    | (refine E_nilS hE (fun b hb => ?_); cbv)
    | fail)
  all_goals (try refine ⟨E.bin .add .i64 i 1, ?_, ?_, stLe rfl ?_⟩)
  all_goals (try ((repeat' (first | exact t_nil | apply t_cons | exact u2_sli | exact u2_int | exact u2_bool | exact u2_ms | exact u2_ptr | exact (rfl : sle2 .s0 .s0))); done))
  all_goals (subst hE; simp only [NatCast.natCast, Int.ofNat_eq_natCast, realE, cmp_eql, cmp_neq, cmp_lss, cmp_leq, cmp_gtr, cmp_geq, intBinR, decide_eq_true_eq, decide_eq_false_iff_not, SI.val, SB.val, Num.eta, Iv.eta] at *)
  all_goals (try exact done ‹_›)
  all_goals (have hi : i < x.length := ‹_›; try rw [wi64_succ h1 hi (by omega)])
  all_goals (have hv : ∀ v w, w = i → v = IntKind.i64.wrap (IntKind.i64.wrap ((x.length : Int) - 1) - w) → v = x.length - 1 - i := by (intro v w h h'; rw [wi64, wi64] at h'; omega))
  all_goals (replace hv := hv _ _ ‹_ = i› ‹_›)
  all_goals (first | omega | (rw [em, em]; omega) | exact low _ hv hi ‹_› | exact high _ hv hi ‹_› | exact (eok _).2 ⟨by omega, by omega, same _ hv hi ‹_› ‹_›⟩)

end Go.Proofs.YtaiillbjhdoikaaGreat.Ev

/- Contracts: limbs of their own, cut of their noughts. Printed by gen.py. -/
namespace Go.Proofs.YtaiillbjhdoikaaGreat.Ev
open Go Go.Proofs
set_option linter.unusedVariables false
set_option linter.unusedSimpArgs false

attribute [local irreducible] Lb
theorem c_Trim (a : List Int) (ha : Lb a) (hb : a.length ≤ 268435456) : ∃ t : List Int, t = lim (lv a) ∧ CallsA Tryz.prog 51 [.sli .u32 a] (.sli .u32 t) := by
  refine ⟨_, rfl, ?_⟩
  generalize hr : lim (lv a) = r
  have hl' := lim_length_le' ha
  refine callsA_of hG hm Tryz.func51 (by kernel_rfl) ?_
  intro E hE lp hl
  cbv
  repeat' (first
    | (refine E_br hE (fun h => ?_) (fun h => ?_) <;> cbv)
    | (refine E_nm hE (fun v hv => ?_); cbv)
    | (refine E_nilS hE (fun b hb => ?_); cbv)
    | (apply E_callX hE (c_cut _ ha ?_); (case hf => rfl); (case hc => (cbv <;> trivial)); (case hle => (repeat' (first | exact u_nil | apply u_cons | apply u2_agg | exact u2_int | exact u1_int | exact u2_bool | exact u1_bool | exact u2_sli | exact u1_sli | exact u2_s0 | exact u1_s0))); all_goals (first | (intro t ht; cbv) | (omega)))
    | (apply E_callX hE (c_Clone _ ?_); (case hf => rfl); (case hc => (cbv <;> trivial)); (case hle => (repeat' (first | exact u_nil | apply u_cons | apply u2_agg | exact u2_int | exact u1_int | exact u2_bool | exact u1_bool | exact u2_sli | exact u1_sli | exact u2_s0 | exact u1_s0))); all_goals (first | (intro t ht; cbv) | ((subst_vars; omega))))
    | fail)
  subst_vars
  rfl

end Go.Proofs.YtaiillbjhdoikaaGreat.Ev

/- Contracts: sums and differences of words of 32 bits. Printed by gen.py out of C22a.spec. -/
namespace Go.Proofs.YtaiillbjhdoikaaGreat.Ev
open Go Go.Proofs
set_option linter.unusedVariables false
set_option linter.unusedSimpArgs false

theorem c_Add32 (x : Int) (y : Int) (c : Int) (hx : 0 ≤ x) (hx' : x < 4294967296) (hy : 0 ≤ y) (hy' : y < 4294967296) (c0 : 0 ≤ c) (c1 : c ≤ 1) : ∃ t : Int × Int, t = ((x + y + c) % 4294967296, (x + y + c) / 4294967296) ∧ CallsA Tryz.prog 64 [.int .u32 (.s x), .int .u32 (.s y), .int .u32 (.s c)] (.tup [.int .u32 (.s t.1), .int .u32 (.s t.2)]) := by
  refine ⟨_, rfl, ?_⟩
  generalize hr : ((x + y + c) % 4294967296, (x + y + c) / 4294967296) = r
  refine callsA_of hG hm Tryz.func64 (by kernel_rfl) ?_
  intro E hE lp hl
  cbv
  repeat' (first
    | (refine E_br hE (fun h => ?_) (fun h => ?_) <;> cbv)
    | (refine E_nm hE (fun v hv => ?_); cbv)
    | fail)
  all_goals (subst hE; subst hr)
  all_goals (try simp only [realE, cmp_eql, cmp_neq, cmp_lss, cmp_leq, cmp_gtr, cmp_geq, intBinR, decide_eq_true_eq, decide_eq_false_iff_not, SI.val, SB.val, Num.eta, Iv.eta] at *)
  all_goals (simp only [shr32, wu64, wu32] at *)
  all_goals (refine ⟨?_, ?_, trivial⟩ <;> omega)

theorem c_Sub32 (x : Int) (y : Int) (c : Int) (hx : 0 ≤ x) (hx' : x < 4294967296) (hy : 0 ≤ y) (hy' : y < 4294967296) (c0 : 0 ≤ c) (c1 : c ≤ 1) : ∃ t : Int × Int, t = ((x - y - c) % 4294967296, (if x < y + c then 1 else 0 : Int)) ∧ CallsA Tryz.prog 66 [.int .u32 (.s x), .int .u32 (.s y), .int .u32 (.s c)] (.tup [.int .u32 (.s t.1), .int .u32 (.s t.2)]) := by
  refine ⟨_, rfl, ?_⟩
  generalize hr : ((x - y - c) % 4294967296, (if x < y + c then 1 else 0 : Int)) = r
  refine callsA_of hG hm Tryz.func66 (by kernel_rfl) ?_
  intro E hE lp hl
  cbv
  repeat' (first
    | (refine E_br hE (fun h => ?_) (fun h => ?_) <;> cbv)
    | (refine E_nm hE (fun v hv => ?_); cbv)
    | fail)
  all_goals (subst hE; subst hr)
  all_goals (try simp only [realE, cmp_eql, cmp_neq, cmp_lss, cmp_leq, cmp_gtr, cmp_geq, intBinR, decide_eq_true_eq, decide_eq_false_iff_not, SI.val, SB.val, Num.eta, Iv.eta] at *)
  rename_i d hd
  rw [shr31] at hv
  have e : d = (x - y - c) % 4294967296 := by rw [hd, wu32, wu32]; omega
  refine ⟨e, ?_, trivial⟩
  rw [hv]
  exact borrow32 hx hx' hy hy' (by omega) (by omega) (b := c) (by omega) e

end Go.Proofs.YtaiillbjhdoikaaGreat.Ev
