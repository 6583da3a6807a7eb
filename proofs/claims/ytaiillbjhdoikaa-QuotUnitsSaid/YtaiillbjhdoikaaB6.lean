/- Texts of the proof, joined: S2 W6 S3 S4 Pu20 Pu18 Pu21 Pu22 Pu23 C9h C10 C11 C12a C13 C14 C15 C16 C17 C18 C19 C20 Ok1 C23 Pu24 Pu25 Pu26 Pu28a Pu28 Pu29 Pu30 Pu19 Pu39 S5 R1 R2 R3 R4 R5 R6 R7 R8 R9 R10 R11 R12 R13 R14 -/
import Derived.Test.YtaiillbjhdoikaaB5
import Derived.Laws.Externs
set_option linter.unusedVariables false
set_option linter.unusedSimpArgs false

/- Contracts of decimal.Make and decimal.May: a number times a power of ten. Printed by gen.py. -/
namespace Go.Proofs.Ytaiillbjhdoikaa.Ev
open Go Go.Proofs
set_option linter.unusedVariables false
set_option linter.unusedSimpArgs false

attribute [local irreducible] Lb
/-- how many noughts there are at the end -/
def t10 (n : Nat) : Nat := if h : 0 < n ∧ n % 10 = 0 then t10 (n / 10) + 1 else 0
termination_by n
decreasing_by omega
theorem t10_go {n : Nat} (h : 0 < n) (h2 : n % 10 = 0) : t10 n = t10 (n / 10) + 1 := by rw [t10, dif_pos ⟨h, h2⟩]
theorem t10_stop {n : Nat} (h2 : n % 10 ≠ 0) : t10 n = 0 := by rw [t10, dif_neg (fun k => h2 k.2)]
theorem t10_spec : ∀ (n : Nat), 0 < n → n / 10 ^ t10 n * 10 ^ t10 n = n ∧ n / 10 ^ t10 n % 10 ≠ 0 ∧ 10 ^ t10 n ≤ n := by
  intro n
  induction n using Nat.strongRecOn with
  | ind n ih =>
    intro h
    by_cases k : n % 10 = 0
    · rw [t10_go h k]
      obtain ⟨i1, i2, i3⟩ := ih (n / 10) (by omega) (by omega)
      rw [Nat.pow_succ, Nat.mul_comm (10 ^ _) 10, ← Nat.div_div_eq_div_mul]
      refine ⟨?_, i2, by omega⟩
      rw [Nat.mul_left_comm, i1]; omega
    · rw [t10_stop k]
      simp; omega
theorem t10_le {n k : Nat} (h0 : 0 < n) (h : n < 10 ^ k) : t10 n < k := by
  have := (t10_spec n h0).2.2
  rcases Nat.lt_or_ge (t10 n) k with j | j
  · exact j
  · have : (10 : Nat) ^ k ≤ 10 ^ t10 n := Nat.pow_le_pow_right (by decide) j
    omega
/-- a number times a power of ten, of which all tens are taken; or none -/
def decMake (neg : Bool) (N : Nat) (tens : Int) : (Bool × List Int × Int) × Int :=
  if N = 0 then ((false, [], 0), 0)
  else if 1000000 < tens ∨ tens < -1000000 then ((false, [], 0), 1)
  else if tens + t10 N < -400 ∨ 400 < tens + t10 N ∨ 5 < (lim (N / 10 ^ t10 N)).length ∨ 40 < (decS (N / 10 ^ t10 N)).length then ((false, [], 0), 1)
  else ((neg, lim (N / 10 ^ t10 N), tens + t10 N), 0)
def dmS (neg : Bool) : Int × List Int × Int × List Int → St
  | (tens, q, d, m) => ⟨[(1, .int .i64 (.s tens)), (2, .ptr 0 2 (.l 0) 0), (4, .ptr 1 3 (.l 0) 0), (6, .sli .u32 q), (7, .int .u32 (.s d))],
      [.rows true 2 [.bool (.l false), .s0] [[.bool (.s neg), .sli .u32 m]], .rows true 3 [.bool (.l false), .s0, .int .i64 (.l 0)] [[.bool (.l false), .s0, .int .i64 (.l 0)]]]⟩
theorem len0 {l : List Int} (h : (l.length : Int) = 0) : l.length = 0 := by omega
theorem lim_len_le {k : Nat} {m : List Int} (h : Lb m) (hk : k ≤ lv m) : (lim k).length ≤ m.length := lim_length_le (by have := lv_lt h; omega)
set_option maxHeartbeats 2000000 in
theorem c_decMake (neg : Bool) (m : List Int) (tens : Int) (hm_ : Lb m) (hl_ : m.length < 33554432) (ht0 : -9223372036854775808 ≤ tens) (ht1 : tens < 9223372036854775808) :
    ∃ t : (Bool × List Int × Int) × Int, t = decMake neg (lv m) tens ∧
    CallsA Try.prog 74 [.agg [.bool (.s neg), .sli .u32 m], .int .i64 (.s tens)] (.tup [.agg [.bool (.s t.1.1), .sli .u32 t.1.2.1, .int .i64 (.s t.1.2.2)], .int .i64 (.s t.2)]) := by
  refine ⟨_, rfl, ?_⟩
  generalize hr : decMake neg (lv m) tens = r
  obtain ⟨N, hN⟩ : ∃ N, lv m = N := ⟨_, rfl⟩
  have hml : m.length ≤ 268435456 := by omega
  rw [hN] at hr
  have bad0 : N = 0 → r = ((false, [], 0), 0) := by intro h; rw [← hr]; unfold decMake; rw [if_pos h]
  have bad1 : N ≠ 0 → (1000000 < tens ∨ tens < -1000000) → r = ((false, [], 0), 1) := by intro h g; rw [← hr]; unfold decMake; rw [if_neg h, if_pos g]
  have tl : N ≠ 0 → t10 N ≤ 10 * m.length := by
    intro h
    have := lv_lt hm_
    have e : (4294967296 : Nat) ^ m.length ≤ 10 ^ (10 * m.length) := by rw [Nat.pow_mul]; exact Nat.pow_le_pow_left (by decide) _
    exact Nat.le_of_lt (t10_le (by omega) (by omega))
  have ll : ∀ k, k ≤ N → (lim k).length < 33554432 := by intro k h; have := lim_len_le hm_ (k := k) (by omega); omega
  obtain ⟨ms, em⟩ : ∃ ms : Int × List Int × Int × List Int → Nat, ∀ p, ms p = lv p.2.2.2 := ⟨_, fun _ => rfl⟩
  obtain ⟨ok, eok⟩ : ∃ ok : Int × List Int × Int × List Int → Prop, ∀ p, ok p ↔ (∃ M j : Nat, 0 < M ∧ M = N / 10 ^ j ∧ M ≤ N ∧ t10 N = j + t10 M ∧ p.1 = tens + j ∧ p.2.1 = lim (M / 10) ∧ p.2.2.1 = ((M % 10 : Nat) : Int) ∧ p.2.2.2 = lim M) := ⟨_, fun _ => Iff.rfl⟩
  have start : N ≠ 0 → ∀ x q d, x = lim N → q = lim (lv x / 10) → d = ((lv x % 10 : Nat) : Int) → ok (tens, q, d, x) := by
    intro h x q d hx hq hd
    refine (eok _).2 ⟨N, 0, by omega, by simp, Nat.le_refl _, by simp, by simp, ?_, ?_, hx⟩
    · dsimp only; rw [hq, hx, lv_lim]
    · dsimp only; rw [hd, hx, lv_lim]
  have next : N ≠ 0 → ¬ (1000000 < tens ∨ tens < -1000000) → ∀ t q d x, ok (t, q, d, x) → d = 0 → ∀ q' d', q' = lim (lv q / 10) → d' = ((lv q % 10 : Nat) : Int) →
      Lb q ∧ q.length < 33554432 ∧ ms (IntKind.i64.wrap (t + 1), q', d', q) < ms (t, q, d, x) ∧ ok (IntKind.i64.wrap (t + 1), q', d', q) := by
    intro h g t q d x hok hd0 q' d' hq hd
    obtain ⟨M, j, k1, k2, k3, k4, k5, k6, k7, k8⟩ := (eok _).1 hok
    dsimp only at k5 k6 k7 k8
    have e : M % 10 = 0 := by omega
    have b := tl h
    have g2 := t10_go k1 e
    rw [k6, lv_lim] at hq hd
    rw [wi64_in (by omega) (by omega)]
    refine ⟨by rw [k6]; exact lim_lb _, by rw [k6]; exact ll _ (by omega), by rw [em, em]; dsimp only; rw [k6, k8, lv_lim, lv_lim]; omega, (eok _).2 ⟨M / 10, j + 1, by omega, ?_, by omega, by omega, by dsimp only; omega, hq, hd, k6⟩⟩
    rw [k2, Nat.div_div_eq_div_mul, Nat.pow_succ]
  have stop : N ≠ 0 → ¬ (1000000 < tens ∨ tens < -1000000) → ∀ t q d x, ok (t, q, d, x) → d ≠ 0 → Lb x ∧ x.length < 33554432 ∧
      ((t < -400 ∨ 400 < t ∨ (5 : Int) < x.length ∨ (40 : Int) < (byteArr (decS (lv x))).size) → r = ((false, [], 0), 1)) ∧ (¬ (t < -400 ∨ 400 < t ∨ (5 : Int) < x.length ∨ (40 : Int) < (byteArr (decS (lv x))).size) → r = ((neg, x, t), 0)) := by
    intro h g t q d x hok hd0
    obtain ⟨M, j, k1, k2, k3, k4, k5, k6, k7, k8⟩ := (eok _).1 hok
    dsimp only at k5 k6 k7 k8
    have e : M % 10 ≠ 0 := by omega
    rw [t10_stop e, Nat.add_zero] at k4
    rw [← k4] at k2 k5
    rw [byteArr_size]
    refine ⟨by rw [k8]; exact lim_lb _, by rw [k8]; exact ll _ k3, fun z => ?_, fun z => ?_⟩
    · rw [← hr]; unfold decMake; rw [if_neg h, if_neg g, if_pos]
      rw [← k2, ← k8]; rw [k8, lv_lim, ← k8] at z; rw [← k5]; omega
    · rw [← hr]; unfold decMake; rw [if_neg h, if_neg g, if_neg, ← k2, ← k8, ← k5]
      rw [← k2, ← k8]; rw [k8, lv_lim, ← k8] at z; rw [← k5]; omega
  clear hr tl eok
  refine callsA_of hG hm Try.func74 (by kernel_rfl) ?_
  intro E hE lp hl
  cbv
  (first | (apply E_pcallX hE (c_wMake neg m hm_ hml); (case hm => rfl); (case hle => (repeat' (first | exact u_nil | apply u_cons | apply u2_agg | exact u2_int | exact u1_int | exact u2_bool | exact u1_bool | exact u2_sli | exact u1_sli | exact u2_s0 | exact u1_s0))); all_goals (first | (intro w hw; cbv) | (assumption))) | (apply E_callX hE (c_wMake neg m hm_ hml); (case hf => rfl); (case hc => (cbv <;> trivial)); (case hle => (repeat' (first | exact u_nil | apply u_cons | apply u2_agg | exact u2_int | exact u1_int | exact u2_bool | exact u1_bool | exact u2_sli | exact u1_sli | exact u2_s0 | exact u1_s0))); all_goals (first | (intro w hw; cbv) | (assumption))))
  have W : w = (neg && decide (N ≠ 0), lim N) := by
    have k : w = (neg && decide (lv m ≠ 0), lim (lv m)) := hw
    rw [hN] at k; exact k
  clear hw
  (try (refine E_nm hE (fun v hv => ?_); cbv))
  refine E_br hE (fun g0 => ?_) (fun g0 => ?_) <;> cbv
  · have z : N = 0 := by
      subst hE
      have g0 : (w.2.length : Int) = 0 := eql_t g0
      rw [W] at g0
      exact lim_eq_nil.1 (List.length_eq_zero_iff.1 (len0 g0))
    rw [bad0 z]; exact ⟨⟨rfl, rfl, rfl, trivial⟩, rfl, trivial⟩
  have n0 : N ≠ 0 := by
    subst hE
    intro z
    have g0 : ¬ (w.2.length : Int) = 0 := eql_f g0
    apply g0; rw [W, z]; rfl
  have w1 : w.1 = neg := by rw [W]; simp [n0]
  have w2 : w.2 = lim N := by rw [W]
  have wb : Lb w.2 ∧ w.2.length < 33554432 := by rw [w2]; exact ⟨lim_lb _, ll _ (Nat.le_refl _)⟩
  clear W ll g0 bad0
  refine E_br hE (fun g1 => ?_) (fun g1 => ?_) <;> cbv
  · have g1 : 1000000 < tens := by subst hE; exact gtr_t g1
    rw [bad1 n0 (.inl g1)]; exact ⟨⟨rfl, rfl, rfl, trivial⟩, rfl, trivial⟩
  refine E_br hE (fun g2 => ?_) (fun g2 => ?_) <;> cbv
  · have g2 : tens < -1000000 := by subst hE; exact lss_t g2
    rw [bad1 n0 (.inr g2)]; exact ⟨⟨rfl, rfl, rfl, trivial⟩, rfl, trivial⟩
  have g3 : ¬ (1000000 < tens ∨ tens < -1000000) := by
    subst hE
    rintro (z | z)
    · exact gtr_f g1 z
    · exact lss_f g2 z
  clear bad1 g1 g2
  (first | (apply E_pcallX hE (c_divide w.2 wb.1 wb.2); (case hm => rfl); (case hle => (repeat' (first | exact u_nil | apply u_cons | apply u2_agg | exact u2_int | exact u1_int | exact u2_bool | exact u1_bool | exact u2_sli | exact u1_sli | exact u2_s0 | exact u1_s0))); all_goals (first | (intro u hu; cbv) | (assumption))) | (apply E_callX hE (c_divide w.2 wb.1 wb.2); (case hf => rfl); (case hc => (cbv <;> trivial)); (case hle => (repeat' (first | exact u_nil | apply u_cons | apply u2_agg | exact u2_int | exact u1_int | exact u2_bool | exact u1_bool | exact u2_sli | exact u1_sli | exact u2_s0 | exact u1_s0))); all_goals (first | (intro u hu; cbv) | (assumption))))
  refine E_nm hE (fun v hv => ?_); cbv
  have st := start n0 w.2 u.1 v w2 (by rw [hu]) (by rw [hv, hu])
  refine E_loopM hE hG hm hl (dmS w.1) ms ok ⟨(tens, u.1, v, w.2), [0, 1], st, stLeM ⟨rfl, rfl, trivial⟩ rfl rfl rfl ⟨rfl, rfl, trivial⟩ ?_⟩ ?_
  · (repeat' (first | exact m_nil | refine m_cons ?_ rfl ?_ | exact u2_int | exact u2_bool | exact u2_sli | exact (rfl : sle2 (.ptr 0 2 (.l 0) 0) (.ptr 0 2 (.l 0) 0)) | exact (rfl : sle2 (.ptr 1 3 (.l 0) 0) (.ptr 1 3 (.l 0) 0))))
  have nx := next n0 g3
  have sp := stop n0 g3
  clear next stop start st hu hv
  rintro ⟨t, q, d, x⟩ hok
  have nx := nx t q d x hok
  have sp := sp t q d x hok
  clear hok
  cbv
  refine E_br hE (fun g => ?_) (fun g => ?_) <;> cbv
  · have d0 : d = 0 := by subst hE; exact eql_t g
    have nx := nx d0
    have qb := nx _ _ rfl rfl
    refine E_nm hE (fun t1 ht1' => ?_); cbv
    (first | (apply E_pcallX hE (c_divide q qb.1 qb.2.1); (case hm => rfl); (case hle => (repeat' (first | exact u_nil | apply u_cons | apply u2_agg | exact u2_int | exact u1_int | exact u2_bool | exact u1_bool | exact u2_sli | exact u1_sli | exact u2_s0 | exact u1_s0))); all_goals (first | (intro u2 hu2; cbv) | (assumption))) | (apply E_callX hE (c_divide q qb.1 qb.2.1); (case hf => rfl); (case hc => (cbv <;> trivial)); (case hle => (repeat' (first | exact u_nil | apply u_cons | apply u2_agg | exact u2_int | exact u1_int | exact u2_bool | exact u1_bool | exact u2_sli | exact u1_sli | exact u2_s0 | exact u1_s0))); all_goals (first | (intro u2 hu2; cbv) | (assumption))))
    refine E_nm hE (fun v2 hv2 => ?_); cbv
    have et : t1 = IntKind.i64.wrap (t + 1) := by subst hE; exact ht1'
    have q2 := nx u2.1 v2 (by rw [hu2]) (by rw [hv2, hu2])
    refine ⟨(t1, u2.1, v2, q), [0, 1], ?_, ?_, stLeM ⟨rfl, rfl, trivial⟩ rfl rfl rfl ⟨rfl, rfl, trivial⟩ ?_⟩
    · rw [et]; exact q2.2.2.1
    · rw [et]; exact q2.2.2.2
    · (repeat' (first | exact m_nil | refine m_cons ?_ rfl ?_ | exact u2_int | exact u2_bool | exact u2_sli | exact (rfl : sle2 (.ptr 0 2 (.l 0) 0) (.ptr 0 2 (.l 0) 0)) | exact (rfl : sle2 (.ptr 1 3 (.l 0) 0) (.ptr 1 3 (.l 0) 0))))
  · have d0 : d ≠ 0 := by subst hE; exact eql_f g
    have sp := sp d0
    have xb := sp.1
    have xl := sp.2.1
    have s1 := sp.2.2.1
    have s2 := sp.2.2.2
    clear nx sp
    refine E_br hE (fun g1 => ?_) (fun g1 => ?_) <;> cbv
    · rw [s1 (.inl (by subst hE; exact lss_t g1))]; exact ⟨⟨rfl, rfl, rfl, trivial⟩, rfl, trivial⟩
    refine E_br hE (fun g2 => ?_) (fun g2 => ?_) <;> cbv
    · rw [s1 (.inr (.inl (by subst hE; exact gtr_t g2)))]; exact ⟨⟨rfl, rfl, rfl, trivial⟩, rfl, trivial⟩
    refine E_br hE (fun g4 => ?_) (fun g4 => ?_) <;> cbv
    · rw [s1 (.inr (.inr (.inl (by subst hE; exact gtr_t g4))))]; exact ⟨⟨rfl, rfl, rfl, trivial⟩, rfl, trivial⟩
    (first | (apply E_pcallX hE (c_Digits x xb xl); (case hm => rfl); (case hle => (repeat' (first | exact u_nil | apply u_cons | apply u2_agg | exact u2_int | exact u1_int | exact u2_bool | exact u1_bool | exact u2_sli | exact u1_sli | exact u2_s0 | exact u1_s0))); all_goals (first | (intro z hz; cbv) | (assumption))) | (apply E_callX hE (c_Digits x xb xl); (case hf => rfl); (case hc => (cbv <;> trivial)); (case hle => (repeat' (first | exact u_nil | apply u_cons | apply u2_agg | exact u2_int | exact u1_int | exact u2_bool | exact u1_bool | exact u2_sli | exact u1_sli | exact u2_s0 | exact u1_s0))); all_goals (first | (intro z hz; cbv) | (assumption))))
    refine E_br hE (fun g5 => ?_) (fun g5 => ?_) <;> cbv
    · rw [s1 (.inr (.inr (.inr (by rw [← hz]; subst hE; exact gtr_t g5))))]; exact ⟨⟨rfl, rfl, rfl, trivial⟩, rfl, trivial⟩
    · rw [s2 (by
        rw [← hz]
        subst hE
        rintro (k | k | k | k)
        · exact lss_f g1 k
        · exact gtr_f g2 k
        · exact gtr_f g4 k
        · exact gtr_f g5 k)]
      exact ⟨⟨w1, rfl, rfl, trivial⟩, rfl, trivial⟩

end Go.Proofs.Ytaiillbjhdoikaa.Ev

/- Contracts: the scale of fixed numbers, a number so many times; quotients of numbers above nought. Printed by gen.py. -/
namespace Go.Proofs.Ytaiillbjhdoikaa.Ev
open Go Go.Proofs
set_option linter.unusedVariables false
set_option linter.unusedSimpArgs false

attribute [local irreducible] Lb
theorem mulN (na : Bool) (a : List Int) (nb : Bool) (b : List Int) : ((na != nb) && decide (lv a * lv b ≠ 0), lim (lv a * lv b)) = whN (wv na a * wv nb b) := by
  rw [whN_of]; unfold wv; congr 1
  cases na <;> cases nb <;> simp [Int.neg_mul, Int.mul_neg, Int.neg_neg]
end Go.Proofs.Ytaiillbjhdoikaa.Ev

/- Contracts: decimal.May, powers of ten, decimal numbers rounded. Printed by gen.py. -/
namespace Go.Proofs.Ytaiillbjhdoikaa.Ev
open Go Go.Proofs
set_option linter.unusedVariables false
set_option linter.unusedSimpArgs false

attribute [local irreducible] Lb
def wMayB (neg : Bool) (m : List Int) : Bool := if m.length = 0 then !neg else decide (m.getD (m.length - 1) 0 ≠ 0)
theorem c_wMay (neg : Bool) (m : List Int) (hl_ : m.length < 4611686018427387904) : ∃ t : Bool, t = wMayB neg m ∧ CallsA Try.prog 75 [.agg [.bool (.s neg), .sli .u32 m]] (.bool (.s t)) := by
  refine ⟨_, rfl, ?_⟩
  generalize hr : wMayB neg m = r
  have z0 : (m.length : Int) = 0 → (!neg) = r := by intro h; rw [← hr]; unfold wMayB; rw [if_pos (by omega)]
  have z1 : ¬ (m.length : Int) = 0 → IntKind.i64.wrap ((m.length : Int) - 1) = (m.length : Int) - 1 ∧ 0 ≤ (m.length : Int) - 1 ∧ (m.length : Int) - 1 < m.length ∧ ∀ x : Bool, x = decide (m.getD ((m.length : Int) - 1).toNat 0 ≠ 0) → x = r := by
    intro h
    refine ⟨wi64_in (by omega) (by omega), by omega, by omega, fun x hx => ?_⟩
    rw [hx, ← hr]; unfold wMayB; rw [if_neg (by omega), show ((m.length : Int) - 1).toNat = m.length - 1 by omega]
  clear hr
  refine callsA_of hG hm Try.func75 (by kernel_rfl) ?_
  intro E hE lp hl
  cbv
  refine E_br hE (fun g => ?_) (fun g => ?_) <;> cbv
  · subst hE; exact z0 (eql_t g)
  · have z1 := z1 (by subst hE; exact eql_f g)
    have es : E.bin .sub .i64 (E.len m) 1 = (m.length : Int) - 1 := by subst hE; exact z1.1
    refine E_br hE (fun b1 => ?_) (fun b1 => ?_) <;> cbv
    · refine E_br hE (fun b2 => ?_) (fun b2 => ?_) <;> cbv
      · refine z1.2.2.2 _ ?_
        show E.cmp .neq (E.get m (E.bin .sub .i64 (E.len m) 1)) 0 = _
        rw [es]
        subst hE
        exact cmp_neq _ _
      · rw [es] at b2
        subst hE
        exact lss_f b2 z1.2.2.1
    · rw [es] at b1
      subst hE
      exact leq_f b1 z1.2.1

/-- may a decimal number be? -/
def decMayB (neg : Bool) (m : List Int) (tens : Int) : Bool :=
  if m.length = 0 then (!neg && decide (tens = 0)) else (wMayB neg m && decide ((decMake neg (lv m) tens).2 = 0) && decide ((decMake neg (lv m) tens).1.2.2 = tens))
theorem decMay_ok {neg : Bool} {m : List Int} {tens : Int} (h : Lb m) (k : decMayB neg m tens = true) : m.length ≤ 5 ∧ -400 ≤ tens ∧ tens ≤ 400 ∧ m = lim (lv m) ∧ (lv m = 0 → neg = false ∧ tens = 0) ∧ (lv m ≠ 0 → (decS (lv m)).length ≤ 40 ∧ lv m % 10 ≠ 0) := by
  unfold decMayB at k
  split at k
  · rename_i h0
    have : m = [] := List.length_eq_zero_iff.1 h0
    subst this
    simp only [Bool.and_eq_true, Bool.not_eq_true', decide_eq_true_eq] at k
    exact ⟨by decide, by omega, by omega, rfl, fun _ => k, fun z => absurd rfl z⟩
  · rename_i h0
    simp only [Bool.and_eq_true, decide_eq_true_eq] at k
    obtain ⟨⟨k1, k2⟩, k3⟩ := k
    unfold wMayB at k1
    rw [if_neg h0] at k1
    have cn : Cn m := Cn.of_last h (fun _ => by simpa using k1)
    have e := cn.eq_lim
    have n0 : lv m ≠ 0 := by intro z; rw [z] at e; rw [e] at h0; exact h0 rfl
    unfold decMake at k2 k3
    rw [if_neg n0] at k2 k3
    split at k2
    · cases k2
    · rename_i g1
      rw [if_neg g1] at k3
      split at k2
      · cases k2
      · rename_i g2
        rw [if_neg g2] at k3
        have t0 : t10 (lv m) = 0 := by have : tens + (t10 (lv m) : Int) = tens := k3; omega
        have s := (t10_spec (lv m) (by omega)).2.1
        rw [t0] at g2 s
        simp only [Nat.pow_zero, Nat.div_one] at g2 s
        rw [← e] at g2
        exact ⟨by omega, by omega, by omega, e, fun z => absurd z n0, fun _ => ⟨by omega, s⟩⟩
set_option maxHeartbeats 1000000 in
theorem c_decMay (neg : Bool) (m : List Int) (tens : Int) (hm_ : Lb m) (hl_ : m.length < 33554432) (ht0 : -9223372036854775808 ≤ tens) (ht1 : tens < 9223372036854775808) :
    ∃ t : Bool, t = decMayB neg m tens ∧ CallsA Try.prog 33 [.agg [.bool (.s neg), .sli .u32 m, .int .i64 (.s tens)]] (.bool (.s t)) := by
  refine ⟨_, rfl, ?_⟩
  generalize hr : decMayB neg m tens = r
  have hl2 : m.length < 4611686018427387904 := by omega
  have z0 : (m.length : Int) = 0 → (!neg && decide (tens = 0)) = r := by intro h; rw [← hr]; unfold decMayB; rw [if_pos (by omega)]
  have z1 : ¬ (m.length : Int) = 0 → (wMayB neg m && decide ((decMake neg (lv m) tens).2 = 0) && decide ((decMake neg (lv m) tens).1.2.2 = tens)) = r := by intro h; rw [← hr]; unfold decMayB; rw [if_neg (by omega)]
  clear hr
  refine callsA_of hG hm Try.func33 (by kernel_rfl) ?_
  intro E hE lp hl
  cbv
  refine E_br hE (fun g => ?_) (fun g => ?_) <;> cbv
  · have z0 := z0 (by subst hE; exact eql_t g)
    refine E_br hE (fun b1 => ?_) (fun b1 => ?_) <;> cbv
    · rw [← z0]
      subst hE
      have b1 : (!neg) = true := b1
      rw [b1, Bool.true_and]
      exact cmp_eql _ _
    · rw [← z0]
      subst hE
      have b1 : (!neg) = false := b1
      rw [b1]; rfl
  · have z1 := z1 (by subst hE; exact eql_f g)
    (first | (apply E_pcallX hE (c_decMake neg m tens hm_ hl_ ht0 ht1); (case hm => rfl); (case hle => (repeat' (first | exact u_nil | apply u_cons | apply u2_agg | exact u2_int | exact u1_int | exact u2_bool | exact u1_bool | exact u2_sli | exact u1_sli | exact u2_s0 | exact u1_s0))); all_goals (first | (intro u hu; cbv) | (assumption))) | (apply E_callX hE (c_decMake neg m tens hm_ hl_ ht0 ht1); (case hf => rfl); (case hc => (cbv <;> trivial)); (case hle => (repeat' (first | exact u_nil | apply u_cons | apply u2_agg | exact u2_int | exact u1_int | exact u2_bool | exact u1_bool | exact u2_sli | exact u1_sli | exact u2_s0 | exact u1_s0))); all_goals (first | (intro u hu; cbv) | (assumption))))
    (try (refine E_nm hE (fun v hv => ?_); cbv))
    (first | (apply E_pcallX hE (c_wMay neg m hl2); (case hm => rfl); (case hle => (repeat' (first | exact u_nil | apply u_cons | apply u2_agg | exact u2_int | exact u1_int | exact u2_bool | exact u1_bool | exact u2_sli | exact u1_sli | exact u2_s0 | exact u1_s0))); all_goals (first | (intro w hw; cbv) | (assumption))) | (apply E_callX hE (c_wMay neg m hl2); (case hf => rfl); (case hc => (cbv <;> trivial)); (case hle => (repeat' (first | exact u_nil | apply u_cons | apply u2_agg | exact u2_int | exact u1_int | exact u2_bool | exact u1_bool | exact u2_sli | exact u1_sli | exact u2_s0 | exact u1_s0))); all_goals (first | (intro w hw; cbv) | (assumption))))
    rw [← hw, ← hu] at z1
    refine E_br hE (fun b1 => ?_) (fun b1 => ?_) <;> cbv
    · refine E_br hE (fun b2 => ?_) (fun b2 => ?_) <;> cbv
      · have b2 : u.2 = 0 := by rw [← hv]; subst hE; exact eql_t b2
        rw [b1, b2] at z1
        rw [← z1]
        subst hE
        simp only [Bool.true_and, decide_true]
        exact cmp_eql _ _
      · have b2 : ¬ u.2 = 0 := by rw [← hv]; subst hE; exact eql_f b2
        rw [decide_eq_false b2, Bool.and_false, Bool.false_and] at z1
        exact z1
    · rw [b1, Bool.false_and, Bool.false_and] at z1
      exact z1

end Go.Proofs.Ytaiillbjhdoikaa.Ev

/- Contracts: powers of ten, decimal numbers rounded. Printed by gen.py. -/
namespace Go.Proofs.Ytaiillbjhdoikaa.Ev
open Go Go.Proofs
set_option linter.unusedVariables false
set_option linter.unusedSimpArgs false

attribute [local irreducible] Lb whN
def qpS (n : Int) : Int × Bool × List Int → St
  | (i, b, l) => ⟨[(2, .ptr 0 2 (.l 0) 0), (3, .ptr 1 2 (.l 0) 0), (5, .int .i64 (.s n)), (6, .int .i64 (.s i))],
      [.rows true 2 [.bool (.l false), .s0] [[.bool (.l false), .s0]], .rows true 2 [.bool (.l false), .s0] [[.bool (.s b), .sli .u32 l]]]⟩
theorem ten_len {k : Nat} (h : k ≤ 400) : (lim (10 ^ k)).length ≤ 100 := by
  refine lim_length_le ?_
  obtain ⟨a, b, ha, hb, hab⟩ : ∃ a b : Nat, a = 4 ∧ b = 100 ∧ k ≤ a * b := ⟨4, 100, rfl, rfl, h⟩
  have e1 : (10 : Nat) ^ k ≤ 10 ^ (a * b) := Nat.pow_le_pow_right (by decide) hab
  have e2 : (10 : Nat) ^ (a * b) < 4294967296 ^ b := by
    rw [Nat.pow_mul]
    exact Nat.pow_lt_pow_left (by rw [ha]; decide) (by rw [hb]; decide)
  rw [hb] at e2
  rw [hb] at e1
  exact Nat.lt_of_le_of_lt e1 e2
theorem whN_nat (k : Nat) : whN (k : Int) = (false, lim k) := by
  unfold whN
  rw [decide_eq_false (by omega), Int.natAbs_natCast]
set_option maxHeartbeats 1000000 in
theorem c_qPower (n : Int) (hn0 : -9223372036854775808 ≤ n) (hn : n ≤ 400) : ∃ t : Bool × List Int, t = whN ((10 ^ n.toNat : Nat) : Int) ∧ CallsA Try.prog 68 [.int .i64 (.s n)] (.agg [.bool (.s t.1), .sli .u32 t.2]) := by
  refine ⟨_, rfl, ?_⟩
  generalize hr : whN ((10 ^ n.toNat : Nat) : Int) = r
  obtain ⟨ms, em⟩ : ∃ ms : Int × Bool × List Int → Nat, ∀ p, ms p = (n - p.1).toNat := ⟨_, fun _ => rfl⟩
  obtain ⟨ok, eok⟩ : ∃ ok : Int × Bool × List Int → Prop, ∀ p, ok p ↔ (0 ≤ p.1 ∧ (0 < p.1 → p.1 ≤ n) ∧ p.2 = whN ((10 ^ p.1.toNat : Nat) : Int)) := ⟨_, fun _ => Iff.rfl⟩
  have start : ∀ x, x = (decide ((1 : Int) < 0), lim (1 : Int).natAbs) → ok (0, x) := by
    intro x hx
    refine (eok _).2 ⟨Int.le_refl _, fun h => absurd h (Int.lt_irrefl 0), ?_⟩
    show x = _
    rw [hx, whN_nat]; rfl
  have bnd : ∀ i p, ok (i, p) → i < n → Lb p.2 ∧ p.2.length < 60000000 := by
    intro i p h hlt
    obtain ⟨h1, h2, h3⟩ := (eok _).1 h
    dsimp only at h1 h2 h3
    rw [h3, whN_nat]
    refine ⟨lim_lb _, ?_⟩
    have := ten_len (k := i.toNat) (by omega)
    show (lim (10 ^ i.toNat)).length < 60000000
    omega
  have next : ∀ i p, ok (i, p) → i < n → ∀ u x, u = (decide ((10 : Int) < 0), lim (10 : Int).natAbs) → x = ((p.1 != u.1) && decide (lv p.2 * lv u.2 ≠ 0), lim (lv p.2 * lv u.2)) → ms (IntKind.i64.wrap (i + 1), x) < ms (i, p) ∧ ok (IntKind.i64.wrap (i + 1), x) := by
    intro i p h hlt u x hu hx
    obtain ⟨h1, h2, h3⟩ := (eok _).1 h
    dsimp only at h1 h2 h3
    rw [wi64_in (by omega) (by omega)]
    refine ⟨by rw [em, em]; dsimp only; omega, (eok _).2 ⟨by dsimp only; omega, fun _ => by dsimp only; omega, ?_⟩⟩
    show x = _
    have hu' : u = whN (10 : Int) := by rw [hu]; unfold whN; rfl
    rw [hx, mulN, hu', h3, wv_whN, wv_whN, show (i + 1).toNat = i.toNat + 1 by omega, Nat.pow_succ]
    rfl
  have stop : ∀ i p, ok (i, p) → ¬ i < n → p = r := by
    intro i p h hlt
    obtain ⟨h1, h2, h3⟩ := (eok _).1 h
    dsimp only at h1 h2 h3
    rw [h3, ← hr]
    congr 2
    by_cases z : 0 < i
    · have := h2 z; rw [show i.toNat = n.toNat by omega]
    · rw [show i.toNat = n.toNat by omega]
  have tb : ∀ u : Bool × List Int, u = (decide ((10 : Int) < 0), lim (10 : Int).natAbs) → Lb u.2 ∧ u.2.length < 60000000 := by
    intro u hu
    rw [hu]
    exact ⟨lim_lb (Int.natAbs 10), by decide⟩
  clear hr
  refine callsA_of hG hm Try.func68 (by kernel_rfl) ?_
  intro E hE lp hl
  cbv
  (first | (apply E_pcallX hE (c_wFrom 1 (by decide) (by decide)); (case hm => rfl); (case hle => (repeat' (first | exact u_nil | apply u_cons | apply u2_agg | exact u2_int | exact u1_int | exact u2_bool | exact u1_bool | exact u2_sli | exact u1_sli | exact u2_s0 | exact u1_s0))); all_goals (first | (intro x hx; cbv) | (assumption))) | (apply E_callX hE (c_wFrom 1 (by decide) (by decide)); (case hf => rfl); (case hc => (cbv <;> trivial)); (case hle => (repeat' (first | exact u_nil | apply u_cons | apply u2_agg | exact u2_int | exact u1_int | exact u2_bool | exact u1_bool | exact u2_sli | exact u1_sli | exact u2_s0 | exact u1_s0))); all_goals (first | (intro x hx; cbv) | (assumption))))
  refine E_loop hE hG hm hl (qpS n) ms ok ⟨(0, x), start x hx, stLe rfl ?_⟩ ?_
  · (repeat' (first | exact t_nil | apply t_cons | exact u2_sli | exact u2_int | exact u2_bool | exact (rfl : sle2 (.ptr 0 2 (.l 0) 0) (.ptr 0 2 (.l 0) 0)) | exact (rfl : sle2 (.ptr 1 2 (.l 0) 0) (.ptr 1 2 (.l 0) 0))))
  rintro ⟨i, b, l⟩ hok
  have bd := bnd i (b, l) hok
  have nx := next i (b, l) hok
  have sp := stop i (b, l) hok
  clear bnd next stop start hok hx
  cbv
  refine E_br hE (fun g => ?_) (fun g => ?_) <;> cbv
  · have g' : i < n := by subst hE; exact lss_t g
    have bd := bd g'
    have nx := nx g'
    (first | (apply E_pcallX hE (c_wFrom 10 (by decide) (by decide)); (case hm => rfl); (case hle => (repeat' (first | exact u_nil | apply u_cons | apply u2_agg | exact u2_int | exact u1_int | exact u2_bool | exact u1_bool | exact u2_sli | exact u1_sli | exact u2_s0 | exact u1_s0))); all_goals (first | (intro u hu; cbv) | (assumption))) | (apply E_callX hE (c_wFrom 10 (by decide) (by decide)); (case hf => rfl); (case hc => (cbv <;> trivial)); (case hle => (repeat' (first | exact u_nil | apply u_cons | apply u2_agg | exact u2_int | exact u1_int | exact u2_bool | exact u1_bool | exact u2_sli | exact u1_sli | exact u2_s0 | exact u1_s0))); all_goals (first | (intro u hu; cbv) | (assumption))))
    have ub := tb u hu
    apply E_pcallX hE (c_wMul2 b l u.1 u.2 bd.1 ub.1 bd.2 ub.2)
    case hm => rfl
    case hle => exact ⟨u2_slc', trivial⟩
    intro t ht
    cbv
    have q := nx u t hu ht
    refine ⟨(E.bin .add .i64 i 1, t), ?_, ?_, stLe rfl ?_⟩
    · subst hE; exact q.1
    · subst hE; exact q.2
    · (repeat' (first | exact t_nil | apply t_cons | exact u2_sli | exact u2_int | exact u2_bool | exact (rfl : sle2 (.ptr 0 2 (.l 0) 0) (.ptr 0 2 (.l 0) 0)) | exact (rfl : sle2 (.ptr 1 2 (.l 0) 0) (.ptr 1 2 (.l 0) 0))))
  · have g' : ¬ i < n := by subst hE; exact lss_f g
    have sp := sp g'
    rw [← sp]; exact ⟨rfl, rfl, trivial⟩

/-- a decimal number, rounded -/
def fromN (neg : Bool) (m : List Int) (tens : Int) (up : Bool) : Num :=
  if decMayB neg m tens = true then ratioN neg (lv m * 10 ^ tens.toNat) false (10 ^ (-tens).toNat) up else Num.zero
theorem ratioN_sign (na : Bool) (a : Nat) (nb : Bool) (b : Nat) (up : Bool) : ratioN (na && decide (a ≠ 0)) a nb b up = ratioN na a nb b up := by
  unfold ratioN
  split
  · rfl
  · split
    · rfl
    · rename_i h
      simp [h]
set_option maxHeartbeats 2000000 in
theorem c_quFrom (neg : Bool) (m : List Int) (tens : Int) (up : Bool) (hm_ : Lb m) (hl_ : m.length < 33554432) (ht0 : -9223372036854775808 ≤ tens) (ht1 : tens < 9223372036854775808) :
    ∃ t : Num, t = fromN neg m tens up ∧ CallsA Try.prog 28 [.agg [.bool (.s neg), .sli .u32 m, .int .i64 (.s tens)], .bool (.s up)] t.av := by
  refine ⟨_, rfl, ?_⟩
  generalize hr : fromN neg m tens up = r
  have bad : decMayB neg m tens = false → Num.zero = r := by intro h; rw [← hr]; unfold fromN; rw [if_neg (by rw [h]; decide)]
  have good : decMayB neg m tens = true → m.length < 60000000 ∧ -400 ≤ tens ∧ tens ≤ 400 ∧
      (∀ x y : Int, ∀ p1 t1 p2 : Bool × List Int, ∀ z : Num, p1 = whN ((10 ^ x.toNat : Nat) : Int) → x.toNat = tens.toNat → t1 = ((neg != p1.1) && decide (lv m * lv p1.2 ≠ 0), lim (lv m * lv p1.2)) →
        p2 = whN ((10 ^ y.toNat : Nat) : Int) → y.toNat = (-tens).toNat → Lb p1.2 ∧ p1.2.length < 60000000 ∧ Lb t1.2 ∧ t1.2.length ≤ 100000 ∧ Lb p2.2 ∧ p2.2.length ≤ 100000 ∧ (z = ratioN t1.1 (lv t1.2) p2.1 (lv p2.2) up → z = r)) := by
    intro h
    have k := decMay_ok hm_ h
    refine ⟨by omega, k.2.1, k.2.2.1, fun x y p1 t1 p2 z hp1 hx ht1 hp2 hy => ?_⟩
    rw [hx, whN_nat] at hp1
    rw [hy, whN_nat] at hp2
    have l1 := ten_len (k := tens.toNat) (by omega)
    have l2 := ten_len (k := (-tens).toNat) (by omega)
    rw [hp1] at ht1
    dsimp only at ht1
    rw [lv_lim] at ht1
    have lt : (lim (lv m * 10 ^ tens.toNat)).length ≤ 100000 := by
      have a1 := lv_lt hm_
      have a2 := lv_lt (lim_lb (10 ^ tens.toNat))
      rw [lv_lim] at a2
      have a3 : lv m * 10 ^ tens.toNat < 4294967296 ^ (m.length + (lim (10 ^ tens.toNat)).length) := by
        rw [Nat.pow_add]
        exact Nat.mul_lt_mul_of_lt_of_le' a1 (Nat.le_of_lt a2) (Nat.pow_pos (by decide))
      have := lim_length_le a3
      omega
    refine ⟨by rw [hp1]; exact lim_lb _, by rw [hp1]; dsimp only; omega, by rw [ht1]; exact lim_lb _, by rw [ht1]; exact lt, by rw [hp2]; exact lim_lb _, by rw [hp2]; dsimp only; omega, fun hz => ?_⟩
    rw [hz, ht1, hp2, ← hr]
    dsimp only
    unfold fromN
    rw [if_pos h, lv_lim, lv_lim, Bool.bne_false, ratioN_sign]
  clear hr
  refine callsA_of hG hm Try.func28 (by kernel_rfl) ?_
  intro E hE lp hl
  cbv
  (first | (apply E_pcallX hE (c_decMay neg m tens hm_ hl_ ht0 ht1); (case hm => rfl); (case hle => (repeat' (first | exact u_nil | apply u_cons | apply u2_agg | exact u2_int | exact u1_int | exact u2_bool | exact u1_bool | exact u2_sli | exact u1_sli | exact u2_s0 | exact u1_s0))); all_goals (first | (intro y hy; cbv) | (assumption))) | (apply E_callX hE (c_decMay neg m tens hm_ hl_ ht0 ht1); (case hf => rfl); (case hc => (cbv <;> trivial)); (case hle => (repeat' (first | exact u_nil | apply u_cons | apply u2_agg | exact u2_int | exact u1_int | exact u2_bool | exact u1_bool | exact u2_sli | exact u1_sli | exact u2_s0 | exact u1_s0))); all_goals (first | (intro y hy; cbv) | (assumption))))
  refine E_br hE (fun g => ?_) (fun g => ?_) <;> cbv
  · have g : decMayB neg m tens = false := by rw [← hy]; subst hE; cases y; rfl; exact absurd g (by decide)
    rw [← bad g]; exact ⟨rfl, rfl, rfl, rfl, trivial⟩
  have g : decMayB neg m tens = true := by rw [← hy]; subst hE; cases y; exact absurd g (by decide); rfl
  obtain ⟨b1, b2, b3, F⟩ := good g
  clear bad good hy
  have wn : E.bin .sub .i64 0 tens = -tens := by subst hE; show IntKind.i64.wrap (0 - tens) = _; rw [wi64_in (by omega) (by omega)]; omega
  refine E_br hE (fun c1 => ?_) (fun c1 => ?_) <;> cbv
  · have ex : (0 : Int).toNat = tens.toNat := by subst hE; have := gtr_t c1; show (0 : Int).toNat = tens.toNat; omega
    (first | (apply E_pcallX hE (c_qPower 0 ?_ ?_); (case hm => rfl); (case hle => (repeat' (first | exact u_nil | apply u_cons | apply u2_agg | exact u2_int | exact u1_int | exact u2_bool | exact u1_bool | exact u2_sli | exact u1_sli | exact u2_s0 | exact u1_s0))); all_goals (first | (intro p1 hp1; cbv) | (first | decide | exact ht0 | exact b3))) | (apply E_callX hE (c_qPower 0 ?_ ?_); (case hf => rfl); (case hc => (cbv <;> trivial)); (case hle => (repeat' (first | exact u_nil | apply u_cons | apply u2_agg | exact u2_int | exact u1_int | exact u2_bool | exact u1_bool | exact u2_sli | exact u1_sli | exact u2_s0 | exact u1_s0))); all_goals (first | (intro p1 hp1; cbv) | (first | decide | exact ht0 | exact b3))))
    have F1 := fun t1 y p2 z h1 h2 h3 => F 0 y p1 t1 p2 z hp1 ex h1 h2 h3
    have q1 := F1 _ (-tens) _ Num.zero rfl rfl rfl
    apply E_pcallX hE (c_wMul2 neg m p1.1 p1.2 hm_ q1.1 b1 q1.2.1)
    case hm => rfl
    case hle => exact ⟨u2_slc', trivial⟩
    intro t1 ht1
    cbv
    refine E_br hE (fun c2 => ?_) (fun c2 => ?_) <;> cbv
    · have ey : (0 : Int).toNat = (-tens).toNat := by rw [wn] at c2; subst hE; have := gtr_t c2; show (0 : Int).toNat = (-tens).toNat; omega
      (first | (apply E_pcallX hE (c_qPower 0 ?_ ?_); (case hm => rfl); (case hle => (repeat' (first | exact u_nil | apply u_cons | apply u2_agg | exact u2_int | exact u1_int | exact u2_bool | exact u1_bool | exact u2_sli | exact u1_sli | exact u2_s0 | exact u1_s0))); all_goals (first | (intro p2 hp2; cbv) | (first | decide | (rw [wn]; omega)))) | (apply E_callX hE (c_qPower 0 ?_ ?_); (case hf => rfl); (case hc => (cbv <;> trivial)); (case hle => (repeat' (first | exact u_nil | apply u_cons | apply u2_agg | exact u2_int | exact u1_int | exact u2_bool | exact u1_bool | exact u2_sli | exact u1_sli | exact u2_s0 | exact u1_s0))); all_goals (first | (intro p2 hp2; cbv) | (first | decide | (rw [wn]; omega)))))
      have q2 := fun z => F1 t1 0 p2 z ht1 hp2 ey
      have q3 := q2 Num.zero
      (first | (apply E_pcallX hE (c_qRatio t1.1 t1.2 p2.1 p2.2 up q3.2.2.1 q3.2.2.2.2.1 q3.2.2.2.1 q3.2.2.2.2.2.1); (case hm => rfl); (case hle => (repeat' (first | exact u_nil | apply u_cons | apply u2_agg | exact u2_int | exact u1_int | exact u2_bool | exact u1_bool | exact u2_sli | exact u1_sli | exact u2_s0 | exact u1_s0))); all_goals (first | (intro z hz; cbv) | (assumption))) | (apply E_callX hE (c_qRatio t1.1 t1.2 p2.1 p2.2 up q3.2.2.1 q3.2.2.2.2.1 q3.2.2.2.1 q3.2.2.2.2.2.1); (case hf => rfl); (case hc => (cbv <;> trivial)); (case hle => (repeat' (first | exact u_nil | apply u_cons | apply u2_agg | exact u2_int | exact u1_int | exact u2_bool | exact u1_bool | exact u2_sli | exact u1_sli | exact u2_s0 | exact u1_s0))); all_goals (first | (intro z hz; cbv) | (assumption))))
      rw [← (q2 z).2.2.2.2.2.2 hz]; exact ⟨rfl, rfl, rfl, rfl, trivial⟩
    · have ey : ((E.bin .sub .i64 0 tens) : Int).toNat = (-tens).toNat := by rw [wn]
      (first | (apply E_pcallX hE (c_qPower (E.bin .sub .i64 0 tens) ?_ ?_); (case hm => rfl); (case hle => (repeat' (first | exact u_nil | apply u_cons | apply u2_agg | exact u2_int | exact u1_int | exact u2_bool | exact u1_bool | exact u2_sli | exact u1_sli | exact u2_s0 | exact u1_s0))); all_goals (first | (intro p2 hp2; cbv) | (first | decide | (rw [wn]; omega)))) | (apply E_callX hE (c_qPower (E.bin .sub .i64 0 tens) ?_ ?_); (case hf => rfl); (case hc => (cbv <;> trivial)); (case hle => (repeat' (first | exact u_nil | apply u_cons | apply u2_agg | exact u2_int | exact u1_int | exact u2_bool | exact u1_bool | exact u2_sli | exact u1_sli | exact u2_s0 | exact u1_s0))); all_goals (first | (intro p2 hp2; cbv) | (first | decide | (rw [wn]; omega)))))
      have q2 := fun z => F1 t1 (E.bin .sub .i64 0 tens) p2 z ht1 hp2 ey
      have q3 := q2 Num.zero
      (first | (apply E_pcallX hE (c_qRatio t1.1 t1.2 p2.1 p2.2 up q3.2.2.1 q3.2.2.2.2.1 q3.2.2.2.1 q3.2.2.2.2.2.1); (case hm => rfl); (case hle => (repeat' (first | exact u_nil | apply u_cons | apply u2_agg | exact u2_int | exact u1_int | exact u2_bool | exact u1_bool | exact u2_sli | exact u1_sli | exact u2_s0 | exact u1_s0))); all_goals (first | (intro z hz; cbv) | (assumption))) | (apply E_callX hE (c_qRatio t1.1 t1.2 p2.1 p2.2 up q3.2.2.1 q3.2.2.2.2.1 q3.2.2.2.1 q3.2.2.2.2.2.1); (case hf => rfl); (case hc => (cbv <;> trivial)); (case hle => (repeat' (first | exact u_nil | apply u_cons | apply u2_agg | exact u2_int | exact u1_int | exact u2_bool | exact u1_bool | exact u2_sli | exact u1_sli | exact u2_s0 | exact u1_s0))); all_goals (first | (intro z hz; cbv) | (assumption))))
      rw [← (q2 z).2.2.2.2.2.2 hz]; exact ⟨rfl, rfl, rfl, rfl, trivial⟩
  · have ex : (tens : Int).toNat = tens.toNat := rfl
    (first | (apply E_pcallX hE (c_qPower tens ?_ ?_); (case hm => rfl); (case hle => (repeat' (first | exact u_nil | apply u_cons | apply u2_agg | exact u2_int | exact u1_int | exact u2_bool | exact u1_bool | exact u2_sli | exact u1_sli | exact u2_s0 | exact u1_s0))); all_goals (first | (intro p1 hp1; cbv) | (first | decide | exact ht0 | exact b3))) | (apply E_callX hE (c_qPower tens ?_ ?_); (case hf => rfl); (case hc => (cbv <;> trivial)); (case hle => (repeat' (first | exact u_nil | apply u_cons | apply u2_agg | exact u2_int | exact u1_int | exact u2_bool | exact u1_bool | exact u2_sli | exact u1_sli | exact u2_s0 | exact u1_s0))); all_goals (first | (intro p1 hp1; cbv) | (first | decide | exact ht0 | exact b3))))
    have F1 := fun t1 y p2 z h1 h2 h3 => F tens y p1 t1 p2 z hp1 ex h1 h2 h3
    have q1 := F1 _ (-tens) _ Num.zero rfl rfl rfl
    apply E_pcallX hE (c_wMul2 neg m p1.1 p1.2 hm_ q1.1 b1 q1.2.1)
    case hm => rfl
    case hle => exact ⟨u2_slc', trivial⟩
    intro t1 ht1
    cbv
    refine E_br hE (fun c2 => ?_) (fun c2 => ?_) <;> cbv
    · have ey : (0 : Int).toNat = (-tens).toNat := by rw [wn] at c2; subst hE; have := gtr_t c2; show (0 : Int).toNat = (-tens).toNat; omega
      (first | (apply E_pcallX hE (c_qPower 0 ?_ ?_); (case hm => rfl); (case hle => (repeat' (first | exact u_nil | apply u_cons | apply u2_agg | exact u2_int | exact u1_int | exact u2_bool | exact u1_bool | exact u2_sli | exact u1_sli | exact u2_s0 | exact u1_s0))); all_goals (first | (intro p2 hp2; cbv) | (first | decide | (rw [wn]; omega)))) | (apply E_callX hE (c_qPower 0 ?_ ?_); (case hf => rfl); (case hc => (cbv <;> trivial)); (case hle => (repeat' (first | exact u_nil | apply u_cons | apply u2_agg | exact u2_int | exact u1_int | exact u2_bool | exact u1_bool | exact u2_sli | exact u1_sli | exact u2_s0 | exact u1_s0))); all_goals (first | (intro p2 hp2; cbv) | (first | decide | (rw [wn]; omega)))))
      have q2 := fun z => F1 t1 0 p2 z ht1 hp2 ey
      have q3 := q2 Num.zero
      (first | (apply E_pcallX hE (c_qRatio t1.1 t1.2 p2.1 p2.2 up q3.2.2.1 q3.2.2.2.2.1 q3.2.2.2.1 q3.2.2.2.2.2.1); (case hm => rfl); (case hle => (repeat' (first | exact u_nil | apply u_cons | apply u2_agg | exact u2_int | exact u1_int | exact u2_bool | exact u1_bool | exact u2_sli | exact u1_sli | exact u2_s0 | exact u1_s0))); all_goals (first | (intro z hz; cbv) | (assumption))) | (apply E_callX hE (c_qRatio t1.1 t1.2 p2.1 p2.2 up q3.2.2.1 q3.2.2.2.2.1 q3.2.2.2.1 q3.2.2.2.2.2.1); (case hf => rfl); (case hc => (cbv <;> trivial)); (case hle => (repeat' (first | exact u_nil | apply u_cons | apply u2_agg | exact u2_int | exact u1_int | exact u2_bool | exact u1_bool | exact u2_sli | exact u1_sli | exact u2_s0 | exact u1_s0))); all_goals (first | (intro z hz; cbv) | (assumption))))
      rw [← (q2 z).2.2.2.2.2.2 hz]; exact ⟨rfl, rfl, rfl, rfl, trivial⟩
    · have ey : ((E.bin .sub .i64 0 tens) : Int).toNat = (-tens).toNat := by rw [wn]
      (first | (apply E_pcallX hE (c_qPower (E.bin .sub .i64 0 tens) ?_ ?_); (case hm => rfl); (case hle => (repeat' (first | exact u_nil | apply u_cons | apply u2_agg | exact u2_int | exact u1_int | exact u2_bool | exact u1_bool | exact u2_sli | exact u1_sli | exact u2_s0 | exact u1_s0))); all_goals (first | (intro p2 hp2; cbv) | (first | decide | (rw [wn]; omega)))) | (apply E_callX hE (c_qPower (E.bin .sub .i64 0 tens) ?_ ?_); (case hf => rfl); (case hc => (cbv <;> trivial)); (case hle => (repeat' (first | exact u_nil | apply u_cons | apply u2_agg | exact u2_int | exact u1_int | exact u2_bool | exact u1_bool | exact u2_sli | exact u1_sli | exact u2_s0 | exact u1_s0))); all_goals (first | (intro p2 hp2; cbv) | (first | decide | (rw [wn]; omega)))))
      have q2 := fun z => F1 t1 (E.bin .sub .i64 0 tens) p2 z ht1 hp2 ey
      have q3 := q2 Num.zero
      (first | (apply E_pcallX hE (c_qRatio t1.1 t1.2 p2.1 p2.2 up q3.2.2.1 q3.2.2.2.2.1 q3.2.2.2.1 q3.2.2.2.2.2.1); (case hm => rfl); (case hle => (repeat' (first | exact u_nil | apply u_cons | apply u2_agg | exact u2_int | exact u1_int | exact u2_bool | exact u1_bool | exact u2_sli | exact u1_sli | exact u2_s0 | exact u1_s0))); all_goals (first | (intro z hz; cbv) | (assumption))) | (apply E_callX hE (c_qRatio t1.1 t1.2 p2.1 p2.2 up q3.2.2.1 q3.2.2.2.2.1 q3.2.2.2.1 q3.2.2.2.2.2.1); (case hf => rfl); (case hc => (cbv <;> trivial)); (case hle => (repeat' (first | exact u_nil | apply u_cons | apply u2_agg | exact u2_int | exact u1_int | exact u2_bool | exact u1_bool | exact u2_sli | exact u1_sli | exact u2_s0 | exact u1_s0))); all_goals (first | (intro z hz; cbv) | (assumption))))
      rw [← (q2 z).2.2.2.2.2.2 hz]; exact ⟨rfl, rfl, rfl, rfl, trivial⟩

end Go.Proofs.Ytaiillbjhdoikaa.Ev

/- Sums and products of numbers: their order, and their opposites. Plain Lean. -/
namespace Go.Proofs.Ytaiillbjhdoikaa.Ev
open Go

theorem Num.may_fair {n : Num} (h : n.may = true) : n.fair = n := by unfold Num.fair; rw [if_pos h]
theorem Num.opp_inf (b : Bool) : (Num.inf b).opp = Num.inf (!b) := by cases b <;> decide
theorem Num.fair_inf {a : Num} (oa : a.ok) (k : a.fair.kind = 2) : a.fair = Num.inf a.fair.neg := Num.inf_of a.fair_may (Num.fair_ok oa) k

theorem Num.add_inf {a b : Num} (up : Bool) (ka : a.fair.kind = 2) : Num.add a b up = if b.fair.kind = 2 ∧ a.fair.neg ≠ b.fair.neg then Num.inf (!up) else a.fair := by
  unfold Num.add
  by_cases h : b.fair.kind = 2 ∧ a.fair.neg ≠ b.fair.neg
  · rw [if_pos ⟨ka, h⟩, if_pos h]
  · rw [if_neg (fun k => h k.2), if_neg h, if_pos (.inl ka)]
theorem Num.add_inf2 {a b : Num} (oa : a.ok) (ob : b.ok) (up : Bool) (kb : b.fair.kind = 2) : Num.add a b up = if a.fair.kind = 2 ∧ b.fair.neg ≠ a.fair.neg then Num.inf (!up) else b.fair := by
  unfold Num.add
  by_cases h : a.fair.kind = 2 ∧ b.fair.neg ≠ a.fair.neg
  · rw [if_pos ⟨h.1, kb, fun e => h.2 e.symm⟩, if_pos h]
  · rw [if_neg (fun k => h ⟨k.1, fun e => k.2.2 e.symm⟩), if_neg h]
    by_cases ka : a.fair.kind = 2
    · rw [if_pos (.inl ka), Num.fair_inf oa ka, Num.fair_inf ob kb]
      congr 1
      exact (Classical.not_not.1 (fun e => h ⟨ka, e⟩)).symm
    · rw [if_neg (by rw [kb]; simp [ka]), if_pos (.inl kb)]
theorem Num.add_comm {a b : Num} (oa : a.ok) (ob : b.ok) (up : Bool) : Num.add a b up = Num.add b a up := by
  by_cases ka : a.fair.kind = 2
  · rw [Num.add_inf up ka, Num.add_inf2 ob oa up ka]
  · by_cases kb : b.fair.kind = 2
    · rw [Num.add_inf2 oa ob up kb, Num.add_inf up kb]
    · exact (add_best oa ob ka kb up).uniq (add_best ob oa kb ka up) (by decide) (by decide) (by rw [Int.add_comm])

theorem Num.mul_comm {a b : Num} (oa : a.ok) (ob : b.ok) (up : Bool) : Num.mul a b up = Num.mul b a up := by
  have key : a.fair.kind = 2 ∨ b.fair.kind = 2 → Num.mul a b up = Num.mul b a up := by
    intro h
    unfold Num.mul
    by_cases h0 : a.fair.kind = 0 ∨ b.fair.kind = 0
    · have h0' : b.fair.kind = 0 ∨ a.fair.kind = 0 := h0.symm
      rw [if_pos h0]
      exact (if_pos h0').symm
    · have h0' : ¬ (b.fair.kind = 0 ∨ a.fair.kind = 0) := fun k => h0 k.symm
      rw [if_neg h0, if_pos h]
      refine Eq.trans ?_ (Eq.trans (if_pos h.symm).symm (if_neg h0').symm)
      congr 1
      cases a.fair.neg <;> cases b.fair.neg <;> rfl
  by_cases ka : a.fair.kind = 2
  · exact key (.inl ka)
  · by_cases kb : b.fair.kind = 2
    · exact key (.inr kb)
    · exact (mul_best oa ob ka kb up).uniq (mul_best ob oa kb ka up) (pw_pos 0) (pw_pos 0) (by rw [Int.mul_comm a.fair.val])

theorem Best.opp {r : Num} {up : Bool} {t c : Int} (h : Best r up t c) : Best r.opp (!up) (-t) c := by
  have fr := Num.may_fair h.may
  have vr : r.opp.val = -r.val := by rw [Num.opp_val, fr]
  have inj : ∀ b, r.opp = Num.inf b → r = Num.inf (!b) := by
    intro b e
    have := congrArg Num.opp e
    rw [Num.opp_opp, fr, Num.opp_inf] at this
    exact this
  have back : ∀ s : Num, s.may = true → s.ok → ∀ b, s ≠ Num.inf b → s.opp ≠ Num.inf (!b) := by
    intro s ms os b hs e
    have := congrArg Num.opp e
    rw [Num.opp_opp, Num.may_fair ms, Num.opp_inf, Bool.not_not] at this
    exact hs this
  have vs : ∀ s : Num, s.may = true → s.opp.val = -s.val := fun s ms => by rw [Num.opp_val, Num.may_fair ms]
  refine ⟨Num.opp_may r, Num.opp_ok h.ok, fun hu => ?_, fun hu s ms os hs hle => ?_, fun hu s ms os hs hle => ?_, fun hu => ?_⟩
  · have hu' : up = true := by simpa using hu
    obtain ⟨h1, h2⟩ := h.hi hu'
    refine ⟨fun e => h1 (inj _ e), ?_⟩
    rcases h2 with h2 | h2
    · left; rw [h2, Num.opp_inf]; rfl
    · right; rw [vr, Int.neg_mul]; omega
  · have hu' : up = true := by simpa using hu
    have := h.uopt hu' s.opp (Num.opp_may s) (Num.opp_ok os) (back s ms os false hs) (by rw [vs s ms, Int.neg_mul]; omega)
    rw [vs s ms] at this
    rw [vr]; omega
  · have hu' : up = false := by simpa using hu
    have := h.dopt hu' s.opp (Num.opp_may s) (Num.opp_ok os) (back s ms os true hs) (by rw [vs s ms, Int.neg_mul]; omega)
    rw [vs s ms] at this
    rw [vr]; omega
  · have hu' : up = false := by simpa using hu
    obtain ⟨h1, h2⟩ := h.down hu'
    refine ⟨fun e => h1 (inj _ e), ?_⟩
    rcases h2 with h2 | h2
    · left; rw [h2, Num.opp_inf]; rfl
    · right; rw [vr, Int.neg_mul]; omega

theorem Num.opp_fair (n : Num) : n.opp.fair = n.opp := Num.may_fair (Num.opp_may n)
theorem Num.opp_kind (n : Num) : n.opp.kind = n.fair.kind := rfl
end Go.Proofs.Ytaiillbjhdoikaa.Ev

/- What intervals have together, and the least one that has all of some: plain Lean. -/
namespace Go.Proofs.Ytaiillbjhdoikaa.Ev
open Go

/-- those that are not empty, and may be -/
def Iv.goods : List Iv → List Iv
  | [] => []
  | x :: r => if x.fair.empty then goods r else x.fair :: goods r
def Iv.los (l : List Iv) : List Num := (Iv.goods l).map Iv.lo
def Iv.his (l : List Iv) : List Num := (Iv.goods l).map Iv.hi
def Iv.allGood (l : List Iv) : Bool := l.all (fun x => !x.fair.empty)
def Iv.meet (l : List Iv) : Iv := if Iv.allGood l then Iv.make (Num.most (Iv.los l)) (Num.least (Iv.his l)) else Iv.none
def Iv.hull (l : List Iv) : Iv := if (Iv.los l).length = 0 then Iv.none else Iv.make (Num.least (Iv.los l)) (Num.most (Iv.his l))

end Go.Proofs.Ytaiillbjhdoikaa.Ev

/- The law of rules, all but roots: plain Lean. -/
namespace Go.Proofs.Ytaiillbjhdoikaa.Ev
open Go

theorem Iv.bad_two (a b : Iv) : Iv.anyBad [a, b] = (a.bad || b.bad) := by simp [Iv.anyBad]
theorem Iv.bad_one (a : Iv) : Iv.anyBad [a] = a.bad := by simp [Iv.anyBad]

theorem Num.least_perm {w x y z : Num} (hw : w.ok) (hx : x.ok) (hy : y.ok) (hz : z.ok) : Num.least [w, x, y, z] = Num.least [w, y, x, z] := by
  have s1 := Num.least_spec [w, x, y, z] (by simp; exact ⟨hw, hx, hy, hz⟩)
  have s2 := Num.least_spec [w, y, x, z] (by simp; exact ⟨hw, hy, hx, hz⟩)
  refine Num.val_inj s1.1 s2.1 s1.2.1 s2.2.1 ?_
  have l1 := s1.2.2.1
  have l2 := s2.2.2.1
  have top1 := (Num.val_le s1.1 s1.2.1).2
  have top2 := (Num.val_le s2.1 s2.2.1).2
  apply Int.le_antisymm
  · rcases s2.2.2.2 with e | ⟨v, hv, e⟩
    · rw [e, Num.val_inf]; simpa using top1
    · have := l1 v (by simp at hv ⊢; rcases hv with h | h | h | h <;> simp [h])
      rw [e]; exact this
  · rcases s1.2.2.2 with e | ⟨v, hv, e⟩
    · rw [e, Num.val_inf]; simpa using top2
    · have := l2 v (by simp at hv ⊢; rcases hv with h | h | h | h <;> simp [h])
      rw [e]; exact this
theorem Num.most_perm {w x y z : Num} (hw : w.ok) (hx : x.ok) (hy : y.ok) (hz : z.ok) : Num.most [w, x, y, z] = Num.most [w, y, x, z] := by
  have s1 := Num.most_spec [w, x, y, z] (by simp; exact ⟨hw, hx, hy, hz⟩)
  have s2 := Num.most_spec [w, y, x, z] (by simp; exact ⟨hw, hy, hx, hz⟩)
  refine Num.val_inj s1.1 s2.1 s1.2.1 s2.2.1 ?_
  have l1 := s1.2.2.1
  have l2 := s2.2.2.1
  have top1 := (Num.val_le s1.1 s1.2.1).1
  have top2 := (Num.val_le s2.1 s2.2.1).1
  apply Int.le_antisymm
  · rcases s1.2.2.2 with e | ⟨v, hv, e⟩
    · rw [e, Num.val_inf]; simpa using top2
    · have := l2 v (by simp at hv ⊢; rcases hv with h | h | h | h <;> simp [h])
      rw [e]; exact this
  · rcases s2.2.2.2 with e | ⟨v, hv, e⟩
    · rw [e, Num.val_inf]; simpa using top1
    · have := l1 v (by simp at hv ⊢; rcases hv with h | h | h | h <;> simp [h])
      rw [e]; exact this

theorem Iv.mul_comm {a b : Iv} (ha : a.lo.ok ∧ a.hi.ok) (hb : b.lo.ok ∧ b.hi.ok) : Iv.mul a b = Iv.mul b a := by
  unfold Iv.mul
  rw [Iv.bad_two, Iv.bad_two, Bool.or_comm]
  unfold Iv.corners
  rw [Num.least_perm (Num.mul_ok ha.1 hb.1 _) (Num.mul_ok ha.1 hb.2 _) (Num.mul_ok ha.2 hb.1 _) (Num.mul_ok ha.2 hb.2 _),
    Num.most_perm (Num.mul_ok ha.1 hb.1 _) (Num.mul_ok ha.1 hb.2 _) (Num.mul_ok ha.2 hb.1 _) (Num.mul_ok ha.2 hb.2 _)]
  rw [Num.mul_comm ha.1 hb.1 false, Num.mul_comm ha.2 hb.1 false, Num.mul_comm ha.1 hb.2 false, Num.mul_comm ha.2 hb.2 false,
    Num.mul_comm ha.1 hb.1 true, Num.mul_comm ha.2 hb.1 true, Num.mul_comm ha.1 hb.2 true, Num.mul_comm ha.2 hb.2 true]

theorem Iv.neg_eq (a : Iv) : Iv.neg a = if a.bad = true then Iv.none else Iv.make a.hi.opp a.lo.opp := by
  unfold Iv.neg; rw [Iv.bad_one]

theorem Iv.Real.neg {x : Iv} (h : x.Real) : (Iv.mk false x.hi.opp x.lo.opp).Real := by
  have vl : x.lo.opp.val = -x.lo.val := by rw [Num.opp_val, Num.may_fair h.lom]
  have vh : x.hi.opp.val = -x.hi.val := by rw [Num.opp_val, Num.may_fair h.him]
  have l := h.lt
  have g := h.gt
  have le := h.le
  exact ⟨rfl, Num.opp_may _, Num.opp_may _, Num.opp_ok h.hio, Num.opp_ok h.loo, by show x.hi.opp.val ≤ x.lo.opp.val; omega, by show x.hi.opp.val < _; omega, by show _ < x.lo.opp.val; omega⟩
theorem Iv.neg_real {x : Iv} (h : x.Real) : Iv.neg x = ⟨false, x.hi.opp, x.lo.opp⟩ := by
  rw [Iv.neg_eq, if_neg (by rw [h.good]; decide)]
  have := Iv.make_real (lo := x.hi.opp) (hi := x.lo.opp) (by rw [Num.opp_fair, Num.opp_fair]; exact h.neg)
  rw [this, Num.opp_fair, Num.opp_fair]
theorem Iv.neg_neg {a : Iv} (m : a.may = true) (ha : a.lo.ok ∧ a.hi.ok) : Iv.neg (Iv.neg a) = a := by
  cases he : a.empty with
  | true =>
    have := Iv.empty_may m he
    rw [this]; decide
  | false =>
    have r := Iv.real_of m he ha.1 ha.2
    rw [Iv.neg_real r, Iv.neg_real r.neg]
    show Iv.mk false a.lo.opp.opp a.hi.opp.opp = a
    rw [Num.opp_opp, Num.opp_opp, Num.may_fair r.lom, Num.may_fair r.him]
    cases a; simp_all

end Go.Proofs.Ytaiillbjhdoikaa.Ev

/- Squares are within products: plain Lean. -/
namespace Go.Proofs.Ytaiillbjhdoikaa.Ev
open Go

theorem Num.opp_neg {a : Num} (h : a.fair.kind ≠ 0) : a.opp.neg = !a.fair.neg := by
  show (decide (a.fair.kind ≠ 0) && !a.fair.neg) = _
  simp [h]
end Go.Proofs.Ytaiillbjhdoikaa.Ev

/- A square is within the product with itself: plain Lean. -/
namespace Go.Proofs.Ytaiillbjhdoikaa.Ev
open Go

end Go.Proofs.Ytaiillbjhdoikaa.Ev

/- What the contracts of intervals are told with. -/
namespace Go.Proofs.Ytaiillbjhdoikaa.Ev
open Go Go.Proofs
set_option linter.unusedVariables false
set_option linter.unusedSimpArgs false
theorem Iv.fin {t r : Iv} (h : t = r) : t.empty = r.empty ∧ t.lo.kind = r.lo.kind ∧ t.lo.neg = r.lo.neg ∧ t.lo.m = r.lo.m ∧ t.lo.e = r.lo.e ∧ t.hi.kind = r.hi.kind ∧ t.hi.neg = r.hi.neg ∧ t.hi.m = r.hi.m ∧ t.hi.e = r.hi.e ∧ True := by
  subst h; exact ⟨rfl, rfl, rfl, rfl, rfl, rfl, rfl, rfl, rfl, trivial⟩
end Go.Proofs.Ytaiillbjhdoikaa.Ev

/- Contracts: the quotient of intervals. Printed by gen.py out of C10.spec. -/
namespace Go.Proofs.Ytaiillbjhdoikaa.Ev
open Go Go.Proofs
set_option linter.unusedVariables false
set_option linter.unusedSimpArgs false

end Go.Proofs.Ytaiillbjhdoikaa.Ev

/- Contracts: the opposite of an interval, how far from nought, the square. Printed by gen.py out of C11.spec. -/
namespace Go.Proofs.Ytaiillbjhdoikaa.Ev
open Go Go.Proofs
set_option linter.unusedVariables false
set_option linter.unusedSimpArgs false

end Go.Proofs.Ytaiillbjhdoikaa.Ev

/- Contracts: the chapter's examples. Printed by gen.py out of C12a.spec. -/
namespace Go.Proofs.Ytaiillbjhdoikaa.Ev
open Go Go.Proofs
set_option linter.unusedVariables false
set_option linter.unusedSimpArgs false

end Go.Proofs.Ytaiillbjhdoikaa.Ev

/- Contracts: the sum and the difference of two words with a carry; these have no body in the program's form: the model answers at once. -/
namespace Go.Proofs.Ytaiillbjhdoikaa.Ev
open Go Go.Proofs Go.RowKit
set_option linter.unusedVariables false

end Go.Proofs.Ytaiillbjhdoikaa.Ev

/- Contracts: sums. Printed by gen.py out of C14.spec. -/
namespace Go.Proofs.Ytaiillbjhdoikaa.Ev
open Go Go.Proofs
set_option linter.unusedVariables false
set_option linter.unusedSimpArgs false

end Go.Proofs.Ytaiillbjhdoikaa.Ev

/- Contracts: differences. Printed by gen.py out of C15.spec. -/
namespace Go.Proofs.Ytaiillbjhdoikaa.Ev
open Go Go.Proofs
set_option linter.unusedVariables false
set_option linter.unusedSimpArgs false

end Go.Proofs.Ytaiillbjhdoikaa.Ev

/- Contracts: the sum of two numbers. Printed by gen.py out of C16.spec. -/
namespace Go.Proofs.Ytaiillbjhdoikaa.Ev
open Go Go.Proofs
set_option linter.unusedVariables false
set_option linter.unusedSimpArgs false

end Go.Proofs.Ytaiillbjhdoikaa.Ev

/- Contracts: the sum of intervals. -/
namespace Go.Proofs.Ytaiillbjhdoikaa.Ev
open Go Go.Proofs
set_option linter.unusedVariables false
set_option linter.unusedSimpArgs false

def addS (l : List Iv) (n : Int) (z : Iv) : Option (Int × Num × Num) → St
  | none => ⟨[(12, .int .i64 (.s 0)), (11, .int .i64 (.s n)), (10, .slc 9 (.s n) (fun i => Iv.cells (l.getD i z))), (4, .ptr 2 4 (.l 0) 0), (3, .ptr 1 4 (.l 0) 0), (2, .ptr 0 9 (.l 0) 0)],
      [.rows true 9 [.bool (.l false), .int .i64 (.l 0), .bool (.l false), .int .u64 (.l 0), .int .i64 (.l 0), .int .i64 (.l 0), .bool (.l false), .int .u64 (.l 0), .int .i64 (.l 0)]
        [[.bool (.l false), .int .i64 (.l 0), .bool (.l false), .int .u64 (.l 0), .int .i64 (.l 0), .int .i64 (.l 0), .bool (.l false), .int .u64 (.l 0), .int .i64 (.l 0)]],
       .rows true 4 [.int .i64 (.l 0), .bool (.l false), .int .u64 (.l 0), .int .i64 (.l 0)] [[.int .i64 (.l 0), .bool (.l false), .int .u64 (.l 0), .int .i64 (.l 0)]],
       .rows true 4 [.int .i64 (.l 0), .bool (.l false), .int .u64 (.l 0), .int .i64 (.l 0)] [[.int .i64 (.l 0), .bool (.l false), .int .u64 (.l 0), .int .i64 (.l 0)]]]⟩
  | some p => ⟨[(12, .int .i64 (.s p.1)), (11, .int .i64 (.s n)), (10, .slc 9 (.s n) (fun i => Iv.cells (l.getD i z))), (4, .ptr 2 4 (.l 0) 0), (3, .ptr 1 4 (.l 0) 0), (2, .ptr 0 9 (.l 0) 0)],
      [.rows true 9 [.bool (.l false), .int .i64 (.l 0), .bool (.l false), .int .u64 (.l 0), .int .i64 (.l 0), .int .i64 (.l 0), .bool (.l false), .int .u64 (.l 0), .int .i64 (.l 0)]
        [[.bool (.l false), .int .i64 (.l 0), .bool (.l false), .int .u64 (.l 0), .int .i64 (.l 0), .int .i64 (.l 0), .bool (.l false), .int .u64 (.l 0), .int .i64 (.l 0)]],
       .rows true 4 [.int .i64 (.l 0), .bool (.l false), .int .u64 (.l 0), .int .i64 (.l 0)] [Num.cells p.2.1],
       .rows true 4 [.int .i64 (.l 0), .bool (.l false), .int .u64 (.l 0), .int .i64 (.l 0)] [Num.cells p.2.2]]⟩
end Go.Proofs.Ytaiillbjhdoikaa.Ev

/- Contracts: the difference of intervals. Printed by gen.py out of C18.spec. -/
namespace Go.Proofs.Ytaiillbjhdoikaa.Ev
open Go Go.Proofs
set_option linter.unusedVariables false
set_option linter.unusedSimpArgs false
def Iv.sub (a b : Iv) : Iv := Iv.add [a, Iv.neg b]
end Go.Proofs.Ytaiillbjhdoikaa.Ev

/- Contracts: the ends of some intervals. -/
namespace Go.Proofs.Ytaiillbjhdoikaa.Ev
open Go Go.Proofs
set_option linter.unusedVariables false
set_option linter.unusedSimpArgs false

end Go.Proofs.Ytaiillbjhdoikaa.Ev

/- Contracts: what intervals have together, and their hull. -/
namespace Go.Proofs.Ytaiillbjhdoikaa.Ev
open Go Go.Proofs
set_option linter.unusedVariables false
set_option linter.unusedSimpArgs false

end Go.Proofs.Ytaiillbjhdoikaa.Ev

/- Contracts that tell besides that a result's bits are 64. -/
namespace Go.Proofs.Ytaiillbjhdoikaa.Ev
open Go Go.Proofs
set_option linter.unusedVariables false
set_option linter.unusedSimpArgs false
def Iv.ok (x : Iv) : Prop := x.lo.ok ∧ x.hi.ok
theorem Iv.none_ok : Iv.none.ok := ⟨Num.zero_ok, Num.zero_ok⟩
theorem Iv.fair_ok {x : Iv} (h : x.ok) : x.fair.ok := by
  unfold Iv.fair
  split
  · exact h
  · exact Iv.none_ok
end Go.Proofs.Ytaiillbjhdoikaa.Ev

/- Contracts: the root of an interval. Printed by gen.py out of C23.spec. -/
namespace Go.Proofs.Ytaiillbjhdoikaa.Ev
open Go Go.Proofs
set_option linter.unusedVariables false
set_option linter.unusedSimpArgs false
def Iv.positive : Iv := Iv.make Num.zero (Num.inf false)
def Iv.root (a : Iv) : Iv := if (Iv.meet [a, Iv.positive]).empty then Iv.meet [a, Iv.positive] else Iv.make (Num.root (Iv.meet [a, Iv.positive]).lo false).1 (Num.root (Iv.meet [a, Iv.positive]).hi true).1
theorem nsqrt_word {m k : Nat} (hm : m < 18446744073709551616) (hk : 2 ^ k ≤ 18446744073709551616) : nsqrt (m * 2 ^ k) < 18446744073709551616 := by
  apply sq_lt
  have h1 := (nsqrt_spec (m * 2 ^ k)).1
  have h2 : m * 2 ^ k ≤ m * 18446744073709551616 := Nat.mul_le_mul_left _ hk
  omega
end Go.Proofs.Ytaiillbjhdoikaa.Ev

/- The root of a number: plain Lean. -/
namespace Go.Proofs.Ytaiillbjhdoikaa.Ev
open Go

theorem sq_le_of {x y : Int} (hy : 0 ≤ y) (h : x * x ≤ y * y) : x ≤ y := by
  rcases Int.lt_or_le y x with h1 | h1
  · exfalso
    have h2 : y * y < x * x := by
      have a1 : y * y ≤ y * x := Int.mul_le_mul_of_nonneg_left (Int.le_of_lt h1) hy
      have a2 : y * x < x * x := Int.mul_lt_mul_of_pos_right h1 (by omega)
      omega
    omega
  · exact h1
theorem sq_lt_of {x y : Int} (hy : 0 ≤ y) (h : x * x < y * y) : x < y := by
  rcases Int.lt_or_le x y with h1 | h1
  · exact h1
  · exfalso
    have a1 : y * y ≤ y * x := Int.mul_le_mul_of_nonneg_left h1 hy
    have a2 : y * x ≤ x * x := Int.mul_le_mul_of_nonneg_right h1 (by omega)
    omega

/-- the square that a root of 64 bits comes from -/
theorem root_scale {m e k : Int} (hk0 : 0 ≤ k) (hk : k ≤ 64) (he : -1048576 ≤ e) (he' : e ≤ 1048576) (hp : (e - k) % 2 = 0) :
    pw ((e - k) / 2) * pw ((e - k) / 2) * 2 ^ k.toNat = pw 0 * pw e := by
  have e1 : pw ((e - k) / 2) * pw ((e - k) / 2) = pw 0 * pw (e - k) := by
    have := pw_mul (e := (e - k) / 2) (f := (e - k) / 2) (by omega) (by omega) (by omega)
    rw [this]; congr 2; omega
  have e2 : pw e = pw (e - k) * 2 ^ k.toNat := by
    have := pw_add (e := e - k) (f := k) (by omega) hk0
    rw [← this]; congr 1; omega
  rw [e1, e2, Int.mul_assoc]

theorem root_range {m : Nat} {k : Nat} (hm : 9223372036854775808 ≤ m) (hm' : m < 18446744073709551616) (hk : k = 64 ∨ k = 63) : 9223372036854775808 ≤ nsqrt (m * 2 ^ k) ∧ nsqrt (m * 2 ^ k) < 18446744073709551616 := by
  refine ⟨?_, nsqrt_word hm' (by rcases hk with rfl | rfl <;> decide)⟩
  have h := (nsqrt_spec (m * 2 ^ k)).2
  have h2 : 9223372036854775808 * 9223372036854775808 ≤ m * 2 ^ k := by
    rcases hk with rfl | rfl
    · have : 9223372036854775808 * 2 ^ 64 ≤ m * 2 ^ 64 := Nat.mul_le_mul_right _ hm
      have : (2 : Nat) ^ 64 = 18446744073709551616 := by decide
      omega
    · have : 9223372036854775808 * 2 ^ 63 ≤ m * 2 ^ 63 := Nat.mul_le_mul_right _ hm
      have : (2 : Nat) ^ 63 = 9223372036854775808 := by decide
      omega
  have := sq_lt (s := 9223372036854775808) (t := nsqrt (m * 2 ^ k) + 1) (by omega)
  omega

/-- what a root is grown from: n pw(e'), of which the square is not above, that of the next one above -/
theorem rootF_form {a : Num} (ha : a.Fin) (up : Bool) : ∃ n e' cut, Num.rootF a up = Num.grow false n e' cut up ∧ 9223372036854775808 ≤ n ∧ n < 18446744073709551616 ∧ -1048576 ≤ e' ∧ e' ≤ 1048575 ∧
    (if cut then n * pw e' * (n * pw e') < a.W * pw 0 else n * pw e' * (n * pw e') = a.W * pw 0) ∧ a.W * pw 0 < (n + 1) * pw e' * ((n + 1) * pw e') := by
  have hlo := ha.lo
  have hhi := ha.hi
  have el := ha.elo
  have eh := ha.ehi
  have hW := ha.W
  have core : ∀ k : Nat, (k = 64 ∨ k = 63) → (a.e - (k : Int)) % 2 = 0 → ∃ n e' cut, Num.grow false (nsqrt (a.m.toNat * 2 ^ k)) ((a.e - (k : Int)) / 2) (!decide (nsqrt (a.m.toNat * 2 ^ k) * nsqrt (a.m.toNat * 2 ^ k) = a.m.toNat * 2 ^ k)) up = Num.grow false n e' cut up ∧
      9223372036854775808 ≤ n ∧ n < 18446744073709551616 ∧ -1048576 ≤ e' ∧ e' ≤ 1048575 ∧ (if cut then n * pw e' * (n * pw e') < a.W * pw 0 else n * pw e' * (n * pw e') = a.W * pw 0) ∧ a.W * pw 0 < (n + 1) * pw e' * ((n + 1) * pw e') := by
    intro k hk hp
    have rg := root_range (m := a.m.toNat) (k := k) (by omega) (by omega) hk
    have sc := root_scale (m := a.m) (e := a.e) (k := k) (by omega) (by omega) el eh hp
    rw [Int.toNat_natCast] at sc
    have sp := nsqrt_spec (a.m.toNat * 2 ^ k)
    generalize hs : nsqrt (a.m.toNat * 2 ^ k) = s at *
    have P0 := pw_pos ((a.e - (k : Int)) / 2)
    obtain ⟨P, hP⟩ : ∃ P, P = pw ((a.e - (k : Int)) / 2) := ⟨_, rfl⟩
    rw [← hP] at sc P0
    have p0 : 0 < P * P := Int.mul_pos P0 P0
    have eT : a.W * pw 0 = ((a.m.toNat * 2 ^ k : Nat) : Int) * (P * P) := by
      rw [hW]
      have em : ((a.m.toNat : Nat) : Int) = a.m := by omega
      have e3 : ((a.m.toNat * 2 ^ k : Nat) : Int) = a.m * 2 ^ k := by push_cast; rw [em]
      rw [e3, Int.mul_assoc a.m, Int.mul_comm (pw a.e), ← sc]
      grind
    refine ⟨s, (a.e - (k : Int)) / 2, _, rfl, by omega, by omega, by omega, by omega, ?_, ?_⟩ <;> rw [← hP]
    · rw [eT]
      have e1 : (s : Int) * P * (s * P) = ((s * s : Nat) : Int) * (P * P) := by push_cast; grind
      rw [e1]
      by_cases h : s * s = a.m.toNat * 2 ^ k
      · rw [h]; simp
      · have hlt : s * s < a.m.toNat * 2 ^ k := by omega
        simp only [h, decide_false, Bool.not_false, if_true]
        exact Int.mul_lt_mul_of_pos_right (by exact_mod_cast hlt) p0
    · rw [eT]
      have e1 : ((s : Int) + 1) * P * ((s + 1) * P) = (((s + 1) * (s + 1) : Nat) : Int) * (P * P) := by push_cast; grind
      rw [e1]
      exact Int.mul_lt_mul_of_pos_right (by exact_mod_cast sp.2) p0
  unfold Num.rootF
  by_cases hp : a.e % 2 = 0
  · rw [if_pos hp]; exact core 64 (.inl rfl) (by omega)
  · rw [if_neg hp]; exact core 63 (.inr rfl) (by omega)
end Go.Proofs.Ytaiillbjhdoikaa.Ev

/- The root of a number to either side: sound, and the best. Plain Lean. -/
namespace Go.Proofs.Ytaiillbjhdoikaa.Ev
open Go

theorem grow_dn {n e : Int} {cut : Bool} (h : -1048576 ≤ e) (h' : e ≤ 1048575) : Num.grow false n e cut false = ⟨1, false, n, e⟩ := by
  unfold Num.grow Num.bound
  rw [if_neg (by simp), if_neg (by omega), if_neg (by omega)]
theorem grow_upW {n e : Int} {cut : Bool} (hn : 9223372036854775808 ≤ n) (hn' : n < 18446744073709551616) (h : -1048576 ≤ e) (h' : e ≤ 1048575) :
    (Num.grow false n e cut true).Fin ∧ (Num.grow false n e cut true).neg = false ∧ (Num.grow false n e cut true).W = (if cut then n + 1 else n) * pw e := by
  unfold Num.grow Num.bound
  cases cut with
  | false =>
    rw [if_neg (by simp), if_neg (by omega), if_neg (by omega)]
    exact ⟨⟨rfl, hn, hn', h, by show e ≤ _; omega⟩, rfl, rfl⟩
  | true =>
    rw [if_pos (by rfl)]
    by_cases hw : IntKind.u64.wrap (n + 1) = 0
    · rw [if_pos hw]
      rw [wu64] at hw
      have e1 : n = 18446744073709551615 := by omega
      have e2 : IntKind.i64.wrap (e + 1) = e + 1 := by rw [wi64]; omega
      rw [e2, if_neg (by omega), if_neg (by omega)]
      refine ⟨⟨rfl, (by show (9223372036854775808 : Int) ≤ 9223372036854775808; decide), (by show (9223372036854775808 : Int) < 18446744073709551616; decide), by show _ ≤ e + 1; omega, by show e + 1 ≤ _; omega⟩, rfl, ?_⟩
      show 9223372036854775808 * pw (e + 1) = _
      rw [pw_succ (by omega), e1]
      simp only [if_true]
      omega
    · rw [if_neg hw]
      rw [wu64] at hw
      have e1 : IntKind.u64.wrap (n + 1) = n + 1 := by rw [wu64]; omega
      rw [e1, if_neg (by omega), if_neg (by omega)]
      refine ⟨⟨rfl, by show _ ≤ n + 1; omega, by show n + 1 < _; omega, h, by show e ≤ _; omega⟩, rfl, rfl⟩

theorem rootF_dn {a : Num} (ha : a.Fin) : (Num.rootF a false).Fin ∧ (Num.rootF a false).neg = false ∧ (Num.rootF a false).W * (Num.rootF a false).W ≤ a.W * pw 0 ∧
    ∀ s : Num, s.may = true → s.ok → s.kind ≠ 2 → s.W * s.W ≤ a.W * pw 0 → s.W ≤ (Num.rootF a false).W := by
  obtain ⟨n, e, cut, er, h1, h2, h3, h4, h5, h6⟩ := rootF_form ha false
  have eg := grow_dn (n := n) (cut := cut) h3 h4
  have p := pw_pos e
  refine ⟨?_, ?_, ?_, fun s ms os ks hs => ?_⟩
  · rw [er, eg]; exact ⟨rfl, h1, h2, h3, by show e ≤ _; omega⟩
  · rw [er, eg]
  · rw [er, eg]
    show n * pw e * (n * pw e) ≤ _
    split at h5 <;> omega
  · rw [er]
    exact mag_dn h1 h2 (by omega) ms os ks (sq_lt_of (Int.le_of_lt (Int.mul_pos (by omega) p)) (by omega))
theorem rootF_up {a : Num} (ha : a.Fin) : (Num.rootF a true).Fin ∧ (Num.rootF a true).neg = false ∧ a.W * pw 0 ≤ (Num.rootF a true).W * (Num.rootF a true).W ∧
    ∀ s : Num, s.may = true → s.ok → a.W * pw 0 ≤ s.W * s.W → (Num.rootF a true).W ≤ s.W := by
  obtain ⟨n, e, cut, er, h1, h2, h3, h4, h5, h6⟩ := rootF_form ha true
  obtain ⟨g1, g2, g3⟩ := grow_upW (cut := cut) h1 h2 h3 h4
  have p := pw_pos e
  refine ⟨by rw [er]; exact g1, by rw [er]; exact g2, ?_, fun s ms os hs => ?_⟩
  · rw [er, g3]
    cases cut with
    | false => simp at h5 ⊢; omega
    | true => simp at h5 ⊢; omega
  · rw [er]
    have hs0 := W_nn s ms os
    refine mag_up h1 h2 (by omega) (by omega) ms os ?_
    cases cut with
    | false => simp at h5 ⊢; exact sq_le_of hs0 (by omega)
    | true => simp at h5 ⊢; exact sq_lt_of hs0 (by omega)
end Go.Proofs.Ytaiillbjhdoikaa.Ev

/- How far from nought an interval is lies within the root of its square: plain Lean. -/
namespace Go.Proofs.Ytaiillbjhdoikaa.Ev
open Go

theorem Num.root_fin {x : Num} (h : x.Fin) (hn : x.neg = false) (up : Bool) : (Num.root x up).1 = Num.rootF x up := by
  unfold Num.root
  have e : x.fair = x := Num.may_fair h.may
  rw [e, if_neg (by rw [hn]; simp), if_neg (by rw [h.kind]; simp)]
theorem Num.val_nn {x : Num} (hn : x.neg = false) : x.val = x.W := by unfold Num.val; rw [hn]; rfl

end Go.Proofs.Ytaiillbjhdoikaa.Ev

/- Sums grow with their operands: plain Lean. -/
namespace Go.Proofs.Ytaiillbjhdoikaa.Ev
open Go

/-- a number is finite, or one of the two others -/
theorem Num.three {a : Num} (oa : a.ok) : (a.fair.kind ≠ 2 ∧ -pw 1048640 < a.fair.val ∧ a.fair.val < pw 1048640) ∨ (a.fair = Num.inf false) ∨ (a.fair = Num.inf true) := by
  by_cases k : a.fair.kind = 2
  · have e := Num.fair_inf oa k
    cases h : a.fair.neg with
    | false => rw [h] at e; exact .inr (.inl e)
    | true => rw [h] at e; exact .inr (.inr e)
  · exact .inl ⟨k, (Num.fin_val a.fair_may (Num.fair_ok oa)).1 k⟩
end Go.Proofs.Ytaiillbjhdoikaa.Ev

/- Sums and products grow with their operands: what they rest on. -/

/- Products grow with their operands: plain Lean. -/
namespace Go.Proofs.Ytaiillbjhdoikaa.Ev
open Go

end Go.Proofs.Ytaiillbjhdoikaa.Ev

/- Quotients grow with what is divided, and shrink with the divisor: plain Lean. -/
namespace Go.Proofs.Ytaiillbjhdoikaa.Ev
open Go

theorem Num.div_inf_r {a b : Num} (up : Bool) (h : b.fair.kind = 2) : Num.div a b up = Num.zero := by
  unfold Num.div
  rw [if_neg (by rw [h]; decide), if_pos (.inr h)]
theorem Num.div_inf_l {a b : Num} (up : Bool) (ha : a.fair.kind = 2) (h0 : b.fair.kind ≠ 0) (h2 : b.fair.kind ≠ 2) : Num.div a b up = Num.inf (a.fair.neg != b.fair.neg) := by
  unfold Num.div
  rw [if_neg h0, if_neg (by rintro (k | k); (rw [ha] at k; exact absurd k (by decide)); exact h2 k), if_pos ha]
theorem Num.kind1 {a : Num} (oa : a.ok) (h0 : a.fair.kind ≠ 0) (h2 : a.fair.kind ≠ 2) : a.fair.kind = 1 := (Num.fair_fin oa h0 h2).kind

theorem Num.div_opp_opp {a b : Num} (oa : a.ok) (ob : b.ok) (up : Bool) : Num.div a.opp b.opp up = Num.div a b up := by
  by_cases h0 : b.fair.kind = 0
  · unfold Num.div
    rw [Num.opp_fair, Num.opp_fair, Num.opp_kind, Num.opp_kind, if_pos h0, if_pos h0]
  · by_cases h2 : b.fair.kind = 2
    · rw [Num.div_inf_r up h2, Num.div_inf_r up (by rw [Num.opp_fair, Num.opp_kind]; exact h2)]
    · by_cases ha : a.fair.kind = 2
      · rw [Num.div_inf_l up ha h0 h2, Num.div_inf_l up (by rw [Num.opp_fair, Num.opp_kind]; exact ha) (by rw [Num.opp_fair, Num.opp_kind]; exact h0) (by rw [Num.opp_fair, Num.opp_kind]; exact h2), Num.opp_fair, Num.opp_fair,
          Num.opp_neg h0, Num.opp_neg (by rw [ha]; decide)]
        congr 1
        cases a.fair.neg <;> cases b.fair.neg <;> rfl
      · have k1 := Num.kind1 ob h0 h2
        have w : b.opp.fair.W = b.fair.W := by rw [Num.opp_fair]; rfl
        refine (div_best (Num.opp_ok oa) (Num.opp_ok ob) (by rw [Num.opp_fair, Num.opp_kind]; exact ha) (by rw [Num.opp_fair, Num.opp_kind]; exact k1) up).uniq (div_best oa ob ha k1 up)
          (by rw [w]; exact (Num.fair_fin ob h0 h2).lt.1) (Num.fair_fin ob h0 h2).lt.1 ?_
        rw [w, Num.opp_fair, Num.opp_fair, Num.opp_neg h0, Num.opp_val]
        cases b.fair.neg <;> simp [Int.neg_mul]
theorem Num.div_opp_l {a b : Num} (oa : a.ok) (ob : b.ok) (h0 : b.fair.kind ≠ 0) (up : Bool) : Num.div a.opp b (!up) = (Num.div a b up).opp := by
  by_cases h2 : b.fair.kind = 2
  · rw [Num.div_inf_r up h2, Num.div_inf_r (!up) h2]; decide
  · by_cases ha : a.fair.kind = 2
    · rw [Num.div_inf_l up ha h0 h2, Num.div_inf_l (!up) (by rw [Num.opp_fair, Num.opp_kind]; exact ha) h0 h2, Num.opp_fair, Num.opp_neg (by rw [ha]; decide), Num.opp_inf]
      congr 1
      cases a.fair.neg <;> cases b.fair.neg <;> rfl
    · have k1 := Num.kind1 ob h0 h2
      have p := (Num.fair_fin ob h0 h2).lt.1
      refine (div_best (Num.opp_ok oa) ob (by rw [Num.opp_fair, Num.opp_kind]; exact ha) k1 (!up)).uniq (div_best oa ob ha k1 up).opp p p ?_
      rw [Num.opp_fair, Num.opp_val]
      cases b.fair.neg <;> simp [Int.neg_mul]
theorem Num.div_may {a b : Num} (oa : a.ok) (ob : b.ok) (up : Bool) : (Num.div a b up).may = true := by
  by_cases h0 : b.fair.kind = 0
  · unfold Num.div; rw [if_pos h0]; exact Num.inf_may _
  · by_cases h2 : b.fair.kind = 2
    · rw [Num.div_inf_r up h2]; exact Num.zero_may
    · by_cases ha : a.fair.kind = 2
      · rw [Num.div_inf_l up ha h0 h2]; exact Num.inf_may _
      · exact (div_best oa ob ha (Num.kind1 ob h0 h2) up).may

end Go.Proofs.Ytaiillbjhdoikaa.Ev

/- Products and sums of whole numbers, and what intervals make of them: plain Lean. -/
namespace Go.Proofs.Ytaiillbjhdoikaa.Ev
open Go

theorem min2 (a b : Int) : ∃ m, m ∈ [a, b] ∧ ∀ x ∈ [a, b], m ≤ x := by
  rcases Int.le_total a b with h | h
  · exact ⟨a, by simp, by simp; exact h⟩
  · exact ⟨b, by simp, by simp; exact h⟩
theorem max2 (a b : Int) : ∃ m, m ∈ [a, b] ∧ ∀ x ∈ [a, b], x ≤ m := by
  rcases Int.le_total a b with h | h
  · exact ⟨b, by simp, by simp; exact h⟩
  · exact ⟨a, by simp, by simp; exact h⟩
end Go.Proofs.Ytaiillbjhdoikaa.Ev

/- Plain laws of quotients and roots: by one, by itself, turned; the root of a square. -/
namespace Go.Proofs.Ytaiillbjhdoikaa.Ev
open Go
set_option linter.unusedVariables false
set_option linter.unusedSimpArgs false

theorem Num.root_may_all {x : Num} (ox : x.ok) (up : Bool) : (Num.root x up).1.may = true := by
  unfold Num.root
  split
  · exact Num.zero_may
  · rename_i h1
    split
    · exact Num.fair_may x
    · rename_i h2
      rcases Num.may3 x.fair_may (Num.fair_ok ox) with k | k | k
      · rw [k] at h2; exact absurd (by decide) h2
      · cases up with
        | false => exact (rootF_dn k).1.may
        | true => exact (rootF_up k).1.may
      · rw [k] at h2; exact absurd (show (2 : Int) ≠ 1 by decide) h2

theorem ofInt_one : Num.ofInt 1 = ⟨1, false, 9223372036854775808, -63⟩ := by decide +kernel

theorem div_one {a : Num} (m : a.may = true) (o : a.ok) (up : Bool) : Num.div a (Num.ofInt 1) up = a := by
  have f1 : (Num.ofInt 1).fair = ⟨1, false, 9223372036854775808, -63⟩ := by decide +kernel
  unfold Num.div
  rw [f1, if_neg (by decide), Num.may_fair m]
  rcases Num.may3 m o with k | k | k
  · rw [k, if_pos (by decide)]
  · rw [if_neg (by rw [k.kind]; decide), if_neg (by rw [k.kind]; decide)]
    unfold Num.divF
    dsimp only
    have lo := k.lo
    have elo := k.elo
    have ehi := k.ehi
    have kk := k.kind
    rw [if_pos lo, Int.mul_ediv_cancel _ (by decide), Int.mul_emod_left, decide_eq_false (by decide), show a.e - -63 - 63 = a.e by omega, grow_plain elo ehi, Bool.bne_false]
    cases a; simp_all
  · rw [k]
    generalize a.neg = s
    cases s <;> rfl

theorem div_self {a : Num} (m : a.may = true) (o : a.ok) (h : a.kind = 1) (up : Bool) : Num.div a a up = Num.ofInt 1 := by
  have k : a.Fin := by
    rcases Num.may3 m o with k | k | k
    · rw [k] at h; exact absurd h (by decide)
    · exact k
    · rw [k] at h; exact absurd h (show (2 : Int) ≠ 1 by decide)
  unfold Num.div
  rw [Num.may_fair m, if_neg (by rw [h]; decide), if_neg (by rw [h]; decide), if_neg (by rw [h]; decide)]
  unfold Num.divF
  have lo := k.lo
  rw [if_pos (Int.le_refl _), Int.mul_ediv_cancel_left _ (by omega), Int.mul_emod_right, decide_eq_false (by decide), show a.e - a.e - 63 = -63 by omega, grow_plain (by decide) (by decide), ofInt_one]
  simp

theorem root_sq {n : Int} (h0 : 0 ≤ n) (h1 : n ≤ 1000000000) (up : Bool) : Num.root (Num.ofInt (n * n)) up = (Num.ofInt n, true) := by
  by_cases z : n = 0
  · subst z; cases up <;> decide +kernel
  · have hp : 0 < n := by omega
    have hsq : n * n ≤ 1000000000 * 1000000000 := Int.mul_le_mul h1 h1 h0 (by decide)
    have hsq0 : 0 < n * n := Int.mul_pos hp hp
    obtain ⟨F, W, ng⟩ := ofInt_fin (n := n * n) (by omega) (by omega)
    obtain ⟨G, V, ng2⟩ := ofInt_fin (n := n) (by omega) (by omega)
    have ngf : (Num.ofInt (n * n)).neg = false := by rw [ng]; exact decide_eq_false (by omega)
    have ngg : (Num.ofInt n).neg = false := by rw [ng2]; exact decide_eq_false (by omega)
    have p0 := pw_pos 0
    have e2 : (Num.root (Num.ofInt (n * n)) up).2 = true := by
      unfold Num.root
      rw [Num.may_fair F.may, if_neg (by rw [ngf]; simp), if_neg (by rw [F.kind]; simp)]
    have sqs : (Num.ofInt n).W * (Num.ofInt n).W = (Num.ofInt (n * n)).W * pw 0 := by
      rw [W, V, Int.natAbs_mul, Int.natCast_mul]
      simp only [Int.mul_assoc, Int.mul_comm, Int.mul_left_comm]
    have e1 : (Num.root (Num.ofInt (n * n)) up).1 = Num.ofInt n := by
      rw [Num.root_fin F ngf]
      have wp : 0 ≤ (Num.ofInt n).W := by rw [V]; exact Int.mul_nonneg (Int.natCast_nonneg _) (by omega)
      cases up with
      | false =>
        obtain ⟨r1, r2, r3, r4⟩ := rootF_dn F
        have w1 := r4 _ G.may (Num.ofInt_ok n) (by rw [G.kind]; decide) (by rw [sqs]; exact Int.le_refl _)
        have w2 : (Num.rootF (Num.ofInt (n * n)) false).W ≤ (Num.ofInt n).W := sq_le_of wp (by rw [sqs]; exact r3)
        exact Num.val_inj r1.may G.may ⟨by have := r1.lo; omega, r1.hi⟩ (Num.ofInt_ok n) (by rw [Num.val_nn r2, Num.val_nn ngg]; omega)
      | true =>
        obtain ⟨r1, r2, r3, r4⟩ := rootF_up F
        have w1 := r4 _ G.may (Num.ofInt_ok n) (by rw [sqs]; exact Int.le_refl _)
        have wq : 0 ≤ (Num.rootF (Num.ofInt (n * n)) true).W := by have := r1.lt; omega
        have w2 : (Num.ofInt n).W ≤ (Num.rootF (Num.ofInt (n * n)) true).W := sq_le_of wq (by rw [sqs]; exact r3)
        exact Num.val_inj r1.may G.may ⟨by have := r1.lo; omega, r1.hi⟩ (Num.ofInt_ok n) (by rw [Num.val_nn r2, Num.val_nn ngg]; omega)
    exact Prod.ext e1 e2

theorem div_turns {a b : Num} (oa : a.ok) (ob : b.ok) (h0 : b.fair.kind ≠ 0) (up : Bool) : (Num.div a.opp b (!up)).opp = Num.div a b up ∧ Num.div a.opp b.opp up = Num.div a b up := by
  refine ⟨?_, Num.div_opp_opp oa ob up⟩
  rw [Num.div_opp_l oa ob h0, Num.opp_opp, Num.may_fair (Num.div_may oa ob up)]
end Go.Proofs.Ytaiillbjhdoikaa.Ev

/- Contract of the seventh chapter's examples. Printed by gen.py. -/
namespace Go.Proofs.Ytaiillbjhdoikaa.Ev
open Go Go.Proofs
set_option linter.unusedVariables false
set_option linter.unusedSimpArgs false

attribute [local irreducible] Lb whN
theorem aw7a : (Num.div (Num.ofInt 1) (Num.ofInt 3) false).kind = 1 := by decide +kernel
theorem aw7b : Num.next (Num.div (Num.ofInt 1) (Num.ofInt 3) false) true = Num.div (Num.ofInt 1) (Num.ofInt 3) true := by decide +kernel
theorem aw7c : Num.root (Num.ofInt 4) true = (Num.ofInt 2, true) := root_sq (n := 2) (by decide) (by decide) true
theorem aw7d : ratioN false (5 * 10 ^ 0) false (10 ^ 1) false = Num.mul (Num.ofInt 1) ⟨1, false, 9223372036854775808, -64⟩ true := by decide +kernel
theorem aw7e : fromN false [5] (-1) false = Num.mul (Num.ofInt 1) ⟨1, false, 9223372036854775808, -64⟩ true := by
  have l5 : lv [(5 : Int)] = 5 := rfl
  have t5 : t10 5 = 0 := t10_stop (by decide)
  have s5 : (decS 5).length = 1 := by
    unfold decS
    rw [if_neg (by decide), digR_pos (by decide), show 5 / 10 = 0 by rfl, digR_zero]; rfl
  have lm5 : (lim 5).length = 1 := by decide +kernel
  have m5 : decMake false 5 (-1) = ((false, lim 5, -1), 0) := by
    unfold decMake
    rw [t5, if_neg (by decide), if_neg (by decide), if_neg]
    · simp
    · simp only [Nat.pow_zero, Nat.div_one, s5, lm5]; decide
  have k : decMayB false [5] (-1) = true := by
    unfold decMayB
    rw [if_neg (by decide), l5, m5]; decide
  unfold fromN
  rw [if_pos k, l5]
  exact aw7d
theorem num_eq_t {E : Env} (hE : E = realE Try.prog) (a b : Num) (h : a = b) : E.band (E.cmp .eql a.kind b.kind) (E.band (E.beq a.neg b.neg) (E.band (E.cmp .eql a.m b.m) (E.cmp .eql a.e b.e))) = true := by
  subst hE; subst h
  simp [realE, cmpR]
set_option maxHeartbeats 2000000 in
theorem c_awake07 : ∃ t : Bool, t = true ∧ CallsA Try.prog 20 [] (.bool (.s t)) := by
  refine ⟨_, rfl, ?_⟩
  have lb5 : Lb [(5 : Int)] := Lb.cons (by decide) (by decide) Lb.nil
  refine callsA_of hG hm Try.func20 (by kernel_rfl) ?_
  intro E hE lp hl'
  have es : E.sub [5] 0 1 = [5] := by subst hE; rfl
  cbv
  (first | (apply E_pcallX hE (c_Of 1 (by decide) (by decide)); (case hm => rfl); (case hle => (repeat' (first | exact u_nil | apply u_cons | apply u2_agg | exact u2_int | exact u1_int | exact u2_bool | exact u1_bool | exact u2_sli | exact u1_sli | exact u2_s0 | exact u1_s0))); all_goals (first | (intro o1 h1; cbv) | (assumption))) | (apply E_callX hE (c_Of 1 (by decide) (by decide)); (case hf => rfl); (case hc => (cbv <;> trivial)); (case hle => (repeat' (first | exact u_nil | apply u_cons | apply u2_agg | exact u2_int | exact u1_int | exact u2_bool | exact u1_bool | exact u2_sli | exact u1_sli | exact u2_s0 | exact u1_s0))); all_goals (first | (intro o1 h1; cbv) | (assumption))))
  (first | (apply E_pcallX hE (c_Of 3 (by decide) (by decide)); (case hm => rfl); (case hle => (repeat' (first | exact u_nil | apply u_cons | apply u2_agg | exact u2_int | exact u1_int | exact u2_bool | exact u1_bool | exact u2_sli | exact u1_sli | exact u2_s0 | exact u1_s0))); all_goals (first | (intro o3 h3; cbv) | (assumption))) | (apply E_callX hE (c_Of 3 (by decide) (by decide)); (case hf => rfl); (case hc => (cbv <;> trivial)); (case hle => (repeat' (first | exact u_nil | apply u_cons | apply u2_agg | exact u2_int | exact u1_int | exact u2_bool | exact u1_bool | exact u2_sli | exact u1_sli | exact u2_s0 | exact u1_s0))); all_goals (first | (intro o3 h3; cbv) | (assumption))))
  have k1 : o1.ok := by rw [h1]; exact Num.ofInt_ok 1
  have k3 : o3.ok := by rw [h3]; exact Num.ofInt_ok 3
  (first | (apply E_pcallX hE (c_quDiv ⟨_, _, _, _⟩ ⟨_, _, _, _⟩ _ ?_ ?_); (case hm => rfl); (case hle => (repeat' (first | exact u_nil | apply u_cons | apply u2_agg | exact u2_int | exact u1_int | exact u2_bool | exact u1_bool | exact u2_sli | exact u1_sli | exact u2_s0 | exact u1_s0))); all_goals (first | (intro lo hlo; cbv) | (first | exact k1 | exact k3))) | (apply E_callX hE (c_quDiv ⟨_, _, _, _⟩ ⟨_, _, _, _⟩ _ ?_ ?_); (case hf => rfl); (case hc => (cbv <;> trivial)); (case hle => (repeat' (first | exact u_nil | apply u_cons | apply u2_agg | exact u2_int | exact u1_int | exact u2_bool | exact u1_bool | exact u2_sli | exact u1_sli | exact u2_s0 | exact u1_s0))); all_goals (first | (intro lo hlo; cbv) | (first | exact k1 | exact k3))))
  (first | (apply E_pcallX hE (c_Of 1 (by decide) (by decide)); (case hm => rfl); (case hle => (repeat' (first | exact u_nil | apply u_cons | apply u2_agg | exact u2_int | exact u1_int | exact u2_bool | exact u1_bool | exact u2_sli | exact u1_sli | exact u2_s0 | exact u1_s0))); all_goals (first | (intro p1 g1; cbv) | (assumption))) | (apply E_callX hE (c_Of 1 (by decide) (by decide)); (case hf => rfl); (case hc => (cbv <;> trivial)); (case hle => (repeat' (first | exact u_nil | apply u_cons | apply u2_agg | exact u2_int | exact u1_int | exact u2_bool | exact u1_bool | exact u2_sli | exact u1_sli | exact u2_s0 | exact u1_s0))); all_goals (first | (intro p1 g1; cbv) | (assumption))))
  (first | (apply E_pcallX hE (c_Of 3 (by decide) (by decide)); (case hm => rfl); (case hle => (repeat' (first | exact u_nil | apply u_cons | apply u2_agg | exact u2_int | exact u1_int | exact u2_bool | exact u1_bool | exact u2_sli | exact u1_sli | exact u2_s0 | exact u1_s0))); all_goals (first | (intro p3 g3; cbv) | (assumption))) | (apply E_callX hE (c_Of 3 (by decide) (by decide)); (case hf => rfl); (case hc => (cbv <;> trivial)); (case hle => (repeat' (first | exact u_nil | apply u_cons | apply u2_agg | exact u2_int | exact u1_int | exact u2_bool | exact u1_bool | exact u2_sli | exact u1_sli | exact u2_s0 | exact u1_s0))); all_goals (first | (intro p3 g3; cbv) | (assumption))))
  have j1 : p1.ok := by rw [g1]; exact Num.ofInt_ok 1
  have j3 : p3.ok := by rw [g3]; exact Num.ofInt_ok 3
  (first | (apply E_pcallX hE (c_quDiv ⟨_, _, _, _⟩ ⟨_, _, _, _⟩ _ ?_ ?_); (case hm => rfl); (case hle => (repeat' (first | exact u_nil | apply u_cons | apply u2_agg | exact u2_int | exact u1_int | exact u2_bool | exact u1_bool | exact u2_sli | exact u1_sli | exact u2_s0 | exact u1_s0))); all_goals (first | (intro hi hhi; cbv) | (first | exact j1 | exact j3))) | (apply E_callX hE (c_quDiv ⟨_, _, _, _⟩ ⟨_, _, _, _⟩ _ ?_ ?_); (case hf => rfl); (case hc => (cbv <;> trivial)); (case hle => (repeat' (first | exact u_nil | apply u_cons | apply u2_agg | exact u2_int | exact u1_int | exact u2_bool | exact u1_bool | exact u2_sli | exact u1_sli | exact u2_s0 | exact u1_s0))); all_goals (first | (intro hi hhi; cbv) | (first | exact j1 | exact j3))))
  (first | (apply E_pcallX hE (c_Of 4 (by decide) (by decide)); (case hm => rfl); (case hle => (repeat' (first | exact u_nil | apply u_cons | apply u2_agg | exact u2_int | exact u1_int | exact u2_bool | exact u1_bool | exact u2_sli | exact u1_sli | exact u2_s0 | exact u1_s0))); all_goals (first | (intro p4 g4; cbv) | (assumption))) | (apply E_callX hE (c_Of 4 (by decide) (by decide)); (case hf => rfl); (case hc => (cbv <;> trivial)); (case hle => (repeat' (first | exact u_nil | apply u_cons | apply u2_agg | exact u2_int | exact u1_int | exact u2_bool | exact u1_bool | exact u2_sli | exact u1_sli | exact u2_s0 | exact u1_s0))); all_goals (first | (intro p4 g4; cbv) | (assumption))))
  have j4 : p4.ok := by rw [g4]; exact Num.ofInt_ok 4
  (first | (apply E_pcallX hE (c_quRoot ⟨_, _, _, _⟩ _ ?_); (case hm => rfl); (case hle => (repeat' (first | exact u_nil | apply u_cons | apply u2_agg | exact u2_int | exact u1_int | exact u2_bool | exact u1_bool | exact u2_sli | exact u1_sli | exact u2_s0 | exact u1_s0))); all_goals (first | (intro rt hrt; cbv) | (exact j4))) | (apply E_callX hE (c_quRoot ⟨_, _, _, _⟩ _ ?_); (case hf => rfl); (case hc => (cbv <;> trivial)); (case hle => (repeat' (first | exact u_nil | apply u_cons | apply u2_agg | exact u2_int | exact u1_int | exact u2_bool | exact u1_bool | exact u2_sli | exact u1_sli | exact u2_s0 | exact u1_s0))); all_goals (first | (intro rt hrt; cbv) | (exact j4))))
  (first | (apply E_pcallX hE (c_quFrom false _ (-1) false ?_ ?_ ?_ ?_); (case hm => rfl); (case hle => (repeat' (first | exact u_nil | apply u_cons | apply u2_agg | exact u2_int | exact u1_int | exact u2_bool | exact u1_bool | exact u2_sli | exact u1_sli | exact u2_s0 | exact u1_s0))); all_goals (first | (intro h hh; cbv) | ((first | (show Lb (E.sub [5] 0 1); rw [es]; exact lb5) | (show (E.sub [5] 0 1).length < 33554432; rw [es]; decide) | decide)))) | (apply E_callX hE (c_quFrom false _ (-1) false ?_ ?_ ?_ ?_); (case hf => rfl); (case hc => (cbv <;> trivial)); (case hle => (repeat' (first | exact u_nil | apply u_cons | apply u2_agg | exact u2_int | exact u1_int | exact u2_bool | exact u1_bool | exact u2_sli | exact u1_sli | exact u2_s0 | exact u1_s0))); all_goals (first | (intro h hh; cbv) | ((first | (show Lb (E.sub [5] 0 1); rw [es]; exact lb5) | (show (E.sub [5] 0 1).length < 33554432; rw [es]; decide) | decide)))))
  have elo : lo = Num.div (Num.ofInt 1) (Num.ofInt 3) false := by have k : lo = Num.div o1 o3 false := hlo; rw [k, h1, h3]
  have ehi : hi = Num.div (Num.ofInt 1) (Num.ofInt 3) true := by have k : hi = Num.div p1 p3 true := hhi; rw [k, g1, g3]
  have ert : rt = (Num.ofInt 2, true) := by have k : rt = Num.root p4 true := hrt; rw [k, g4, aw7c]
  have eh : h = Num.mul (Num.ofInt 1) ⟨1, false, 9223372036854775808, -64⟩ true := by have k : h = fromN false (E.sub [5] 0 1) (-1) false := hh; rw [k, es, aw7e]
  clear hlo hhi hrt hh
  have b1 : E.cmp .eql lo.kind 1 = true := by rw [elo]; subst hE; rw [show (realE Try.prog).cmp .eql (Num.div (Num.ofInt 1) (Num.ofInt 3) false).kind 1 = decide ((Num.div (Num.ofInt 1) (Num.ofInt 3) false).kind = 1) from cmp_eql _ _, aw7a]; rfl
  refine E_br_t hE b1 ?_; cbv
  (first | (apply E_pcallX hE (c_Next ⟨_, _, _, _⟩ true); (case hm => rfl); (case hle => (repeat' (first | exact u_nil | apply u_cons | apply u2_agg | exact u2_int | exact u1_int | exact u2_bool | exact u1_bool | exact u2_sli | exact u1_sli | exact u2_s0 | exact u1_s0))); all_goals (first | (intro nx hnx; cbv) | (assumption))) | (apply E_callX hE (c_Next ⟨_, _, _, _⟩ true); (case hf => rfl); (case hc => (cbv <;> trivial)); (case hle => (repeat' (first | exact u_nil | apply u_cons | apply u2_agg | exact u2_int | exact u1_int | exact u2_bool | exact u1_bool | exact u2_sli | exact u1_sli | exact u2_s0 | exact u1_s0))); all_goals (first | (intro nx hnx; cbv) | (assumption))))
  have enx : nx = hi := by have k : nx = Num.next lo true := hnx; rw [k, elo, ehi, aw7b]
  refine E_br_t hE (num_eq_t hE nx hi enx) ?_; cbv
  have b2 : rt.2 = true := by rw [ert]
  refine E_br_t hE b2 ?_; cbv
  (first | (apply E_pcallX hE (c_Of 2 (by decide) (by decide)); (case hm => rfl); (case hle => (repeat' (first | exact u_nil | apply u_cons | apply u2_agg | exact u2_int | exact u1_int | exact u2_bool | exact u1_bool | exact u2_sli | exact u1_sli | exact u2_s0 | exact u1_s0))); all_goals (first | (intro o2 h2; cbv) | (assumption))) | (apply E_callX hE (c_Of 2 (by decide) (by decide)); (case hf => rfl); (case hc => (cbv <;> trivial)); (case hle => (repeat' (first | exact u_nil | apply u_cons | apply u2_agg | exact u2_int | exact u1_int | exact u2_bool | exact u1_bool | exact u2_sli | exact u1_sli | exact u2_s0 | exact u1_s0))); all_goals (first | (intro o2 h2; cbv) | (assumption))))
  have e2 : rt.1 = o2 := by rw [ert, h2]
  refine E_br_t hE (num_eq_t hE rt.1 o2 e2) ?_; cbv
  (first | (apply E_pcallX hE (c_Of 1 (by decide) (by decide)); (case hm => rfl); (case hle => (repeat' (first | exact u_nil | apply u_cons | apply u2_agg | exact u2_int | exact u1_int | exact u2_bool | exact u1_bool | exact u2_sli | exact u1_sli | exact u2_s0 | exact u1_s0))); all_goals (first | (intro q1 r1; cbv) | (assumption))) | (apply E_callX hE (c_Of 1 (by decide) (by decide)); (case hf => rfl); (case hc => (cbv <;> trivial)); (case hle => (repeat' (first | exact u_nil | apply u_cons | apply u2_agg | exact u2_int | exact u1_int | exact u2_bool | exact u1_bool | exact u2_sli | exact u1_sli | exact u2_s0 | exact u1_s0))); all_goals (first | (intro q1 r1; cbv) | (assumption))))
  have kq : q1.ok := by rw [r1]; exact Num.ofInt_ok 1
  (first | (apply E_pcallX hE (c_Half ⟨_, _, _, _⟩ true ?_); (case hm => rfl); (case hle => (repeat' (first | exact u_nil | apply u_cons | apply u2_agg | exact u2_int | exact u1_int | exact u2_bool | exact u1_bool | exact u2_sli | exact u1_sli | exact u2_s0 | exact u1_s0))); all_goals (first | (intro hf hhf; cbv) | (exact kq))) | (apply E_callX hE (c_Half ⟨_, _, _, _⟩ true ?_); (case hf => rfl); (case hc => (cbv <;> trivial)); (case hle => (repeat' (first | exact u_nil | apply u_cons | apply u2_agg | exact u2_int | exact u1_int | exact u2_bool | exact u1_bool | exact u2_sli | exact u1_sli | exact u2_s0 | exact u1_s0))); all_goals (first | (intro hf hhf; cbv) | (exact kq))))
  have e3 : h = hf := by have k : hf = Num.mul q1 ⟨1, false, 9223372036854775808, -64⟩ true := hhf; rw [k, r1, eh]
  exact num_eq_t hE h hf e3

end Go.Proofs.Ytaiillbjhdoikaa.Ev

/- Contracts of the reference: limbs cut of their noughts, which of two is less, a limb. Printed by gen.py. -/
namespace Go.Proofs.Ytaiillbjhdoikaa.Ev
open Go Go.Proofs
set_option linter.unusedVariables false
set_option linter.unusedSimpArgs false

attribute [local irreducible] Lb
theorem c_rTrim (a : List Int) (ha : Lb a) (hb : a.length ≤ 268435456) : ∃ t : List Int, t = lim (lv a) ∧ CallsA Try.prog 101 [.sli .u32 a] (.sli .u32 t) := by
  refine ⟨_, rfl, ?_⟩
  generalize hr : lim (lv a) = r
  refine callsA_of hG hm Try.func101 (by kernel_rfl) ?_
  intro E hE lp hl
  cbv
  refine E_nm hE (fun n0 hn0 => ?_)
  cbv
  obtain ⟨m, em⟩ : ∃ m : Int → Nat, ∀ i, m i = i.toNat := ⟨_, fun _ => rfl⟩
  obtain ⟨ok, eok⟩ : ∃ ok : Int → Prop, ∀ i, ok i ↔ 0 ≤ i ∧ i ≤ a.length ∧ lv (a.take i.toNat) = lv a := ⟨_, fun _ => Iff.rfl⟩
  refine E_loop hE hG hm hl (fun i : Int => (⟨[(0, .sli .u32 a), (2, .s0), (3, .int .i64 (.s i))], []⟩ : St)) m ok ⟨n0, ?_, stLe rfl ?_⟩ ?_
  · subst hE; replace hn0 : n0 = (a.length : Int) := hn0; subst hn0; exact (eok _).2 ⟨by show (0 : Int) ≤ (a.length : Int); omega, by show (a.length : Int) ≤ a.length; omega, by show lv (a.take ((a.length : Int)).toNat) = _; rw [Int.toNat_natCast, List.take_length]⟩
  · (repeat' (first | exact t_nil | apply t_cons | exact u2_sli | exact u2_int | exact u2_bool | exact u2_ms | exact u2_ptr | exact (rfl : sle2 .s0 .s0)))
  intro i hok
  have h1 := ((eok i).1 hok).1
  have h2 := ((eok i).1 hok).2.1
  have h3 := ((eok i).1 hok).2.2
  have next : 0 < i → a.getD (i - 1).toNat 0 = 0 → m (i - 1) < m i ∧ ok (i - 1) := by
    intro p z
    refine ⟨by rw [em, em]; omega, (eok _).2 ⟨by omega, by omega, ?_⟩⟩
    rw [show (i - 1).toNat = i.toNat - 1 by omega, lv_cut_step (by omega) (by omega) (by rw [← show (i - 1).toNat = i.toNat - 1 by omega]; exact z)]
    exact h3
  have stop : (i ≤ 0 ∨ a.getD (i - 1).toNat 0 ≠ 0) → a.take i.toNat = r := by
    intro z
    rw [← hr]
    refine cut_end ha (by omega) ?_ h3
    rcases z with z | z
    · exact .inl (by omega)
    · rcases Int.lt_or_le 0 i with p | p
      · exact .inr (by rw [← show (i - 1).toNat = i.toNat - 1 by omega]; exact z)
      · exact .inl (by omega)
  have wp : 0 < i → IntKind.i64.wrap (i - 1) = i - 1 := fun p => wi64_pred p (by omega)
  clear hok h3
  cbv
  repeat' (first
    | (refine E_br hE (fun h => ?_) (fun h => ?_) <;> cbv)
    | (refine E_nm hE (fun v hv => ?_); cbv)
    | (refine E_nilS hE (fun b hb => ?_); cbv)
    | fail)
  all_goals (try refine ⟨v, ?_, ?_, stLe rfl ?_⟩)
  all_goals (try ((repeat' (first | exact t_nil | apply t_cons | exact u2_sli | exact u2_int | exact u2_bool | exact u2_ms | exact u2_ptr | exact (rfl : sle2 .s0 .s0))); done))
  all_goals (subst hE; simp only [NatCast.natCast, Int.ofNat_eq_natCast, realE, cmp_eql, cmp_neq, cmp_lss, cmp_leq, cmp_gtr, cmp_geq, intBinR, decide_eq_true_eq, decide_eq_false_iff_not, SI.val, SB.val, Num.eta, Iv.eta] at *)
  all_goals (try (have pz : 0 < i := by assumption
                  rw [wp pz] at *))
  all_goals (first
    | (exfalso; (try simp only [List.length_take, List.length_drop] at *); omega)
    | (rw [‹v = i - 1›]; first | exact (next ‹_› ‹_›).1 | exact (next ‹_› ‹_›).2)
    | (have st := stop (by first | exact .inl (by omega) | exact .inr ‹_›)
       have dr : (a.drop (Int.toNat 0)).take i.toNat = a.take i.toNat := by simp
       first
         | (have z : (a.take i.toNat).length = 0 := by (rw [← dr]; omega)
            rw [List.length_eq_zero_iff.1 z] at st; exact st.symm)
         | (rw [dr, Int.toNat_natCast]; show ((a.take i.toNat).drop 0).take (a.take i.toNat).length = r; rw [List.drop_zero, List.take_length]; exact st)))

end Go.Proofs.Ytaiillbjhdoikaa.Ev

/- Contracts of the reference: a limb, and the sum. Printed by gen.py. -/
namespace Go.Proofs.Ytaiillbjhdoikaa.Ev
open Go Go.Proofs
set_option linter.unusedVariables false
set_option linter.unusedSimpArgs false

attribute [local irreducible] Lb
theorem c_rAt (a : List Int) (i : Int) (ha : Lb a) (h0 : 0 ≤ i) (h1 : i < 9223372036854775808) : ∃ t : Int, t = a.getD i.toNat 0 ∧ CallsA Try.prog 123 [.sli .u32 a, .int .i64 (.s i)] (.int .u64 (.s t)) := by
  refine ⟨_, rfl, ?_⟩
  generalize hr : a.getD i.toNat 0 = r
  have hx := ha.getD i.toNat
  have hp : a.length ≤ i.toNat → a.getD i.toNat 0 = 0 := fun k => getD_past k
  refine callsA_of hG hm Try.func123 (by kernel_rfl) ?_
  intro E hE lp hl
  cbv
  repeat' (first
    | (refine E_br hE (fun h => ?_) (fun h => ?_) <;> cbv)
    | (refine E_nm hE (fun v hv => ?_); cbv)
    | (refine E_nilS hE (fun b hb => ?_); cbv)
    | fail)
  all_goals (subst hE; simp only [NatCast.natCast, Int.ofNat_eq_natCast, realE, cmp_eql, cmp_neq, cmp_lss, cmp_leq, cmp_gtr, cmp_geq, intBinR, decide_eq_true_eq, decide_eq_false_iff_not, SI.val, SB.val, Num.eta, Iv.eta] at *)
  all_goals (try omega)
  all_goals (rw [← hr, ‹v = _›]; exact wu64_id (by omega) (by omega))

theorem rsub_all {l : List Int} {n : Int} (h : n = l.length) : (l.drop (0 : Int).toNat).take n.toNat = l := by subst h; simp
def raddS (a b : List Int) : Int × Int × Option (List Int × Int) → St
  | (i, c, none) => ⟨[(0, .sli .u32 a), (1, .sli .u32 b), (4, .s0), (5, .s0), (6, .int .u64 (.s c)), (7, .int .i64 (.s i))], []⟩
  | (i, c, some (l, n)) => ⟨[(0, .sli .u32 a), (1, .sli .u32 b), (4, .s0), (5, .ms 0 1 (.l 0) (.s n)), (6, .int .u64 (.s c)), (7, .int .i64 (.s i))], [.ints true .u32 l]⟩
def raddL : Option (List Int × Int) → List Int
  | none => []
  | some (l, _) => l
def raddN : Option (List Int × Int) → Int
  | none => 0
  | some (_, n) => n
theorem radd_word {x y c v : Int} (hx : 0 ≤ x ∧ x < 4294967296) (hy : 0 ≤ y ∧ y < 4294967296) (c0 : 0 ≤ c) (c1 : c ≤ 1) (hv : v = IntKind.u64.wrap (IntKind.u64.wrap (x + y) + c)) :
    IntKind.u32.wrap (intBinR .rem .u64 v 4294967296) = (x + y + c) % 4294967296 ∧ intBinR .quo .u64 v 4294967296 = (x + y + c) / 4294967296 := by
  have e : v = x + y + c := by rw [hv, wu64, wu64]; omega
  subst e
  rw [rem_u64 (by omega), quo_u64 (by omega) (by omega), wu32]
  exact ⟨by omega, rfl⟩
theorem c_rAdd (a b : List Int) (ha : Lb a) (hb : Lb b) (hla : a.length < 268435456) (hlb : b.length < 268435456) : ∃ t : List Int, t = lim (lv a + lv b) ∧ CallsA Try.prog 102 [.sli .u32 a, .sli .u32 b] (.sli .u32 t) := by
  refine ⟨_, rfl, ?_⟩
  generalize hr : lim (lv a + lv b) = r
  refine callsA_of hG hm Try.func102 (by kernel_rfl) ?_
  intro E hE lp hl
  cbv
  obtain ⟨m, em⟩ : ∃ m : Int × Int × Option (List Int × Int) → Nat, ∀ p, m p = 2 * (max (a.length : Int) b.length - p.1).toNat + p.2.1.toNat := ⟨_, fun _ => rfl⟩
  obtain ⟨ok, eok⟩ : ∃ ok : Int × Int × Option (List Int × Int) → Prop, ∀ p, ok p ↔ (0 ≤ p.1 ∧ p.1 ≤ max (a.length : Int) b.length + 1 ∧ RAdd a b (raddL p.2.2) p.1.toNat p.2.1 ∧ raddN p.2.2 = (raddL p.2.2).length) := ⟨_, fun _ => Iff.rfl⟩
  refine E_loopM hE hG hm hl (raddS a b) m ok ⟨(0, 0, none), [], (eok _).2 ⟨Int.le_refl _, by show (0 : Int) ≤ _; omega, RAdd.start a b, rfl⟩, stLeM trivial rfl rfl rfl trivial ?_⟩ ?_
  · (repeat' (first | exact m_nil | refine m_consA (ms_le rfl rfl) rfl ?_ | refine m_cons ?_ rfl ?_ | exact u2_int | exact u2_bool | exact u2_sli | exact (rfl : sle2 .s0 .s0)))
  have next : ∀ i c o (v x y : Int), ok (i, c, o) → (i < a.length ∨ i < b.length ∨ 0 < c) → x = a.getD i.toNat 0 → y = b.getD i.toNat 0 → v = IntKind.u64.wrap (IntKind.u64.wrap (x + y) + c) →
      m (IntKind.i64.wrap (i + 1), intBinR .quo .u64 v 4294967296, some (raddL o ++ [IntKind.u32.wrap (intBinR .rem .u64 v 4294967296)], raddN o + 1)) < m (i, c, o) ∧
      ok (IntKind.i64.wrap (i + 1), intBinR .quo .u64 v 4294967296, some (raddL o ++ [IntKind.u32.wrap (intBinR .rem .u64 v 4294967296)], raddN o + 1)) := by
    intro i c o v x y hok hc hx hy hv
    obtain ⟨h1, h2, h3, h4⟩ := (eok _).1 hok
    dsimp only at h1 h2 h3 h4
    have gx := ha.getD i.toNat
    have gy := hb.getD i.toNat
    have c0 := h3.c0
    have c1 := h3.c1
    have st := h3.step ha hb
    have past := h3.past
    rw [← hx, ← hy] at st
    rw [← hx] at gx
    rw [← hy] at gy
    have w := radd_word gx gy c0 c1 hv
    rw [w.1, w.2, wi64_id (by omega) (by omega)]
    have px : a.length ≤ i.toNat → x = 0 := fun k => by rw [hx]; exact getD_past k
    have py : b.length ≤ i.toNat → y = 0 := fun k => by rw [hy]; exact getD_past k
    refine ⟨?_, (eok _).2 ⟨by show 0 ≤ i + 1; omega, ?_, by show RAdd a b _ (i + 1).toNat _; rw [show (i + 1).toNat = i.toNat + 1 by omega]; exact st, ?_⟩⟩
    · rw [em, em]
      show 2 * (max (a.length : Int) b.length - (i + 1)).toNat + ((x + y + c) / 4294967296).toNat < 2 * (max (a.length : Int) b.length - i).toNat + c.toNat
      rcases Int.lt_or_le i (max (a.length : Int) b.length) with k | k
      · omega
      · have := px (by omega); have := py (by omega); omega
    · show i + 1 ≤ _
      rcases Int.lt_or_le i (max (a.length : Int) b.length + 1) with k | k
      · omega
      · have := past (by omega) (by omega); omega
    · show raddN o + 1 = ((raddL o ++ _).length : Int)
      rw [h4]; simp
  have stop : ∀ i c o, ok (i, c, o) → ¬ i < a.length → ¬ i < b.length → ¬ 0 < c → Lb (raddL o) ∧ (raddL o).length ≤ 268435456 ∧ lim (lv (raddL o)) = r ∧ raddN o = (raddL o).length := by
    intro i c o hok n1 n2 n3
    obtain ⟨h1, h2, h3, h4⟩ := (eok _).1 hok
    dsimp only at h1 h2 h3 h4
    refine ⟨h3.lb, by rw [h3.len]; omega, ?_, h4⟩
    rw [h3.stop (by omega) (by omega) n3, hr]
  have bnd : ∀ i c o, ok (i, c, o) → 0 ≤ i ∧ i < 9223372036854775807 ∧ 0 ≤ raddN o ∧ raddN o < 17179869184 ∧ raddN o = (raddL o).length := by
    intro i c o hok
    obtain ⟨h1, h2, h3, h4⟩ := (eok _).1 hok
    dsimp only at h1 h2 h3 h4
    refine ⟨h1, by omega, by rw [h4]; omega, by rw [h4, h3.len]; omega, h4⟩
  rintro ⟨i, c, (_ | ⟨l, n⟩)⟩ hok
  · have nx := fun v x y => next i c none v x y hok
    have sp := stop i c none hok
    have bd := bnd i c none hok
    clear next stop bnd hok
    cbv
    repeat' (first
    | (refine E_br hE (fun h => ?_) (fun h => ?_) <;> cbv)
    | (refine E_nm hE (fun v hv => ?_); cbv)
    | (refine E_nilS hE (fun b hb => ?_); cbv)
    | (apply E_callX hE (c_rAt _ _ ha ?_ ?_); (case hf => rfl); (case hc => (cbv <;> trivial)); (case hle => (first | exact u_up | repeat' (first | exact u_nil | apply u_cons | apply u2_agg | exact u2_int | exact u1_int | exact u2_bool | exact u1_bool | exact u2_sli | exact u1_sli | exact u2_s0 | exact u1_s0))); all_goals (first | (intro t ht; cbv) | ((subst hE; first | exact bd.1 | exact Int.lt_trans bd.2.1 (by decide)))))
    | (apply E_callX hE (c_rAt _ _ hb ?_ ?_); (case hf => rfl); (case hc => (cbv <;> trivial)); (case hle => exact u_up); all_goals (first | (intro t ht; cbv) | ((subst hE; first | exact bd.1 | exact Int.lt_trans bd.2.1 (by decide)))))
    | (apply E_callX hE (c_rTrim _ ?_ ?_); (case hf => rfl); (case hc => (cbv <;> trivial)); (case hle => (repeat' (first | exact u_nil | apply u_cons | apply u2_agg | exact u2_int | exact u1_int | exact u2_bool | exact u1_bool | exact u2_sli | exact u1_sli | exact u2_s0 | exact u1_s0))); all_goals (first | (intro t ht; cbv) | ((subst hE; first | exact Lb.nil | (show (0 : Nat) ≤ 268435456; decide)))))
    | fail)
    case refine_2.none.refine_2.refine_2.refine_2.hK =>
      subst hE
      rw [ht]
      exact (sp (lss_f (by assumption)) (lss_f (by assumption)) (gtr_f (by assumption))).2.2.1
    all_goals rename_i tx htx v1 hv1 w hw
    all_goals refine ⟨(v, w, some (E.sub [E.conv .u32 (E.bin .rem .u64 v1 4294967296)] 0 1, 1)), [1], ?_, ?_, stLeM ⟨rfl, trivial⟩ rfl rfl rfl trivial ?_⟩
    all_goals (try ((repeat' (first | exact m_nil | refine m_consA (ms_le rfl rfl) rfl ?_ | refine m_cons ?_ rfl ?_ | exact u2_int | exact u2_bool | exact u2_sli | exact (rfl : sle2 .s0 .s0))); done))
    all_goals (subst hE; have q := nx v1 tx t (by first | exact .inl (lss_t (by assumption)) | exact .inr (.inl (lss_t (by assumption))) | exact .inr (.inr (gtr_t (by assumption)))) htx ht hv1; have hv' : v = IntKind.i64.wrap (i + 1) := hv; have hw' : w = intBinR .quo .u64 v1 4294967296 := hw; subst hv'; subst hw'; first | exact q.1 | exact q.2)
  · have nx := fun v x y => next i c (some (l, n)) v x y hok
    have sp := stop i c (some (l, n)) hok
    have bd := bnd i c (some (l, n)) hok
    have sl : (l.drop (0 : Int).toNat).take n.toNat = l := rsub_all bd.2.2.2.2
    clear next stop bnd hok
    cbv
    repeat' (first
    | (refine E_br hE (fun h => ?_) (fun h => ?_) <;> cbv)
    | (refine E_nm hE (fun v hv => ?_); cbv)
    | (refine E_nilS hE (fun b hb => ?_); cbv)
    | (apply E_callX hE (c_rAt _ _ ha ?_ ?_); (case hf => rfl); (case hc => (cbv <;> trivial)); (case hle => (first | exact u_up | repeat' (first | exact u_nil | apply u_cons | apply u2_agg | exact u2_int | exact u1_int | exact u2_bool | exact u1_bool | exact u2_sli | exact u1_sli | exact u2_s0 | exact u1_s0))); all_goals (first | (intro t ht; cbv) | ((subst hE; first | exact bd.1 | exact Int.lt_trans bd.2.1 (by decide)))))
    | (apply E_callX hE (c_rAt _ _ hb ?_ ?_); (case hf => rfl); (case hc => (cbv <;> trivial)); (case hle => exact u_up); all_goals (first | (intro t ht; cbv) | ((subst hE; first | exact bd.1 | exact Int.lt_trans bd.2.1 (by decide)))))
    | (apply E_callX hE (c_rTrim _ ?_ ?_); (case hf => rfl); (case hc => (cbv <;> trivial)); (case hle => exact u_up); all_goals (first | (intro t ht; cbv) | ((subst hE; have q := sp (lss_f (by assumption)) (lss_f (by assumption)) (gtr_f (by assumption)); first | (show Lb ((l.drop (0 : Int).toNat).take n.toNat); rw [sl]; exact q.1) | (show ((l.drop (0 : Int).toNat).take n.toNat).length ≤ _; rw [sl]; exact q.2.1)))))
    | fail)
    all_goals (try (exfalso; subst hE; have k1 := leq_f ‹_›; have k2 := bd.2.2.2.1; apply k1; show n + 1 ≤ 17179869184; have k3 : n < 17179869184 := k2; omega))
    case refine_2.some.refine_2.refine_2.refine_2.hK =>
      subst hE
      rw [ht]
      show lim (lv ((l.drop (0 : Int).toNat).take n.toNat)) = r
      rw [sl]
      exact (sp (lss_f (by assumption)) (lss_f (by assumption)) (gtr_f (by assumption))).2.2.1
    all_goals rename_i tx htx v1 hv1 w hw
    all_goals refine ⟨(v, w, some (E.app (E.sub l 0 n) (E.sub [E.conv .u32 (E.bin .rem .u64 v1 4294967296)] 0 1), E.plus n 1)), [2], ?_, ?_, stLeM ⟨rfl, trivial⟩ rfl rfl rfl trivial ?_⟩
    all_goals (try ((repeat' (first | exact m_nil | refine m_consA (ms_le rfl rfl) rfl ?_ | refine m_cons ?_ rfl ?_ | exact u2_int | exact u2_bool | exact u2_sli | exact (rfl : sle2 .s0 .s0))); done))
    all_goals (subst hE; have q := nx v1 tx t (by first | exact .inl (lss_t (by assumption)) | exact .inr (.inl (lss_t (by assumption))) | exact .inr (.inr (gtr_t (by assumption)))) htx ht hv1; have hv' : v = IntKind.i64.wrap (i + 1) := hv; have hw' : w = intBinR .quo .u64 v1 4294967296 := hw; subst hv'; subst hw'; rw [show (realE Try.prog).sub l 0 n = l from sl]; first | exact q.1 | exact q.2)

end Go.Proofs.Ytaiillbjhdoikaa.Ev

/- Contracts of the reference: which of two is less, the difference. Printed by gen.py. -/
namespace Go.Proofs.Ytaiillbjhdoikaa.Ev
open Go Go.Proofs
set_option linter.unusedVariables false
set_option linter.unusedSimpArgs false

attribute [local irreducible] Lb
theorem c_rCmp (a b : List Int) (ha : Lb a) (hb : Lb b) (hla : a.length ≤ 268435456) (hlb : b.length ≤ 268435456) : ∃ t : Int, t = (if lv a < lv b then -1 else if lv b < lv a then 1 else 0 : Int) ∧ CallsA Try.prog 99 [.sli .u32 a, .sli .u32 b] (.int .i64 (.s t)) := by
  refine ⟨_, rfl, ?_⟩
  generalize hr : (if lv a < lv b then -1 else if lv b < lv a then 1 else 0 : Int) = r
  have hl1 := lim_length_le' ha
  have hl2 := lim_length_le' hb
  have l1 := lim_lb (lv a)
  have l2 := lim_lb (lv b)
  have v1 := lv_lim (lv a)
  have v2 := lv_lim (lv b)
  have k1 : (lim (lv a)).length < (lim (lv b)).length → r = -1 := by
    intro h; rw [← hr, if_pos (lim_len_lt h)]
  have k2 : (lim (lv b)).length < (lim (lv a)).length → r = 1 := by
    intro h; have := lim_len_lt h; rw [← hr, if_neg (by omega), if_pos this]
  have k3 : lv (lim (lv a)) < lv (lim (lv b)) → r = -1 := by
    intro h; rw [v1, v2] at h; rw [← hr, if_pos h]
  have k4 : lv (lim (lv b)) < lv (lim (lv a)) → r = 1 := by
    intro h; rw [v1, v2] at h; rw [← hr, if_neg (by omega), if_pos h]
  have k5 : lim (lv a) = lim (lv b) → r = 0 := by
    intro h; have := lim_inj h; rw [← hr, if_neg (by omega), if_neg (by omega)]
  refine callsA_of hG hm Try.func99 (by kernel_rfl) ?_
  intro E hE lp hl
  cbv
  (apply E_callX hE (c_rTrim a ha hla); (case hf => rfl); (case hc => (cbv <;> trivial)); (case hle => exact ⟨u2_sli, trivial⟩); intro x hx; cbv)
  (apply E_callX hE (c_rTrim b hb hlb); (case hf => rfl); (case hc => (cbv <;> trivial)); (case hle => exact ⟨u2_sli, trivial⟩); intro y hy; cbv)
  rw [← hx] at k1 k2 k3 k4 k5 hl1 l1
  rw [← hy] at k1 k2 k3 k4 k5 hl2 l2
  refine E_br hE (fun h0 => ?_) (fun h0 => ?_) <;> cbv
  · refine E_br hE (fun h => ?_) (fun h => ?_) <;> cbv
    · subst hE; have h3 : (x.length : Int) < y.length := lss_t h; exact (k1 (by omega)).symm
    · subst hE
      have h1 : ¬ (x.length : Int) < y.length := lss_f h
      have h2 : ¬ (x.length : Int) = y.length := by simpa only [realE, cmp_neq, decide_eq_true_eq, ne_eq] using h0
      exact (k2 (by omega)).symm
  have hlen : x.length = y.length := by
    subst hE
    have h2 : ¬ ¬ (x.length : Int) = y.length := by simpa only [realE, cmp_neq, decide_eq_false_iff_not, ne_eq] using h0
    omega
  refine E_nm hE (fun n0 hn0 => ?_)
  cbv
  obtain ⟨m, em⟩ : ∃ m : Int → Nat, ∀ i, m i = (i + 1).toNat := ⟨_, fun _ => rfl⟩
  obtain ⟨ok, eok⟩ : ∃ ok : Int → Prop, ∀ i, ok i ↔ -1 ≤ i ∧ i < x.length ∧ x.drop (i + 1).toNat = y.drop (i + 1).toNat := ⟨_, fun _ => Iff.rfl⟩
  refine E_loop hE hG hm hl (fun i : Int => (⟨[(5, .sli .u32 x), (6, .sli .u32 y), (7, .int .i64 (.s i))], []⟩ : St)) m ok ⟨n0, ?_, stLe rfl ?_⟩ ?_
  · have e : n0 = (x.length : Int) - 1 := by
      subst hE
      replace hn0 : n0 = IntKind.i64.wrap ((x.length : Int) - 1) := hn0
      rw [hn0, wi64]; omega
    refine (eok _).2 ⟨by omega, by omega, ?_⟩
    rw [e, show ((x.length : Int) - 1 + 1).toNat = x.length by omega, List.drop_length, List.drop_eq_nil_of_le (by omega)]
  · (repeat' (first | exact t_nil | apply t_cons | exact u2_sli | exact u2_int | exact u2_bool | exact u2_ms | exact u2_ptr | exact (rfl : sle2 .s0 .s0)))
  intro i hok
  have h1 := ((eok i).1 hok).1
  have h2 := ((eok i).1 hok).2.1
  have h3 := ((eok i).1 hok).2.2
  have low : 0 ≤ i → x.getD i.toNat 0 < y.getD i.toNat 0 → -1 = r := by
    intro hi h
    exact (k3 (cmp_step l1 l2 (k := i.toNat) hlen (by omega) (by rw [show i.toNat + 1 = (i + 1).toNat by omega]; exact h3) h)).symm
  have high : 0 ≤ i → y.getD i.toNat 0 < x.getD i.toNat 0 → 1 = r := by
    intro hi h
    exact (k4 (cmp_step l2 l1 (k := i.toNat) hlen.symm (by omega) (by rw [show i.toNat + 1 = (i + 1).toNat by omega]; exact h3.symm) h)).symm
  have same : 0 ≤ i → ¬ y.getD i.toNat 0 < x.getD i.toNat 0 → ¬ x.getD i.toNat 0 < y.getD i.toNat 0 → m (i - 1) < m i ∧ ok (i - 1) := by
    intro hi h h'
    refine ⟨by rw [em, em]; omega, (eok _).2 ⟨by omega, by omega, ?_⟩⟩
    rw [show (i - 1 + 1).toNat = i.toNat by omega]
    exact drop_step hlen (by omega) (by rw [show i.toNat + 1 = (i + 1).toNat by omega]; exact h3) (by omega)
  have done : ¬ 0 ≤ i → 0 = r := by
    intro h
    rw [k5 (by rw [show (i + 1).toNat = 0 by omega] at h3; simpa using h3)]
  have ylen : i < y.length := by omega
  have wp : 0 ≤ i → IntKind.i64.wrap (i - 1) = i - 1 := fun p => by rw [wi64]; omega
  clear h3 k1 k2 k3 k4 k5 hok
  cbv
  repeat' (first
    | (refine E_br hE (fun h => ?_) (fun h => ?_) <;> cbv)
    | (refine E_nm hE (fun v hv => ?_); cbv)
    | (refine E_nilS hE (fun b hb => ?_); cbv)
    | fail)
  all_goals (try refine ⟨v, ?_, ?_, stLe rfl ?_⟩)
  all_goals (try ((repeat' (first | exact t_nil | apply t_cons | exact u2_sli | exact u2_int | exact u2_bool | exact u2_ms | exact u2_ptr | exact (rfl : sle2 .s0 .s0))); done))
  all_goals (subst hE; simp only [NatCast.natCast, Int.ofNat_eq_natCast, realE, cmp_eql, cmp_neq, cmp_lss, cmp_leq, cmp_gtr, cmp_geq, intBinR, decide_eq_true_eq, decide_eq_false_iff_not, SI.val, SB.val, Num.eta, Iv.eta] at *)
  all_goals (first
    | (exfalso; omega)
    | exact done ‹_›
    | exact low ‹_› ‹_›
    | exact high ‹_› ‹_›
    | (rw [‹v = _›, wp ‹_›]; first | exact (same ‹_› ‹_› ‹_›).1 | exact (same ‹_› ‹_› ‹_›).2))

end Go.Proofs.Ytaiillbjhdoikaa.Ev

/- Contracts of the reference: the difference. Printed by gen.py. -/
namespace Go.Proofs.Ytaiillbjhdoikaa.Ev
open Go Go.Proofs
set_option linter.unusedVariables false
set_option linter.unusedSimpArgs false

attribute [local irreducible] Lb
def rsubS (a b : List Int) : Int × Int × Option (List Int × Int) → St
  | (i, c, none) => ⟨[(0, .sli .u32 a), (1, .sli .u32 b), (6, .s0), (7, .int .u64 (.s c)), (8, .int .i64 (.s i))], []⟩
  | (i, c, some (l, n)) => ⟨[(0, .sli .u32 a), (1, .sli .u32 b), (6, .ms 0 1 (.l 0) (.s n)), (7, .int .u64 (.s c)), (8, .int .i64 (.s i))], [.ints true .u32 l]⟩
theorem rsub_word {x y c v : Int} (hx : 0 ≤ x ∧ x < 4294967296) (hy : 0 ≤ y ∧ y < 4294967296) (c0 : 0 ≤ c) (c1 : c ≤ 1) (hv : v = IntKind.u64.wrap (IntKind.u64.wrap (IntKind.u64.wrap (4294967296 + x) - y) - c)) :
    IntKind.u32.wrap (intBinR .rem .u64 v 4294967296) = (4294967296 + x - y - c) % 4294967296 ∧ IntKind.u64.wrap (1 - intBinR .quo .u64 v 4294967296) = 1 - (4294967296 + x - y - c) / 4294967296 := by
  have e : v = 4294967296 + x - y - c := by rw [hv, wu64, wu64, wu64]; omega
  subst e
  rw [rem_u64 (by omega), quo_u64 (by omega) (by omega), wu32, wu64]
  exact ⟨by omega, by omega⟩
theorem c_rSub (a b : List Int) (ha : Lb a) (hb : Lb b) (hla : a.length < 268435456) (hlb : b.length < 268435456) : ∃ t : List Int × Bool, t = (if lv a < lv b then ([], false) else (lim (lv a - lv b), true)) ∧ CallsA Try.prog 122 [.sli .u32 a, .sli .u32 b] (.tup [.sli .u32 t.1, .bool (.s t.2)]) := by
  refine ⟨_, rfl, ?_⟩
  generalize hr : (if lv a < lv b then ([], false) else (lim (lv a - lv b), true) : List Int × Bool) = r
  refine callsA_of hG hm Try.func122 (by kernel_rfl) ?_
  intro E hE lp hl
  cbv
  (apply E_callX hE (c_rCmp a b ha hb (by omega) (by omega)); (case hf => rfl); (case hc => (cbv <;> trivial)); (case hle => exact ⟨u2_sli, u2_sli, trivial⟩); intro tc htc; cbv)
  refine E_br hE (fun h0 => ?_) (fun h0 => ?_) <;> cbv
  · subst hE
    have h1 : tc < 0 := lss_t h0
    have h2 : lv a < lv b := by
      rcases Nat.lt_or_ge (lv a) (lv b) with k | k
      · exact k
      · exfalso; rw [htc, if_neg (by omega)] at h1; split at h1 <;> omega
    rw [if_pos h2] at hr
    subst hr
    exact ⟨rfl, rfl, trivial⟩
  have hle : lv b ≤ lv a := by
    subst hE
    have h1 : ¬ tc < 0 := lss_f h0
    rcases Nat.lt_or_ge (lv a) (lv b) with k | k
    · exfalso; rw [htc, if_pos k] at h1; omega
    · exact k
  rw [if_neg (by omega)] at hr
  clear htc h0
  obtain ⟨m, em⟩ : ∃ m : Int × Int × Option (List Int × Int) → Nat, ∀ p, m p = ((a.length : Int) - p.1).toNat := ⟨_, fun _ => rfl⟩
  obtain ⟨ok, eok⟩ : ∃ ok : Int × Int × Option (List Int × Int) → Prop, ∀ p, ok p ↔ (0 ≤ p.1 ∧ p.1 ≤ (a.length : Int) ∧ RSub a b (raddL p.2.2) p.1.toNat p.2.1 ∧ raddN p.2.2 = (raddL p.2.2).length) := ⟨_, fun _ => Iff.rfl⟩
  refine E_loopM hE hG hm hl (rsubS a b) m ok ⟨(0, 0, none), [], (eok _).2 ⟨Int.le_refl _, by show (0 : Int) ≤ _; omega, RSub.start a b, rfl⟩, stLeM trivial rfl rfl rfl trivial ?_⟩ ?_
  · (repeat' (first | exact m_nil | refine m_consA (ms_le rfl rfl) rfl ?_ | refine m_cons ?_ rfl ?_ | exact u2_int | exact u2_bool | exact u2_sli | exact (rfl : sle2 .s0 .s0)))
  have next : ∀ i c o (v x y : Int), ok (i, c, o) → i < a.length → x = a.getD i.toNat 0 → y = b.getD i.toNat 0 → v = IntKind.u64.wrap (IntKind.u64.wrap (IntKind.u64.wrap (4294967296 + x) - y) - c) →
      m (IntKind.i64.wrap (i + 1), IntKind.u64.wrap (1 - intBinR .quo .u64 v 4294967296), some (raddL o ++ [IntKind.u32.wrap (intBinR .rem .u64 v 4294967296)], raddN o + 1)) < m (i, c, o) ∧
      ok (IntKind.i64.wrap (i + 1), IntKind.u64.wrap (1 - intBinR .quo .u64 v 4294967296), some (raddL o ++ [IntKind.u32.wrap (intBinR .rem .u64 v 4294967296)], raddN o + 1)) := by
    intro i c o v x y hok hc hx hy hv
    obtain ⟨h1, h2, h3, h4⟩ := (eok _).1 hok
    dsimp only at h1 h2 h3 h4
    have gx := ha.getD i.toNat
    have gy := hb.getD i.toNat
    have c0 := h3.c0
    have c1 := h3.c1
    have st := h3.step ha hb
    rw [← hx, ← hy] at st
    rw [← hx] at gx
    rw [← hy] at gy
    have w := rsub_word gx gy c0 c1 hv
    rw [w.1, w.2, wi64_id (by omega) (by omega)]
    refine ⟨by rw [em, em]; show ((a.length : Int) - (i + 1)).toNat < ((a.length : Int) - i).toNat; omega, (eok _).2 ⟨by show 0 ≤ i + 1; omega, by show i + 1 ≤ (a.length : Int); omega, by show RSub a b _ (i + 1).toNat _; rw [show (i + 1).toNat = i.toNat + 1 by omega]; exact st, ?_⟩⟩
    show raddN o + 1 = ((raddL o ++ _).length : Int)
    rw [h4]; simp
  have stop : ∀ i c o, ok (i, c, o) → ¬ i < a.length → Lb (raddL o) ∧ (raddL o).length ≤ 268435456 ∧ (lim (lv (raddL o)), true) = r ∧ raddN o = (raddL o).length := by
    intro i c o hok n1
    obtain ⟨h1, h2, h3, h4⟩ := (eok _).1 hok
    dsimp only at h1 h2 h3 h4
    rw [show i.toNat = a.length by omega] at h3
    refine ⟨h3.lb, by rw [h3.len]; omega, ?_, h4⟩
    rw [h3.stop ha hle, hr]
  have bnd : ∀ i c o, ok (i, c, o) → 0 ≤ i ∧ i < 9223372036854775807 ∧ 0 ≤ raddN o ∧ raddN o < 17179869184 ∧ raddN o = (raddL o).length := by
    intro i c o hok
    obtain ⟨h1, h2, h3, h4⟩ := (eok _).1 hok
    dsimp only at h1 h2 h3 h4
    refine ⟨h1, by omega, by rw [h4]; omega, by rw [h4, h3.len]; omega, h4⟩
  rintro ⟨i, c, (_ | ⟨l, n⟩)⟩ hok
  · have nx := fun v x y => next i c none v x y hok
    have sp := stop i c none hok
    have bd := bnd i c none hok
    clear next stop bnd hok
    cbv
    repeat' (first
    | (refine E_br hE (fun h => ?_) (fun h => ?_) <;> cbv)
    | (refine E_nm hE (fun v hv => ?_); cbv)
    | (refine E_nilS hE (fun b hb => ?_); cbv)
    | (apply E_callX hE (c_rAt _ _ ha ?_ ?_); (case hf => rfl); (case hc => (cbv <;> trivial)); (case hle => (first | exact u_up | repeat' (first | exact u_nil | apply u_cons | apply u2_agg | exact u2_int | exact u1_int | exact u2_bool | exact u1_bool | exact u2_sli | exact u1_sli | exact u2_s0 | exact u1_s0))); all_goals (first | (intro t ht; cbv) | ((subst hE; first | exact bd.1 | exact Int.lt_trans bd.2.1 (by decide)))))
    | (apply E_callX hE (c_rAt _ _ hb ?_ ?_); (case hf => rfl); (case hc => (cbv <;> trivial)); (case hle => exact u_up); all_goals (first | (intro t ht; cbv) | ((subst hE; first | exact bd.1 | exact Int.lt_trans bd.2.1 (by decide)))))
    | (apply E_callX hE (c_rTrim _ ?_ ?_); (case hf => rfl); (case hc => (cbv <;> trivial)); (case hle => (repeat' (first | exact u_nil | apply u_cons | apply u2_agg | exact u2_int | exact u1_int | exact u2_bool | exact u1_bool | exact u2_sli | exact u1_sli | exact u2_s0 | exact u1_s0))); all_goals (first | (intro t ht; cbv) | ((subst hE; first | exact Lb.nil | (show (0 : Nat) ≤ 268435456; decide)))))
    | fail)
    case refine_2.none.refine_2.hK =>
      subst hE
      have q := (sp (lss_f (by assumption))).2.2.1
      rw [← q, ht]
      exact ⟨rfl, rfl, trivial⟩
    all_goals rename_i tx htx v1 hv1 w hw
    all_goals refine ⟨(v, w, some (E.sub [E.conv .u32 (E.bin .rem .u64 v1 4294967296)] 0 1, 1)), [1], ?_, ?_, stLeM ⟨rfl, trivial⟩ rfl rfl rfl trivial ?_⟩
    all_goals (try ((repeat' (first | exact m_nil | refine m_consA (ms_le rfl rfl) rfl ?_ | refine m_cons ?_ rfl ?_ | exact u2_int | exact u2_bool | exact u2_sli | exact (rfl : sle2 .s0 .s0))); done))
    all_goals (subst hE; have q := nx v1 tx t (lss_t (by assumption)) htx ht hv1; have hv' : v = IntKind.i64.wrap (i + 1) := hv; have hw' : w = IntKind.u64.wrap (1 - intBinR .quo .u64 v1 4294967296) := hw; subst hv'; subst hw'; first | exact q.1 | exact q.2)
  · have nx := fun v x y => next i c (some (l, n)) v x y hok
    have sp := stop i c (some (l, n)) hok
    have bd := bnd i c (some (l, n)) hok
    have sl : (l.drop (0 : Int).toNat).take n.toNat = l := rsub_all bd.2.2.2.2
    clear next stop bnd hok
    cbv
    repeat' (first
    | (refine E_br hE (fun h => ?_) (fun h => ?_) <;> cbv)
    | (refine E_nm hE (fun v hv => ?_); cbv)
    | (refine E_nilS hE (fun b hb => ?_); cbv)
    | (apply E_callX hE (c_rAt _ _ ha ?_ ?_); (case hf => rfl); (case hc => (cbv <;> trivial)); (case hle => (first | exact u_up | repeat' (first | exact u_nil | apply u_cons | apply u2_agg | exact u2_int | exact u1_int | exact u2_bool | exact u1_bool | exact u2_sli | exact u1_sli | exact u2_s0 | exact u1_s0))); all_goals (first | (intro t ht; cbv) | ((subst hE; first | exact bd.1 | exact Int.lt_trans bd.2.1 (by decide)))))
    | (apply E_callX hE (c_rAt _ _ hb ?_ ?_); (case hf => rfl); (case hc => (cbv <;> trivial)); (case hle => exact u_up); all_goals (first | (intro t ht; cbv) | ((subst hE; first | exact bd.1 | exact Int.lt_trans bd.2.1 (by decide)))))
    | (apply E_callX hE (c_rTrim _ ?_ ?_); (case hf => rfl); (case hc => (cbv <;> trivial)); (case hle => exact u_up); all_goals (first | (intro t ht; cbv) | ((subst hE; have q := sp (lss_f (by assumption)); first | (show Lb ((l.drop (0 : Int).toNat).take n.toNat); rw [sl]; exact q.1) | (show ((l.drop (0 : Int).toNat).take n.toNat).length ≤ _; rw [sl]; exact q.2.1)))))
    | fail)
    all_goals (try (exfalso; subst hE; have k1 := leq_f ‹_›; have k2 := bd.2.2.2.1; apply k1; show n + 1 ≤ 17179869184; have k3 : n < 17179869184 := k2; omega))
    case refine_2.some.refine_2.hK =>
      subst hE
      have q := (sp (lss_f (by assumption))).2.2.1
      rw [← q, ht]
      show lim (lv ((l.drop (0 : Int).toNat).take n.toNat)) = _ ∧ _
      rw [sl]
      exact ⟨rfl, rfl, trivial⟩
    all_goals rename_i tx htx v1 hv1 w hw
    all_goals refine ⟨(v, w, some (E.app (E.sub l 0 n) (E.sub [E.conv .u32 (E.bin .rem .u64 v1 4294967296)] 0 1), E.plus n 1)), [2], ?_, ?_, stLeM ⟨rfl, trivial⟩ rfl rfl rfl trivial ?_⟩
    all_goals (try ((repeat' (first | exact m_nil | refine m_consA (ms_le rfl rfl) rfl ?_ | refine m_cons ?_ rfl ?_ | exact u2_int | exact u2_bool | exact u2_sli | exact (rfl : sle2 .s0 .s0))); done))
    all_goals (subst hE; have q := nx v1 tx t (lss_t (by assumption)) htx ht hv1; have hv' : v = IntKind.i64.wrap (i + 1) := hv; have hw' : w = IntKind.u64.wrap (1 - intBinR .quo .u64 v1 4294967296) := hw; subst hv'; subst hw'; rw [show (realE Try.prog).sub l 0 n = l from sl]; first | exact q.1 | exact q.2)

end Go.Proofs.Ytaiillbjhdoikaa.Ev

/- Contracts of the reference: the product. Printed by gen.py. -/
namespace Go.Proofs.Ytaiillbjhdoikaa.Ev
open Go Go.Proofs
set_option linter.unusedVariables false
set_option linter.unusedSimpArgs false

attribute [local irreducible] Lb
def rrowS (a b U : List Int) (i N : Int) : Int × Int × Option (List Int × Int) → St
  | (k, c, none) => ⟨[(0, .sli .u32 a), (1, .sli .u32 b), (5, .ms 1 1 (.l 0) (.s N)), (6, .int .i64 (.s i)), (8, .s0), (9, .int .u64 (.s c)), (10, .int .i64 (.s k))], [.dead, .ints true .u32 U]⟩
  | (k, c, some (l, n)) => ⟨[(0, .sli .u32 a), (1, .sli .u32 b), (5, .ms 1 1 (.l 0) (.s N)), (6, .int .i64 (.s i)), (8, .ms 2 1 (.l 0) (.s n)), (9, .int .u64 (.s c)), (10, .int .i64 (.s k))], [.dead, .ints true .u32 U, .ints true .u32 l]⟩
theorem up_sub (o : List Int) : (((([0] : List Int).drop (0 : Int).toNat).take (1 : Int).toNat ++ o).drop (0 : Int).toNat).take (1 + (o.length : Int)).toNat = [0] ++ o := by
  rw [show (1 + (o.length : Int)).toNat = o.length + 1 by omega]
  simp
theorem row_sub {l : List Int} {n x : Int} (h : n = l.length) : ((((l.drop (0 : Int).toNat).take n.toNat) ++ (([x] : List Int).drop (0 : Int).toNat).take (1 : Int).toNat).drop (0 : Int).toNat).take (n + 1).toNat = l ++ [x] := by
  rw [rsub_all h, show (n + 1).toNat = l.length + 1 by omega]
  show ((l ++ [x]).drop 0).take (l.length + 1) = l ++ [x]
  rw [List.drop_zero, List.take_of_length_le (by simp)]
theorem rrow_word {x y c v : Int} (hx : 0 ≤ x ∧ x < 4294967296) (hy : 0 ≤ y ∧ y < 4294967296) (hc : 0 ≤ c ∧ c < 4294967296) (hv : v = IntKind.u64.wrap (IntKind.u64.wrap (IntKind.u64.wrap x * IntKind.u64.wrap y) + c)) :
    IntKind.u32.wrap (intBinR .rem .u64 v 4294967296) = (x * y + c) % 4294967296 ∧ intBinR .quo .u64 v 4294967296 = (x * y + c) / 4294967296 := by
  have d := row_digit hx hy hc
  have e : v = x * y + c := by
    rw [hv, wu64_id (x := x) (by omega) (by omega), wu64_id (x := y) (by omega) (by omega), wu64_id (x := x * y) (by omega) (by omega), wu64_id (by omega) (by omega)]
  subst e
  rw [rem_u64 (by omega), quo_u64 (by omega) (by omega), wu32]
  exact ⟨by omega, rfl⟩
theorem c_rMul (a b : List Int) (ha : Lb a) (hb : Lb b) (hla : a.length < 67108864) (hlb : b.length < 67108864) : ∃ t : List Int, t = lim (lv a * lv b) ∧ CallsA Try.prog 100 [.sli .u32 a, .sli .u32 b] (.sli .u32 t) := by
  refine ⟨_, rfl, ?_⟩
  generalize hr : lim (lv a * lv b) = r
  refine callsA_of hG hm Try.func100 (by kernel_rfl) ?_
  intro E hE lp hl
  cbv
  refine E_nm hE (fun n0 hn0 => ?_)
  cbv
  obtain ⟨m, em⟩ : ∃ m : Int × List Int → Nat, ∀ p, m p = (p.1 + 1).toNat := ⟨_, fun _ => rfl⟩
  obtain ⟨ok, eok⟩ : ∃ ok : Int × List Int → Prop, ∀ p, ok p ↔ (-1 ≤ p.1 ∧ p.1 < b.length ∧ p.2 = lim (lv a * lv (b.drop (p.1 + 1).toNat))) := ⟨_, fun _ => Iff.rfl⟩
  refine E_loopM hE hG hm hl (fun p : Int × List Int => (⟨[(0, .sli .u32 a), (1, .sli .u32 b), (5, .sli .u32 p.2), (6, .int .i64 (.s p.1))], []⟩ : St)) m ok ⟨(n0, []), [], ?_, stLeM trivial rfl rfl rfl trivial ?_⟩ ?_
  · have e : n0 = (b.length : Int) - 1 := by
      subst hE
      replace hn0 : n0 = IntKind.i64.wrap ((b.length : Int) - 1) := hn0
      rw [hn0, wi64]; omega
    refine (eok _).2 ⟨by show -1 ≤ n0; omega, by show n0 < _; omega, ?_⟩
    show [] = lim (lv a * lv (b.drop (n0 + 1).toNat))
    rw [e, show ((b.length : Int) - 1 + 1).toNat = b.length by omega, List.drop_length]; rfl
  · (repeat' (first | exact m_nil | refine m_consA (ms_le rfl rfl) rfl ?_ | refine m_cons ?_ rfl ?_ | exact u2_int | exact u2_bool | exact u2_sli | exact (rfl : sle2 .s0 .s0) | exact u2_s0))
  rintro ⟨i, o⟩ hok
  have h1 := ((eok _).1 hok).1
  have h2 := ((eok _).1 hok).2.1
  have h3 := ((eok _).1 hok).2.2
  dsimp only at h1 h2 h3
  have olen : o.length ≤ 134217728 := by
    have k : lv a * lv (b.drop (i + 1).toNat) < 4294967296 ^ (a.length + b.length) := by
      rw [Nat.pow_add]
      have l1 := lv_lt ha
      have l2 := lv_lt (hb.drop (i + 1).toNat)
      have l3 : 4294967296 ^ (b.drop (i + 1).toNat).length ≤ 4294967296 ^ b.length := Nat.pow_le_pow_right (by decide) (by simp)
      exact Nat.mul_lt_mul'' l1 (by omega)
    have := lim_length_le k
    rw [h3]; omega
  have fin : ∀ (t L : List Int) (c : Int), 0 ≤ i → RRow a (b.getD i.toNat 0) L a.length c → t = lim (lv ([0] ++ o) + lv (L ++ [IntKind.u32.wrap c])) → m (i - 1, t) < m (i, o) ∧ ok (i - 1, t) := by
    intro t L c hi hR ht
    have st := hR.stop
    have c0 := hR.c0
    have c1 := hR.c1
    rw [show IntKind.u32.wrap c = c by rw [wu32]; omega] at ht
    refine ⟨by rw [em, em]; show (i - 1 + 1).toNat < (i + 1).toNat; omega, (eok _).2 ⟨by show -1 ≤ i - 1; omega, by show i - 1 < (b.length : Int); omega, ?_⟩⟩
    show t = lim (lv a * lv (b.drop (i - 1 + 1).toNat))
    rw [ht, st.2, lv_zero_cons, h3, lv_lim, show (i - 1 + 1).toNat = i.toNat by omega, lv_drop_step b i.toNat, show (i + 1).toNat = i.toNat + 1 by omega]
    congr 1
    rw [Nat.mul_add, Nat.add_comm]
    congr 1
    rw [Nat.mul_left_comm]
  have bnds : ∀ (L : List Int) (c : Int), RRow a (b.getD i.toNat 0) L a.length c → Lb ([0] ++ o) ∧ ([0] ++ o).length < 268435456 ∧ Lb (L ++ [IntKind.u32.wrap c]) ∧ (L ++ [IntKind.u32.wrap c]).length < 268435456 := by
    intro L c hR
    have c0 := hR.c0
    have c1 := hR.c1
    rw [show IntKind.u32.wrap c = c by rw [wu32]; omega]
    exact ⟨Lb.cons (by omega) (by omega) (by rw [h3]; exact lim_lb _), by simp; omega, hR.stop.1, by simp [hR.len]; omega⟩
  have last : ¬ 0 ≤ i → Lb o ∧ o.length ≤ 268435456 ∧ lim (lv o) = r := by
    intro hi
    rw [h3, lv_lim, show (i + 1).toNat = 0 by omega, List.drop_zero]
    exact ⟨lim_lb _, by rw [h3, show (i + 1).toNat = 0 by omega, List.drop_zero] at olen; omega, hr⟩
  have es1 : E.sub (E.app (E.sub [0] 0 1) o) 0 (E.plus 1 (E.len o)) = [0] ++ o := by subst hE; exact up_sub o
  have wpi : 0 ≤ i → IntKind.i64.wrap (i - 1) = i - 1 := fun p => by rw [wi64]; omega
  clear h3 hok
  obtain ⟨m2, em2⟩ : ∃ m : Int × Int × Option (List Int × Int) → Nat, ∀ p, m p = ((a.length : Int) - p.1).toNat := ⟨_, fun _ => rfl⟩
  obtain ⟨ok2, eok2⟩ : ∃ ok : Int × Int × Option (List Int × Int) → Prop, ∀ p, ok p ↔ (0 ≤ p.1 ∧ p.1 ≤ (a.length : Int) ∧ RRow a (b.getD i.toNat 0) (raddL p.2.2) p.1.toNat p.2.1 ∧ raddN p.2.2 = (raddL p.2.2).length) := ⟨_, fun _ => Iff.rfl⟩
  have hbi := hb.getD i.toNat
  have start2 : ok2 (0, 0, none) := (eok2 _).2 ⟨Int.le_refl _, by show (0 : Int) ≤ _; omega, RRow.start a _, rfl⟩
  have next : ∀ k c o' (v x : Int), ok2 (k, c, o') → k < a.length → x = a.getD k.toNat 0 → v = IntKind.u64.wrap (IntKind.u64.wrap (IntKind.u64.wrap x * IntKind.u64.wrap (b.getD i.toNat 0)) + c) →
      m2 (IntKind.i64.wrap (k + 1), intBinR .quo .u64 v 4294967296, some (raddL o' ++ [IntKind.u32.wrap (intBinR .rem .u64 v 4294967296)], raddN o' + 1)) < m2 (k, c, o') ∧
      ok2 (IntKind.i64.wrap (k + 1), intBinR .quo .u64 v 4294967296, some (raddL o' ++ [IntKind.u32.wrap (intBinR .rem .u64 v 4294967296)], raddN o' + 1)) := by
    intro k c o' v x hok hc hx hv
    obtain ⟨q1, q2, q3, q4⟩ := (eok2 _).1 hok
    dsimp only at q1 q2 q3 q4
    have gx := ha.getD k.toNat
    have c0 := q3.c0
    have c1 := q3.c1
    have st := q3.step ha hbi
    rw [← hx] at st gx
    have w := rrow_word gx hbi ⟨c0, c1⟩ hv
    rw [w.1, w.2, wi64_id (by omega) (by omega)]
    refine ⟨by rw [em2, em2]; show ((a.length : Int) - (k + 1)).toNat < ((a.length : Int) - k).toNat; omega, (eok2 _).2 ⟨by show 0 ≤ k + 1; omega, by show k + 1 ≤ (a.length : Int); omega, by show RRow a _ _ (k + 1).toNat _; rw [show (k + 1).toNat = k.toNat + 1 by omega]; exact st, ?_⟩⟩
    show raddN o' + 1 = ((raddL o' ++ _).length : Int)
    rw [q4]; simp
  have stop : ∀ k c o', ok2 (k, c, o') → ¬ k < a.length → RRow a (b.getD i.toNat 0) (raddL o') a.length c := by
    intro k c o' hok n1
    obtain ⟨q1, q2, q3, q4⟩ := (eok2 _).1 hok
    dsimp only at q1 q2 q3 q4
    rw [show k.toNat = a.length by omega] at q3
    exact q3
  have bnd : ∀ k c o', ok2 (k, c, o') → 0 ≤ k ∧ k < 9223372036854775807 ∧ 0 ≤ raddN o' ∧ raddN o' < 17179869184 ∧ raddN o' = (raddL o').length := by
    intro k c o' hok
    obtain ⟨q1, q2, q3, q4⟩ := (eok2 _).1 hok
    dsimp only at q1 q2 q3 q4
    refine ⟨q1, by omega, by rw [q4]; omega, by rw [q4, q3.len]; omega, q4⟩
  cbv
  refine E_br hE (fun hi => ?_) (fun hi => ?_) <;> cbv
  · have hi0 : 0 ≤ i := by subst hE; exact geq_t hi
    refine E_br hE (fun hle => ?_) (fun hle => ?_) <;> cbv
    · refine E_loopM hE hG hm hl (rrowS a b (E.app (E.sub [0] 0 1) o) i (E.plus 1 (E.len o))) m2 ok2 ⟨(0, 0, none), [0, 1], start2, stLeM ⟨rfl, trivial⟩ rfl rfl rfl trivial ?_⟩ ?_
      · (repeat' (first | exact m_nil | refine m_consA (ms_le rfl rfl) rfl ?_ | refine m_cons ?_ rfl ?_ | exact u2_int | exact u2_bool | exact u2_sli | exact (rfl : sle2 .s0 .s0) | exact u2_s0))
      rintro ⟨k, c, (_ | ⟨l, n⟩)⟩ hok2
      · have nx := fun v x => next k c none v x hok2
        have sp := stop k c none hok2
        have bd := bnd k c none hok2
        have es2 : E.sub (E.sub [E.conv .u32 c] 0 1) 0 1 = [] ++ [E.conv .u32 c] := by subst hE; rfl
        clear next stop bnd hok2
        cbv
        repeat' (first
    | (refine E_br hE (fun h => ?_) (fun h => ?_) <;> cbv)
    | (refine E_nm hE (fun v hv => ?_); cbv)
    | (refine E_nilS hE (fun b hb => ?_); cbv)
    | (apply E_callX hE (c_rAdd _ _ ?_ ?_ ?_ ?_); (case hf => rfl); (case hc => (cbv <;> trivial)); (case hle => exact u_up); all_goals (first | (intro t ht; cbv) | ((have q : ¬ k < a.length := (by subst hE; exact lss_f (by assumption)); have q := bnds _ c (sp q); first | (show Lb (E.sub (E.app (E.sub [0] 0 1) o) 0 (E.plus 1 (E.len o))); rw [es1]; exact q.1) | (show (E.sub (E.app (E.sub [0] 0 1) o) 0 (E.plus 1 (E.len o))).length < _; rw [es1]; exact q.2.1) | (subst hE; exact q.2.2.1) | (subst hE; exact q.2.2.2)))))
    | fail)
        all_goals (try (exfalso; subst hE; first
          | exact absurd bd.1 (leq_f (by assumption))
          | exact absurd hi0 (leq_f (by assumption))
          | exact absurd h2 (lss_f (by assumption))
          | exact absurd (lss_t (a := k) (b := (a.length : Int)) (by assumption)) (lss_f (by assumption))
          | (have k1 := leq_f (by assumption); apply k1; have k2 := bd.2.2.2.1; show n + 1 ≤ 17179869184; have k3 : n < 17179869184 := k2; omega)))
        case refine_3.refine_1.refine_1.refine_2.none.refine_2.hK =>
          refine ⟨(v, t), [], ?_, ?_, stLeM trivial rfl rfl rfl trivial ?_⟩
          rotate_right
          · (repeat' (first | exact m_nil | refine m_consA (ms_le rfl rfl) rfl ?_ | refine m_cons ?_ rfl ?_ | exact u2_int | exact u2_bool | exact u2_sli | exact (rfl : sle2 .s0 .s0) | exact u2_s0))
          all_goals (replace ht : t = lim (lv (E.sub (E.app (E.sub [0] 0 1) o) 0 (E.plus 1 (E.len o))) + lv (E.sub (E.sub [E.conv .u32 c] 0 1) 0 1)) := ht; rw [es1, es2] at ht; subst hE; have q := fin t _ c hi0 (sp (lss_f (by assumption))) ht; have hv' : v = IntKind.i64.wrap (i - 1) := hv; rw [wpi hi0] at hv'; subst hv'; first | exact q.1 | exact q.2)
        all_goals rename_i v1 hv1 w hw
        all_goals refine ⟨(v, w, some (E.sub [E.conv .u32 (E.bin .rem .u64 v1 4294967296)] 0 1, 1)), [0, 1, 3], ?_, ?_, stLeM ⟨rfl, rfl, trivial⟩ rfl rfl rfl trivial ?_⟩
        all_goals (try ((repeat' (first | exact m_nil | refine m_consA (ms_le rfl rfl) rfl ?_ | refine m_cons ?_ rfl ?_ | exact u2_int | exact u2_bool | exact u2_sli | exact (rfl : sle2 .s0 .s0) | exact u2_s0)); done))
        all_goals (subst hE; have q := nx v1 _ (lss_t (by assumption)) rfl hv1; have hv' : v = IntKind.i64.wrap (k + 1) := hv; have hw' : w = intBinR .quo .u64 v1 4294967296 := hw; subst hv'; subst hw'; first | exact q.1 | exact q.2)
      · have nx := fun v x => next k c (some (l, n)) v x hok2
        have sp := stop k c (some (l, n)) hok2
        have bd := bnd k c (some (l, n)) hok2
        have sl : (l.drop (0 : Int).toNat).take n.toNat = l := rsub_all bd.2.2.2.2
        have es2 : E.sub (E.app (E.sub l 0 n) (E.sub [E.conv .u32 c] 0 1)) 0 (E.plus n 1) = l ++ [E.conv .u32 c] := by subst hE; exact row_sub bd.2.2.2.2
        clear next stop bnd hok2
        cbv
        repeat' (first
    | (refine E_br hE (fun h => ?_) (fun h => ?_) <;> cbv)
    | (refine E_nm hE (fun v hv => ?_); cbv)
    | (refine E_nilS hE (fun b hb => ?_); cbv)
    | (apply E_callX hE (c_rAdd _ _ ?_ ?_ ?_ ?_); (case hf => rfl); (case hc => (cbv <;> trivial)); (case hle => exact u_up); all_goals (first | (intro t ht; cbv) | ((have q : ¬ k < a.length := (by subst hE; exact lss_f (by assumption)); have q := bnds _ c (sp q); first | (show Lb (E.sub (E.app (E.sub [0] 0 1) o) 0 (E.plus 1 (E.len o))); rw [es1]; exact q.1) | (show (E.sub (E.app (E.sub [0] 0 1) o) 0 (E.plus 1 (E.len o))).length < _; rw [es1]; exact q.2.1) | (show Lb (E.sub (E.app (E.sub l 0 n) (E.sub [E.conv .u32 c] 0 1)) 0 (E.plus n 1)); rw [es2]; subst hE; exact q.2.2.1) | (show (E.sub (E.app (E.sub l 0 n) (E.sub [E.conv .u32 c] 0 1)) 0 (E.plus n 1)).length < _; rw [es2]; subst hE; exact q.2.2.2)))))
    | fail)
        all_goals (try (exfalso; subst hE; first
          | exact absurd bd.1 (leq_f (by assumption))
          | exact absurd hi0 (leq_f (by assumption))
          | exact absurd h2 (lss_f (by assumption))
          | exact absurd (lss_t (a := k) (b := (a.length : Int)) (by assumption)) (lss_f (by assumption))
          | (have k1 := leq_f (by assumption); apply k1; have k2 := bd.2.2.2.1; show n + 1 ≤ 17179869184; have k3 : n < 17179869184 := k2; omega)))
        case refine_3.refine_1.refine_1.refine_2.some.refine_2.refine_1.hK =>
          refine ⟨(v, t), [], ?_, ?_, stLeM trivial rfl rfl rfl trivial ?_⟩
          rotate_right
          · (repeat' (first | exact m_nil | refine m_consA (ms_le rfl rfl) rfl ?_ | refine m_cons ?_ rfl ?_ | exact u2_int | exact u2_bool | exact u2_sli | exact (rfl : sle2 .s0 .s0) | exact u2_s0))
          all_goals (replace ht : t = lim (lv (E.sub (E.app (E.sub [0] 0 1) o) 0 (E.plus 1 (E.len o))) + lv (E.sub (E.app (E.sub l 0 n) (E.sub [E.conv .u32 c] 0 1)) 0 (E.plus n 1))) := ht; rw [es1, es2] at ht; subst hE; have q := fin t _ c hi0 (sp (lss_f (by assumption))) ht; have hv' : v = IntKind.i64.wrap (i - 1) := hv; rw [wpi hi0] at hv'; subst hv'; first | exact q.1 | exact q.2)
        all_goals rename_i v1 hv1 w hw
        all_goals refine ⟨(v, w, some (E.app (E.sub l 0 n) (E.sub [E.conv .u32 (E.bin .rem .u64 v1 4294967296)] 0 1), E.plus n 1)), [0, 1, 4], ?_, ?_, stLeM ⟨rfl, rfl, trivial⟩ rfl rfl rfl trivial ?_⟩
        all_goals (try ((repeat' (first | exact m_nil | refine m_consA (ms_le rfl rfl) rfl ?_ | refine m_cons ?_ rfl ?_ | exact u2_int | exact u2_bool | exact u2_sli | exact (rfl : sle2 .s0 .s0) | exact u2_s0)); done))
        all_goals (subst hE; have q := nx v1 _ (lss_t (by assumption)) rfl hv1; have hv' : v = IntKind.i64.wrap (k + 1) := hv; have hw' : w = intBinR .quo .u64 v1 4294967296 := hw; subst hv'; subst hw'; rw [show (realE Try.prog).sub l 0 n = l from sl]; first | exact q.1 | exact q.2)
    · exfalso
      subst hE
      have k1 := leq_f hle
      apply k1
      show 1 + (o.length : Int) ≤ 17179869184
      omega
  · repeat' (first
    | (refine E_br hE (fun h => ?_) (fun h => ?_) <;> cbv)
    | (refine E_nm hE (fun v hv => ?_); cbv)
    | (refine E_nilS hE (fun b hb => ?_); cbv)
    | (apply E_callX hE (c_rTrim _ ?_ ?_); (case hf => rfl); (case hc => (cbv <;> trivial)); (case hle => exact u_up); all_goals (first | (intro t ht; cbv) | ((have q : ¬ 0 ≤ i := (by subst hE; exact geq_f hi); first | exact (last q).1 | exact (last q).2.1))))
    | fail)
    subst hE
    rw [ht]
    exact (last (geq_f hi)).2.2

end Go.Proofs.Ytaiillbjhdoikaa.Ev

/- Contracts of the reference: how many bits, shifted, a bit, a bit more. Printed by gen.py. -/
namespace Go.Proofs.Ytaiillbjhdoikaa.Ev
open Go Go.Proofs
set_option linter.unusedVariables false
set_option linter.unusedSimpArgs false

attribute [local irreducible] Lb
theorem c_rLen (a : List Int) (ha : Lb a) (hla : a.length ≤ 268435456) : ∃ t : Int, t = blen (lv a : Int) ∧ CallsA Try.prog 94 [.sli .u32 a] (.int .i64 (.s t)) := by
  refine ⟨_, rfl, ?_⟩
  generalize hr : blen (lv a : Int) = r
  have hx := lim_lb (lv a)
  have vx := lv_lim (lv a)
  have hlx := lim_length_le' ha
  have hlast := (lim_cn (lv a)).last
  obtain ⟨x, ex⟩ : ∃ x, lim (lv a) = x := ⟨_, rfl⟩
  rw [ex] at hx vx hlx hlast
  have zero : x.length = 0 → 0 = r := by
    intro h
    have : x = [] := List.length_eq_zero_iff.1 h
    rw [this] at vx
    rw [← hr, ← vx]; rfl
  have some_ : x.length ≠ 0 → r = 32 * ((x.length : Int) - 1) + blen (x.getD (x.length - 1) 0) := by
    intro h
    have ne : x ≠ [] := fun k => h (by rw [k]; rfl)
    rw [← hr, ← vx]; exact blen_len hx ne (hlast ne)
  have htop := hx.getD (x.length - 1)
  obtain ⟨m, em⟩ : ∃ m : Int × Int → Nat, ∀ p, m p = p.2.toNat := ⟨_, fun _ => rfl⟩
  obtain ⟨ok, eok⟩ : ∃ ok : Int × Int → Prop, ∀ p, ok p ↔ (0 ≤ p.1 ∧ p.1 ≤ 8589934592 + 32 ∧ 0 ≤ p.2 ∧ p.2 < 4294967296 ∧ p.1 + blen p.2 = r) := ⟨_, fun _ => Iff.rfl⟩
  have start : ∀ n t : Int, x.length ≠ 0 → n = IntKind.i64.wrap (32 * IntKind.i64.wrap ((x.length : Int) - 1)) → t = x.getD (IntKind.i64.wrap ((x.length : Int) - 1)).toNat 0 → ok (n, t) := by
    intro n t h hn ht
    have e1 : IntKind.i64.wrap ((x.length : Int) - 1) = x.length - 1 := by rw [wi64]; omega
    rw [e1] at hn ht
    rw [wi64_id (by omega) (by omega)] at hn
    rw [show ((x.length : Int) - 1).toNat = x.length - 1 by omega] at ht
    subst ht
    exact (eok _).2 ⟨by show 0 ≤ n; omega, by show n ≤ 8589934592 + 32; omega, htop.1, htop.2, by show n + blen _ = r; rw [some_ h, hn]⟩
  have rng : x.length ≠ 0 → 0 ≤ IntKind.i64.wrap ((x.length : Int) - 1) ∧ IntKind.i64.wrap ((x.length : Int) - 1) < x.length := by
    intro h; rw [wi64]; omega
  have next : ∀ n t : Int, ok (n, t) → 0 < t → m (IntKind.i64.wrap (n + 1), intBinR .quo .u32 t 2) < m (n, t) ∧ ok (IntKind.i64.wrap (n + 1), intBinR .quo .u32 t 2) := by
    intro n t hok h
    obtain ⟨h1, h2, h3, h4, h5⟩ := (eok _).1 hok
    dsimp only at h1 h2 h3 h4 h5
    rw [quo2_u32 h3 h4, wi64_id (by omega) (by omega)]
    have b := blen_half h
    have b0 := blen_nonneg t
    have b1 := blen_le 32 (x := t) (by omega)
    have rb : r ≤ 8589934592 + 32 := by
      rcases Nat.eq_zero_or_pos x.length with k | k
      · have := zero k; omega
      · have b2 := blen_le 32 (x := x.getD (x.length - 1) 0) (by omega); rw [some_ (by omega)]; omega
    exact ⟨by rw [em, em]; show (t / 2).toNat < t.toNat; omega, (eok _).2 ⟨by show 0 ≤ n + 1; omega, by show n + 1 ≤ 8589934592 + 32; have := blen_nonneg (t / 2); omega, by show 0 ≤ t / 2; omega, by show t / 2 < _; omega, by show n + 1 + blen (t / 2) = r; omega⟩⟩
  have stop : ∀ n t : Int, ok (n, t) → ¬ 0 < t → n = r := by
    intro n t hok h
    obtain ⟨h1, h2, h3, h4, h5⟩ := (eok _).1 hok
    dsimp only at h1 h2 h3 h4 h5
    have : t = 0 := by omega
    subst this
    rw [blen_zero] at h5; omega
  refine callsA_of hG hm Try.func94 (by kernel_rfl) ?_
  intro E hE lp hl
  cbv
  (apply E_callX hE (c_rTrim a ha hla); (case hf => rfl); (case hc => (cbv <;> trivial)); (case hle => exact ⟨u2_sli, trivial⟩); intro x' hx'; cbv)
  rw [hx'.trans ex]
  clear hx' x'
  refine E_br hE (fun h => ?_) (fun h => ?_) <;> cbv
  · subst hE; exact zero (by have k : (x.length : Int) = 0 := eql_t h; omega)
  have ne : x.length ≠ 0 := by subst hE; have k : ¬ (x.length : Int) = 0 := eql_f h; omega
  refine E_nm hE (fun n0 hn0 => ?_)
  cbv
  refine E_br hE (fun b1 => ?_) (fun b1 => ?_) <;> cbv
  · refine E_br hE (fun b2 => ?_) (fun b2 => ?_) <;> cbv
    · refine E_nm hE (fun t0 ht0 => ?_)
      cbv
      refine E_loop hE hG hm hl (fun p : Int × Int => (⟨[(4, .int .i64 (.s p.1)), (5, .int .u32 (.s p.2))], []⟩ : St)) m ok ⟨(n0, t0), (by subst hE; exact start n0 t0 ne hn0 ht0), stLe rfl ?_⟩ ?_
      · (repeat' (first | exact t_nil | apply t_cons | exact u2_sli | exact u2_int | exact u2_bool | exact u2_ms | exact u2_ptr | exact (rfl : sle2 .s0 .s0)))
      rintro ⟨n, t⟩ hok
      have nx := next n t hok
      have sp := stop n t hok
      clear next stop start hok
      cbv
      refine E_br hE (fun g => ?_) (fun g => ?_) <;> cbv
      · refine E_nm hE (fun n' hn' => ?_)
        cbv
        refine E_nm hE (fun t' ht' => ?_)
        cbv
        refine ⟨(n', t'), ?_, ?_, stLe rfl ?_⟩
        rotate_right
        · (repeat' (first | exact t_nil | apply t_cons | exact u2_sli | exact u2_int | exact u2_bool | exact u2_ms | exact u2_ptr | exact (rfl : sle2 .s0 .s0)))
        all_goals (subst hE; have q := nx (gtr_t g); have e1 : n' = IntKind.i64.wrap (n + 1) := hn'; have e2 : t' = intBinR .quo .u32 t 2 := ht'; subst e1; subst e2; first | exact q.1 | exact q.2)
      · refine E_nm hE (fun z hz => ?_)
        cbv
        subst hE
        exact Eq.trans (b := n) hz (sp (gtr_f g))
    · exfalso; subst hE; exact (lss_f b2) (rng ne).2
  · exfalso; subst hE; exact (leq_f b1) (rng ne).1

theorem rep_sub {q : Int} {a : List Int} (h : 0 ≤ q) : ((((List.replicate q.toNat (0 : Int)).drop (0 : Int).toNat).take q.toNat ++ a).drop (0 : Int).toNat).take (q + (a.length : Int)).toNat = List.replicate q.toNat 0 ++ a := by
  have e : ((List.replicate q.toNat (0 : Int)).drop (0 : Int).toNat).take q.toNat = List.replicate q.toNat 0 := by
    show ((List.replicate q.toNat (0 : Int)).drop 0).take q.toNat = _
    rw [List.drop_zero, List.take_of_length_le (by simp)]
  rw [e]
  show ((List.replicate q.toNat (0 : Int) ++ a).drop 0).take (q + (a.length : Int)).toNat = _
  rw [List.drop_zero, List.take_of_length_le (by simp; omega)]
theorem shl_pre {a : List Int} {n : Int} (ha : Lb a) (n1 : 1 ≤ n) (n2 : n ≤ 16777216) : lim (lv ((List.replicate (n / 32).toNat 0) ++ a) * lv [(2 : Int) ^ (n % 32).toNat]) = lim (lv a * 2 ^ n.toNat) := by
  rw [lv_zeros]
  congr 1
  have e : lv [(2 : Int) ^ (n % 32).toNat] = 2 ^ (n % 32).toNat := by
    show ((2 : Int) ^ (n % 32).toNat).toNat + 4294967296 * 0 = _
    rw [pow2_cast]; simp only [Int.toNat_natCast, Nat.mul_zero, Nat.add_zero]
  have p := pow_split n.toNat
  rw [show n.toNat / 32 = (n / 32).toNat by omega, show n.toNat % 32 = (n % 32).toNat by omega] at p
  rw [e, p, Nat.mul_assoc, Nat.mul_comm, Nat.mul_assoc, Nat.mul_comm (2 ^ _)]
theorem c_rShl (a : List Int) (n : Int) (ha : Lb a) (hla : a.length < 33554432) : ∃ t : List Int, t = (if n < 1 then lim (lv a) else if 16777216 < n then [] else lim (lv a * 2 ^ n.toNat)) ∧ CallsA Try.prog 61 [.sli .u32 a, .int .i64 (.s n)] (.sli .u32 t) := by
  refine ⟨_, rfl, ?_⟩
  generalize hr : (if n < 1 then lim (lv a) else if 16777216 < n then [] else lim (lv a * 2 ^ n.toNat)) = r
  have pre := shl_pre (n := n) ha
  have low : n < 1 → lim (lv a) = r := fun h => by rw [← hr, if_pos h]
  have hig : ¬ n < 1 → 16777216 < n → [] = r := fun h g => by rw [← hr, if_neg h, if_pos g]
  have mid : ¬ n < 1 → ¬ 16777216 < n → lim (lv a * 2 ^ n.toNat) = r := fun h g => by rw [← hr, if_neg h, if_neg g]
  have nums : ¬ n < 1 → ¬ 16777216 < n → intBinR .quo .i64 n 32 = n / 32 ∧ intBinR .rem .i64 n 32 = n % 32 ∧ 0 ≤ n / 32 ∧ n / 32 ≤ 524288 := by
    intro h g
    refine ⟨quo32 (by omega) (by omega), rem32 (by omega), by omega, by omega⟩
  refine callsA_of hG hm Try.func61 (by kernel_rfl) ?_
  intro E hE lp hl
  cbv
  refine E_br hE (fun g1 => ?_) (fun g1 => ?_) <;> cbv
  · repeat' (first
    | (refine E_br hE (fun h => ?_) (fun h => ?_) <;> cbv)
    | (refine E_nm hE (fun v hv => ?_); cbv)
    | (refine E_nilS hE (fun b hb => ?_); cbv)
    | (apply E_callX hE (c_rTrim _ ha ?_); (case hf => rfl); (case hc => (cbv <;> trivial)); (case hle => exact u_up); all_goals (first | (intro t ht; cbv) | (omega)))
    | fail)
    subst hE; rw [ht]; exact low (lss_t g1)
  refine E_br hE (fun g2 => ?_) (fun g2 => ?_) <;> cbv
  · subst hE; exact (hig (lss_f g1) (gtr_t g2)).symm
  have nm : E.bin .quo .i64 n 32 = n / 32 ∧ E.bin .rem .i64 n 32 = n % 32 ∧ 0 ≤ n / 32 ∧ n / 32 ≤ 524288 := by subst hE; exact nums (lss_f g1) (gtr_f g2)
  have es1 : E.sub (E.app (E.sub (E.rep (E.bin .quo .i64 n 32)) 0 (E.bin .quo .i64 n 32)) a) 0 (E.plus (E.bin .quo .i64 n 32) (E.len a)) = List.replicate (n / 32).toNat 0 ++ a := by
    subst hE; rw [nm.1]; exact rep_sub nm.2.2.1
  have es2 : ∀ v, v = E.bin .shl .u32 1 (E.conv .u64 (E.bin .rem .i64 n 32)) → E.sub [v] 0 1 = [2 ^ (n % 32).toNat] := by
    intro v hv
    subst hE
    have e : (realE Try.prog).conv .u64 ((realE Try.prog).bin .rem .i64 n 32) = n % 32 := by
      rw [nm.2.1]; show IntKind.u64.wrap (n % 32) = n % 32; rw [wu64]; omega
    rw [e] at hv
    have e2 : v = intBinR .shl .u32 1 (n % 32) := hv
    rw [shl_one (by omega) (by omega)] at e2
    subst e2; rfl
  have l1 : Lb (List.replicate (n / 32).toNat 0 ++ a) ∧ (List.replicate (n / 32).toNat 0 ++ a).length < 67108864 := ⟨(Lb.replicate _).append ha, by rw [List.length_append, List.length_replicate]; omega⟩
  have l2 : Lb [(2 : Int) ^ (n % 32).toNat] := by have := two_le (r := (n % 32).toNat) (by omega); exact Lb.cons (by omega) (by omega) Lb.nil
  have fin : ¬ n < 1 ∧ ¬ 16777216 < n := by subst hE; exact ⟨lss_f g1, gtr_f g2⟩
  have val := (pre (by omega) (by omega)).trans (mid fin.1 fin.2)
  clear pre low hig mid nums
  repeat' (first
    | (refine E_br hE (fun h => ?_) (fun h => ?_) <;> cbv)
    | (refine E_nm hE (fun v hv => ?_); cbv)
    | (refine E_nilS hE (fun b hb => ?_); cbv)
    | (apply E_callX hE (c_rMul _ _ ?_ ?_ ?_ ?_); (case hf => rfl); (case hc => (cbv <;> trivial)); (case hle => exact u_up); all_goals (first | (intro t ht; cbv) | ((first | (show Lb (E.sub (E.app (E.sub (E.rep (E.bin .quo .i64 n 32)) 0 (E.bin .quo .i64 n 32)) a) 0 (E.plus (E.bin .quo .i64 n 32) (E.len a))); rw [es1]; exact l1.1) | (show Lb (E.sub [v] 0 1); rw [es2 v hv]; exact l2) | (show (E.sub (E.app (E.sub (E.rep (E.bin .quo .i64 n 32)) 0 (E.bin .quo .i64 n 32)) a) 0 (E.plus (E.bin .quo .i64 n 32) (E.len a))).length < 67108864; rw [es1]; exact l1.2) | (show (E.sub [v] 0 1).length < 67108864; rw [es2 v hv]; show (1 : Nat) < 67108864; decide)))))
    | fail)
  case refine_2.refine_2.refine_1.refine_1.refine_1.refine_1.refine_2.hK =>
    replace ht : t = lim (lv (E.sub (E.app (E.sub (E.rep (E.bin .quo .i64 n 32)) 0 (E.bin .quo .i64 n 32)) a) 0 (E.plus (E.bin .quo .i64 n 32) (E.len a))) * lv (E.sub [v] 0 1)) := ht
    rw [es1, es2 v hv, val] at ht
    exact ht
  all_goals (exfalso; subst hE; have q := nm.1; have q2 := nm.2.1; have q3 := nm.2.2; first
    | (have h1 := lss_t ‹_›; apply absurd h1; show ¬ IntKind.u64.wrap (intBinR .rem .i64 n 32) < 0; rw [wu64]; omega)
    | (have h1 := leq_f ‹(realE Try.prog).cmp .leq ((realE Try.prog).plus _ _) _ = false›; apply h1; show intBinR .quo .i64 n 32 + (a.length : Int) ≤ 17179869184; rw [show intBinR .quo .i64 n 32 = n / 32 from q]; omega)
    | (have h1 := leq_f ‹_›; apply h1; first | exact Int.le_refl _ | (show (0 : Int) ≤ intBinR .quo .i64 n 32; rw [show intBinR .quo .i64 n 32 = n / 32 from q]; omega) | (show intBinR .quo .i64 n 32 ≤ 17179869184; rw [show intBinR .quo .i64 n 32 = n / 32 from q]; omega)))

end Go.Proofs.Ytaiillbjhdoikaa.Ev

/- Contracts of the reference: a bit, a bit more. Printed by gen.py. -/
namespace Go.Proofs.Ytaiillbjhdoikaa.Ev
open Go Go.Proofs
set_option linter.unusedVariables false
set_option linter.unusedSimpArgs false

attribute [local irreducible] Lb
theorem rem2_u64 {n : Int} (h : 0 ≤ n) : intBinR .rem .u64 n 2 = n % 2 := by
  show n.tmod 2 = _
  exact Int.tmod_eq_emod_of_nonneg h
theorem bit_word {a : List Int} {i : Int} (ha : Lb a) (h0 : 0 ≤ i) (h1 : i < 9223372036854775807) : intBinR .quo .i64 i 32 = i / 32 ∧ intBinR .rem .i64 i 32 = i % 32 ∧
    (intBinR .rem .u64 (intBinR .shr .u64 (a.getD (i / 32).toNat 0) (i % 32)) 2 = 1 ↔ lv a / 2 ^ i.toNat % 2 = 1) := by
  refine ⟨quo32 h0 (by omega), rem32 h0, ?_⟩
  have gx := ha.getD (i / 32).toNat
  have b := bit_eq ha i.toNat
  rw [show i.toNat / 32 = (i / 32).toNat by omega, show i.toNat % 32 = (i % 32).toNat by omega] at b
  rw [shr_u64 (by omega) (by omega)]
  obtain ⟨x, hx⟩ := Int.eq_ofNat_of_zero_le gx.1
  rw [hx] at b ⊢
  simp only [Int.toNat_natCast] at b
  have e : ((x : Int) / 2 ^ (i % 32).toNat) = ((x / 2 ^ (i % 32).toNat : Nat) : Int) := by rw [pow2_cast]; simp
  rw [e]
  rw [rem2_u64 (n := ((x / 2 ^ (i % 32).toNat : Nat) : Int)) (Int.natCast_nonneg _)]
  omega
theorem c_rBit (a : List Int) (i : Int) (ha : Lb a) (h0 : 0 ≤ i) (h1 : i < 9223372036854775807) : ∃ t : Bool, t = decide (lv a / 2 ^ i.toNat % 2 = 1) ∧ CallsA Try.prog 121 [.sli .u32 a, .int .i64 (.s i)] (.bool (.s t)) := by
  refine ⟨_, rfl, ?_⟩
  generalize hr : decide (lv a / 2 ^ i.toNat % 2 = 1) = r
  have w := bit_word ha h0 h1
  refine callsA_of hG hm Try.func121 (by kernel_rfl) ?_
  intro E hE lp hl
  cbv
  have e1 : E.bin .quo .i64 i 32 = i / 32 := by subst hE; exact w.1
  have e2 : E.conv .u64 (E.bin .rem .i64 i 32) = i % 32 := by subst hE; show IntKind.u64.wrap (intBinR .rem .i64 i 32) = _; rw [w.2.1, wu64]; omega
  repeat' (first
    | (refine E_br hE (fun h => ?_) (fun h => ?_) <;> cbv)
    | (refine E_nm hE (fun v hv => ?_); cbv)
    | (refine E_nilS hE (fun b hb => ?_); cbv)
    | (apply E_callX hE (c_rAt _ _ ha ?_ ?_); (case hf => rfl); (case hc => (cbv <;> trivial)); (case hle => exact u_up); all_goals (first | (intro t ht; cbv) | ((first | (show 0 ≤ E.bin .quo .i64 i 32; rw [e1]; omega) | (show E.bin .quo .i64 i 32 < 9223372036854775808; rw [e1]; omega)))))
    | fail)
  · exfalso
    rw [e2] at h
    subst hE
    have := lss_t h
    omega
  · have ht' : t = a.getD (i / 32).toNat 0 := by rw [ht]; show a.getD (E.bin .quo .i64 i 32).toNat 0 = _; rw [e1]
    show E.cmp .eql (E.bin .rem .u64 (E.bin .shr .u64 t (E.conv .u64 (E.bin .rem .i64 i 32))) 2) 1 = r
    rw [e2, ht', ← hr]
    subst hE
    simp only [realE, cmp_eql]
    exact decide_eq_decide.2 w.2.2

def rset1 (i : Int) : Option (List Int × Int) → St
  | none => ⟨[(1, .int .i64 (.s i)), (5, .s0)], []⟩
  | some (l, n) => ⟨[(1, .int .i64 (.s i)), (5, .ms 0 1 (.l 0) (.s n))], [.ints true .u32 l]⟩
def rset2 (i : Int) (a : List Int) (N : Int) : Option (List Int × Int) → St
  | none => ⟨[(1, .int .i64 (.s i)), (5, .ms 0 1 (.l 0) (.s N))], [.ints true .u32 a]⟩
  | some (l, n) => ⟨[(1, .int .i64 (.s i)), (5, .ms 1 1 (.l 0) (.s n))], [.dead, .ints true .u32 l]⟩
theorem c_rSet (a : List Int) (i : Int) (ha : Lb a) (hla : a.length < 268435456) (h0 : 0 ≤ i) (h1 : i < 8589934592) (hadd : (a ++ List.replicate (i.toNat / 32 + 1 - a.length) 0).getD (i.toNat / 32) 0 + 2 ^ (i.toNat % 32) < 4294967296) :
    ∃ t : List Int, t = setL a i.toNat ∧ CallsA Try.prog 98 [.sli .u32 a, .int .i64 (.s i)] (.sli .u32 t) := by
  refine ⟨_, rfl, ?_⟩
  generalize hr : setL a i.toNat = r
  have q := quo32 h0 (by omega)
  obtain ⟨m, em⟩ : ∃ m : Int → Nat, ∀ n, m n = (i / 32 + 1 - n).toNat := ⟨_, fun _ => rfl⟩
  obtain ⟨ok, eok⟩ : ∃ ok : List Int × Int → Prop, ∀ p, ok p ↔ ((a.length : Int) ≤ p.2 ∧ p.2 ≤ max (a.length : Int) (i / 32 + 1) ∧ p.1 = a ++ List.replicate (p.2.toNat - a.length) 0) := ⟨_, fun _ => Iff.rfl⟩
  have start1 : (a.length : Int) = 0 → ok ([], 0) := by
    intro h
    have e : a = [] := List.length_eq_zero_iff.1 (by omega)
    refine (eok _).2 ⟨by show (a.length : Int) ≤ 0; omega, by show (0 : Int) ≤ _; omega, ?_⟩
    rw [e]; rfl
  have start2 : ok (a, (a.length : Int)) := (eok _).2 ⟨Int.le_refl _, by show (a.length : Int) ≤ _; omega, by show a = a ++ List.replicate ((a.length : Int).toNat - a.length) 0; simp⟩
  have lens : ∀ l n, ok (l, n) → n = l.length ∧ 0 ≤ n ∧ n ≤ 536870913 := by
    intro l n hok
    obtain ⟨k1, k2, k3⟩ := (eok _).1 hok
    dsimp only at k1 k2 k3
    rw [k3, List.length_append, List.length_replicate]
    omega
  have next : ∀ l n, ok (l, n) → n ≤ i / 32 → m (n + 1) < m n ∧ ok (l ++ [0], n + 1) := by
    intro l n hok h
    obtain ⟨k1, k2, k3⟩ := (eok _).1 hok
    dsimp only at k1 k2 k3
    refine ⟨by rw [em, em]; omega, (eok _).2 ⟨by show (a.length : Int) ≤ n + 1; omega, by show n + 1 ≤ _; omega, ?_⟩⟩
    show l ++ [0] = a ++ List.replicate ((n + 1).toNat - a.length) 0
    rw [k3, show (n + 1).toNat - a.length = (n.toNat - a.length) + 1 by omega, List.replicate_succ', List.append_assoc]
  have stop : ∀ l n, ok (l, n) → ¬ n ≤ i / 32 → l.getD (i / 32).toNat 0 + 2 ^ (i % 32).toNat < 4294967296 ∧ 0 ≤ l.getD (i / 32).toNat 0 ∧ l.set (i / 32).toNat (l.getD (i / 32).toNat 0 + 2 ^ (i % 32).toNat) = r := by
    intro l n hok h
    obtain ⟨k1, k2, k3⟩ := (eok _).1 hok
    dsimp only at k1 k2 k3
    have e : l = a ++ List.replicate (i.toNat / 32 + 1 - a.length) 0 := by rw [k3]; congr 2; omega
    have gx := ((padL ha (i.toNat / 32)).1).getD (i.toNat / 32)
    rw [e, ← hr, show (i / 32).toNat = i.toNat / 32 by omega, show (i % 32).toNat = i.toNat % 32 by omega]
    exact ⟨hadd, gx.1, rfl⟩
  have two := two_le (r := (i % 32).toNat) (by omega)
  refine callsA_of hG hm Try.func98 (by kernel_rfl) ?_
  intro E hE lp hl
  have e1 : E.bin .quo .i64 i 32 = i / 32 := by subst hE; exact q
  have e2 : E.conv .u64 (E.bin .rem .i64 i 32) = i % 32 := by subst hE; show IntKind.u64.wrap (intBinR .rem .i64 i 32) = _; rw [rem32 h0, wu64]; omega
  cbv
  refine E_br hE (fun g0 => ?_) (fun g0 => ?_) <;> cbv
  · refine E_loopM hE hG hm hl (rset1 i) (fun o => m (o.getD ([], 0)).2) (fun o => ok (o.getD ([], 0))) ⟨none, [], start1 (by subst hE; exact eql_t g0), stLeM trivial rfl rfl rfl trivial ?_⟩ ?_
    · (repeat' (first | exact m_nil | refine m_consA (ms_le rfl rfl) rfl ?_ | refine m_cons ?_ rfl ?_ | exact u2_int | exact u2_bool | exact u2_sli | exact (rfl : sle2 .s0 .s0) | exact u2_s0))
    rintro (_ | ⟨l, n⟩) hok
    · have nx := next _ _ hok
      have sp := stop _ _ hok
      clear next stop start1 start2 lens hok
      cbv
      repeat' (first
    | (refine E_br hE (fun h => ?_) (fun h => ?_) <;> cbv)
    | (refine E_nm hE (fun v hv => ?_); cbv)
    | (refine E_nilS hE (fun b hb => ?_); cbv)
    | fail)
      · refine ⟨some (E.sub [0] 0 1, 1), [1], ?_, ?_, stLeM ⟨rfl, trivial⟩ rfl rfl rfl trivial ?_⟩
        rotate_right
        · (repeat' (first | exact m_nil | refine m_consA (ms_le rfl rfl) rfl ?_ | refine m_cons ?_ rfl ?_ | exact u2_int | exact u2_bool | exact u2_sli | exact (rfl : sle2 .s0 .s0) | exact u2_s0))
        all_goals (subst hE; have g := nx (by omega); first | exact g.1 | exact g.2)
      all_goals (try (exfalso; subst hE; first
        | (have k := leq_f (show (realE Try.prog).cmp .leq 0 (i / 32) = false by rw [← e1]; assumption); omega)
        | (have k := lss_f (show (realE Try.prog).cmp .lss (i / 32) n = false by rw [← e1]; assumption); have k2 := leq_f (show (realE Try.prog).cmp .leq n (i / 32) = false by rw [← e1]; assumption); omega)
        | (have k := lss_t (show (realE Try.prog).cmp .lss (i % 32) 0 = true by rw [← e2]; assumption); omega)
        | (have k := leq_f (show (realE Try.prog).cmp .leq (n + 1) 17179869184 = false by assumption); have k2 := ln.2.2; omega)))
    · have nx := next _ _ hok
      have sp := stop _ _ hok
      have ln := lens _ _ hok
      clear next stop start1 start2 lens hok
      have sl : (l.drop (0 : Int).toNat).take n.toNat = l := rsub_all ln.1
      cbv
      repeat' (first
    | (refine E_br hE (fun h => ?_) (fun h => ?_) <;> cbv)
    | (refine E_nm hE (fun v hv => ?_); cbv)
    | (refine E_nilS hE (fun b hb => ?_); cbv)
    | fail)
      all_goals (try (exfalso; subst hE; first
        | (have k := leq_f (show (realE Try.prog).cmp .leq 0 (i / 32) = false by rw [← e1]; assumption); omega)
        | (have k := lss_f (show (realE Try.prog).cmp .lss (i / 32) n = false by rw [← e1]; assumption); have k2 := leq_f (show (realE Try.prog).cmp .leq n (i / 32) = false by rw [← e1]; assumption); omega)
        | (have k := lss_t (show (realE Try.prog).cmp .lss (i % 32) 0 = true by rw [← e2]; assumption); omega)
        | (have k := leq_f (show (realE Try.prog).cmp .leq (n + 1) 17179869184 = false by assumption); have k2 := ln.2.2; omega)))
      · refine ⟨some (E.app (E.sub l 0 n) (E.sub [0] 0 1), E.plus n 1), [2], ?_, ?_, stLeM ⟨rfl, trivial⟩ rfl rfl rfl trivial ?_⟩
        rotate_right
        · (repeat' (first | exact m_nil | refine m_consA (ms_le rfl rfl) rfl ?_ | refine m_cons ?_ rfl ?_ | exact u2_int | exact u2_bool | exact u2_sli | exact (rfl : sle2 .s0 .s0) | exact u2_s0))
        all_goals (subst hE; have g := nx (leq_t (show (realE Try.prog).cmp .leq n (i / 32) = true by rw [← e1]; assumption)); rw [show (realE Try.prog).sub l 0 n = l from sl]; first | exact g.1 | exact g.2)
      · show E.sub (E.set l (E.bin .quo .i64 i 32) (E.bin .add .u32 (E.get l (E.bin .quo .i64 i 32)) (E.bin .shl .u32 1 (E.conv .u64 (E.bin .rem .i64 i 32))))) 0 n = r
        rw [e1, e2]
        subst hE
        have g := sp (leq_f (show (realE Try.prog).cmp .leq n (i / 32) = false by rw [← e1]; assumption))
        have w : (realE Try.prog).bin .add .u32 ((realE Try.prog).get l (i / 32)) ((realE Try.prog).bin .shl .u32 1 (i % 32)) = l.getD (i / 32).toNat 0 + 2 ^ (i % 32).toNat := by
          show IntKind.u32.wrap (l.getD (i / 32).toNat 0 + intBinR .shl .u32 1 (i % 32)) = _
          rw [shl_one (by omega) (by omega), wu32]
          omega
        rw [w]
        show ((l.set (i / 32).toNat (l.getD (i / 32).toNat 0 + 2 ^ (i % 32).toNat)).drop (0 : Int).toNat).take (n).toNat = r
        rw [rsub_all (by rw [List.length_set]; exact ln.1)]
        exact g.2.2
  · refine E_br hE (fun g1 => ?_) (fun g1 => ?_) <;> cbv
    · refine E_loopM hE hG hm hl (rset2 i a (E.len a)) (fun o => m (o.getD (a, (a.length : Int))).2) (fun o => ok (o.getD (a, (a.length : Int)))) ⟨none, [0], start2, stLeM ⟨rfl, trivial⟩ rfl rfl rfl trivial ?_⟩ ?_
      · (repeat' (first | exact m_nil | refine m_consA (ms_le rfl rfl) rfl ?_ | refine m_cons ?_ rfl ?_ | exact u2_int | exact u2_bool | exact u2_sli | exact (rfl : sle2 .s0 .s0) | exact u2_s0))
      rintro (_ | ⟨l, n⟩) hok
      · obtain ⟨n, en⟩ : ∃ n : Int, n = (a.length : Int) := ⟨_, rfl⟩
        have hok : ok (a, n) := by rw [en]; exact hok
        have nx := next _ _ hok
        have sp := stop _ _ hok
        have ln := lens _ _ hok
        clear next stop start1 start2 lens
        have sl : (a.drop (0 : Int).toNat).take n.toNat = a := rsub_all ln.1
        have eL : E.len a = n := by subst hE; exact en.symm
        rw [eL]
        clear hok
        cbv
        repeat' (first
    | (refine E_br hE (fun h => ?_) (fun h => ?_) <;> cbv)
    | (refine E_nm hE (fun v hv => ?_); cbv)
    | (refine E_nilS hE (fun b hb => ?_); cbv)
    | fail)
        all_goals (try (exfalso; subst hE; first
          | (have k := leq_f (show (realE Try.prog).cmp .leq 0 (i / 32) = false by rw [← e1]; assumption); omega)
          | (have k := lss_f (show (realE Try.prog).cmp .lss (i / 32) n = false by rw [← e1]; assumption); have k2 := leq_f (show (realE Try.prog).cmp .leq n (i / 32) = false by rw [← e1]; assumption); omega)
          | (have k := lss_t (show (realE Try.prog).cmp .lss (i % 32) 0 = true by rw [← e2]; assumption); omega)
          | (have k := leq_f (show (realE Try.prog).cmp .leq (n + 1) 17179869184 = false by assumption); have k2 := ln.2.2; omega)))
        · refine ⟨some (E.app (E.sub a 0 n) (E.sub [0] 0 1), E.plus n 1), [0, 2], ?_, ?_, stLeM ⟨rfl, trivial⟩ rfl rfl rfl trivial ?_⟩
          rotate_right
          · (repeat' (first | exact m_nil | refine m_consA (ms_le rfl rfl) rfl ?_ | refine m_cons ?_ rfl ?_ | exact u2_int | exact u2_bool | exact u2_sli | exact (rfl : sle2 .s0 .s0) | exact u2_s0))
          all_goals (subst hE; have g := nx (leq_t (show (realE Try.prog).cmp .leq n (i / 32) = true by rw [← e1]; assumption)); rw [show (realE Try.prog).sub a 0 n = a from sl]; first | (rw [en] at g ⊢; exact g.1) | exact g.2)
        · show E.sub (E.set a (E.bin .quo .i64 i 32) (E.bin .add .u32 (E.get a (E.bin .quo .i64 i 32)) (E.bin .shl .u32 1 (E.conv .u64 (E.bin .rem .i64 i 32))))) 0 n = r
          rw [e1, e2]
          subst hE
          have g := sp (leq_f (show (realE Try.prog).cmp .leq n (i / 32) = false by rw [← e1]; assumption))
          have w : (realE Try.prog).bin .add .u32 ((realE Try.prog).get a (i / 32)) ((realE Try.prog).bin .shl .u32 1 (i % 32)) = a.getD (i / 32).toNat 0 + 2 ^ (i % 32).toNat := by
            show IntKind.u32.wrap (a.getD (i / 32).toNat 0 + intBinR .shl .u32 1 (i % 32)) = _
            rw [shl_one (by omega) (by omega), wu32]
            omega
          rw [w]
          show ((a.set (i / 32).toNat (a.getD (i / 32).toNat 0 + 2 ^ (i % 32).toNat)).drop (0 : Int).toNat).take (n).toNat = r
          rw [rsub_all (by rw [List.length_set]; exact ln.1)]
          exact g.2.2
      · have nx := next _ _ hok
        have sp := stop _ _ hok
        have ln := lens _ _ hok
        clear next stop start1 start2 lens hok
        have sl : (l.drop (0 : Int).toNat).take n.toNat = l := rsub_all ln.1
        cbv
        repeat' (first
    | (refine E_br hE (fun h => ?_) (fun h => ?_) <;> cbv)
    | (refine E_nm hE (fun v hv => ?_); cbv)
    | (refine E_nilS hE (fun b hb => ?_); cbv)
    | fail)
        all_goals (try (exfalso; subst hE; first
          | (have k := leq_f (show (realE Try.prog).cmp .leq 0 (i / 32) = false by rw [← e1]; assumption); omega)
          | (have k := lss_f (show (realE Try.prog).cmp .lss (i / 32) n = false by rw [← e1]; assumption); have k2 := leq_f (show (realE Try.prog).cmp .leq n (i / 32) = false by rw [← e1]; assumption); omega)
          | (have k := lss_t (show (realE Try.prog).cmp .lss (i % 32) 0 = true by rw [← e2]; assumption); omega)
          | (have k := leq_f (show (realE Try.prog).cmp .leq (n + 1) 17179869184 = false by assumption); have k2 := ln.2.2; omega)))
        · refine ⟨some (E.app (E.sub l 0 n) (E.sub [0] 0 1), E.plus n 1), [0, 3], ?_, ?_, stLeM ⟨rfl, trivial⟩ rfl rfl rfl trivial ?_⟩
          rotate_right
          · (repeat' (first | exact m_nil | refine m_consA (ms_le rfl rfl) rfl ?_ | refine m_cons ?_ rfl ?_ | exact u2_int | exact u2_bool | exact u2_sli | exact (rfl : sle2 .s0 .s0) | exact u2_s0))
          all_goals (subst hE; have g := nx (leq_t (show (realE Try.prog).cmp .leq n (i / 32) = true by rw [← e1]; assumption)); rw [show (realE Try.prog).sub l 0 n = l from sl]; first | exact g.1 | exact g.2)
        · show E.sub (E.set l (E.bin .quo .i64 i 32) (E.bin .add .u32 (E.get l (E.bin .quo .i64 i 32)) (E.bin .shl .u32 1 (E.conv .u64 (E.bin .rem .i64 i 32))))) 0 n = r
          rw [e1, e2]
          subst hE
          have g := sp (leq_f (show (realE Try.prog).cmp .leq n (i / 32) = false by rw [← e1]; assumption))
          have w : (realE Try.prog).bin .add .u32 ((realE Try.prog).get l (i / 32)) ((realE Try.prog).bin .shl .u32 1 (i % 32)) = l.getD (i / 32).toNat 0 + 2 ^ (i % 32).toNat := by
            show IntKind.u32.wrap (l.getD (i / 32).toNat 0 + intBinR .shl .u32 1 (i % 32)) = _
            rw [shl_one (by omega) (by omega), wu32]
            omega
          rw [w]
          show ((l.set (i / 32).toNat (l.getD (i / 32).toNat 0 + 2 ^ (i % 32).toNat)).drop (0 : Int).toNat).take (n).toNat = r
          rw [rsub_all (by rw [List.length_set]; exact ln.1)]
          exact g.2.2
    · exfalso
      subst hE
      have k := leq_f g1
      apply k
      show (a.length : Int) ≤ 17179869184
      omega

end Go.Proofs.Ytaiillbjhdoikaa.Ev

/- Contracts of the reference: the quotient, bit by bit. Printed by gen.py. -/
namespace Go.Proofs.Ytaiillbjhdoikaa.Ev
open Go Go.Proofs
set_option linter.unusedVariables false
set_option linter.unusedSimpArgs false

attribute [local irreducible] Lb
theorem lv_blen {a : List Int} (ha : Lb a) : blen (lv a : Int) ≤ 32 * a.length := by
  have l := lv_lt ha
  have e : (4294967296 : Nat) ^ a.length = 2 ^ (32 * a.length) := by rw [show (4294967296 : Nat) = 2 ^ 32 from rfl, ← Nat.pow_mul]
  have := blen_le (32 * a.length) (x := (lv a : Int)) (by rw [pow2_cast]; omega)
  omega
theorem lt_blen (n : Nat) : n < 2 ^ (blen (n : Int)).toNat := by
  rcases Nat.eq_zero_or_pos n with h | h
  · subst h; decide
  · obtain ⟨k, h1, _, h3⟩ := blen_pos (x := (n : Int)) (by omega)
    rw [h1, show ((k : Int) + 1).toNat = k + 1 by omega]
    rw [pow2_cast] at h3
    omega
theorem c_rDiv (a b : List Int) (ha : Lb a) (hb : Lb b) (hla : a.length < 67108864) (hlb : b.length < 67108864) :
    ∃ t : List Int × List Int × Bool, t = (if lv b = 0 then ([], [], false) else (lim (lv a / lv b), lim (lv a % lv b), true)) ∧ CallsA Try.prog 95 [.sli .u32 a, .sli .u32 b] (.tup [.sli .u32 t.1, .sli .u32 t.2.1, .bool (.s t.2.2)]) := by
  refine ⟨_, rfl, ?_⟩
  generalize hr : (if lv b = 0 then ([], [], false) else (lim (lv a / lv b), lim (lv a % lv b), true) : List Int × List Int × Bool) = r
  have hd := lim_lb (lv b)
  have vd := lv_lim (lv b)
  have hld := lim_length_le' hb
  have hnil := lim_eq_nil (n := lv b)
  obtain ⟨d, ed⟩ : ∃ d, lim (lv b) = d := ⟨_, rfl⟩
  rw [ed] at hd vd hld hnil
  have zero : d.length = 0 → ([], [], false) = r := by
    intro h
    rw [← hr, if_pos (hnil.1 (List.length_eq_zero_iff.1 h))]
  have pos : d.length ≠ 0 → 0 < lv d := by
    intro h
    rcases Nat.eq_zero_or_pos (lv d) with k | k
    · exfalso; apply h; rw [hnil.2 (by omega)]; rfl
    · exact k
  have bl := lv_blen ha
  have b0 := blen_nonneg (lv a : Int)
  have bt := lt_blen (lv a)
  obtain ⟨m, em⟩ : ∃ m : Int × List Int × List Int → Nat, ∀ p, m p = (p.1 + 1).toNat := ⟨_, fun _ => rfl⟩
  obtain ⟨ok, eok⟩ : ∃ ok : Int × List Int × List Int → Prop, ∀ p, ok p ↔ (-1 ≤ p.1 ∧ p.1 < 32 * a.length ∧ p.2.2 = lim (lv a / 2 ^ (p.1 + 1).toNat % lv d) ∧ Lb p.2.1 ∧ lv p.2.1 = lv a / 2 ^ (p.1 + 1).toNat / lv d * 2 ^ (p.1 + 1).toNat ∧ p.2.1.length ≤ a.length) := ⟨_, fun _ => Iff.rfl⟩
  have wn : ∀ n : Int, n = blen (lv a : Int) → IntKind.i64.wrap (n - 1) = blen (lv a : Int) - 1 := by intro n h; rw [h, wi64]; omega
  have start : ok (blen (lv a : Int) - 1, [], []) := by
    have z : lv a / 2 ^ (blen (lv a : Int)).toNat = 0 := Nat.div_eq_of_lt bt
    refine (eok _).2 ⟨by show -1 ≤ blen (lv a : Int) - 1; omega, by show blen (lv a : Int) - 1 < _; omega, ?_, Lb.nil, ?_, Nat.zero_le _⟩
    · show [] = lim (lv a / 2 ^ (blen (lv a : Int) - 1 + 1).toNat % lv d)
      rw [show blen (lv a : Int) - 1 + 1 = blen (lv a : Int) by omega, z, Nat.zero_mod]; rfl
    · show lv [] = lv a / 2 ^ (blen (lv a : Int) - 1 + 1).toNat / lv d * _
      rw [show blen (lv a : Int) - 1 + 1 = blen (lv a : Int) by omega, z, Nat.zero_div, Nat.zero_mul]; rfl
  have inv : ∀ i q w, 0 < lv d → ok (i, q, w) → Lb q ∧ q.length ≤ a.length ∧ Lb w ∧ w.length ≤ b.length ∧ lv w < lv d ∧ i < 8589934592 ∧ (0 ≤ i → 2 ^ (i.toNat + 1) ∣ lv q) := by
    intro i q w hp hok
    obtain ⟨k1, k2, k3, k4, k5, k6⟩ := (eok _).1 hok
    dsimp only at k1 k2 k3 k4 k5 k6
    have lw : lv w < lv d := by rw [k3, lv_lim]; exact Nat.mod_lt _ hp
    refine ⟨k4, k6, by rw [k3]; exact lim_lb _, ?_, lw, by omega, fun hi => ?_⟩
    · have l2 := lv_lt hb
      rw [k3]
      exact lim_length_le (by rw [k3, lv_lim] at lw; omega)
    · rw [k5, show (i + 1).toNat = i.toNat + 1 by omega]
      exact Nat.dvd_mul_left _ _
  have next0 : ∀ i q w w2, 0 < lv d → ok (i, q, w) → 0 ≤ i → w2 = lim (2 * lv w + lv a / 2 ^ i.toNat % 2) → lv w2 < lv d → m (i - 1, q, w2) < m (i, q, w) ∧ ok (i - 1, q, w2) := by
    intro i q w w2 hp hok hi hw h
    obtain ⟨k1, k2, k3, k4, k5, k6⟩ := (eok _).1 hok
    dsimp only at k1 k2 k3 k4 k5 k6
    have e : (i + 1).toNat = i.toNat + 1 := by omega
    rw [e] at k3 k5
    have vw : lv w = lv a / 2 ^ (i.toNat + 1) % lv d := by rw [k3, lv_lim]
    rw [vw] at hw
    rw [hw, lv_lim] at h
    have s := (div_step (A := lv a) (i := i.toNat) hp).1 h
    refine ⟨by rw [em, em]; show (i - 1 + 1).toNat < (i + 1).toNat; omega, (eok _).2 ⟨by show -1 ≤ i - 1; omega, by show i - 1 < _; omega, ?_, k4, ?_, k6⟩⟩
    · show w2 = lim (lv a / 2 ^ (i - 1 + 1).toNat % lv d)
      rw [show (i - 1 + 1).toNat = i.toNat by omega, s.1, hw]
    · show lv q = lv a / 2 ^ (i - 1 + 1).toNat / lv d * 2 ^ (i - 1 + 1).toNat
      rw [show (i - 1 + 1).toNat = i.toNat by omega, s.2, k5, Nat.pow_succ, Nat.mul_comm 2, Nat.mul_assoc, Nat.mul_comm 2]
  have next1 : ∀ i q w w2, 0 < lv d → ok (i, q, w) → 0 ≤ i → w2 = lim (2 * lv w + lv a / 2 ^ i.toNat % 2) → ¬ lv w2 < lv d → m (i - 1, setL q i.toNat, lim (lv w2 - lv d)) < m (i, q, w) ∧ ok (i - 1, setL q i.toNat, lim (lv w2 - lv d)) := by
    intro i q w w2 hp hok hi hw h
    have dv := (inv i q w hp hok).2.2.2.2.2.2 hi
    obtain ⟨k1, k2, k3, k4, k5, k6⟩ := (eok _).1 hok
    dsimp only at k1 k2 k3 k4 k5 k6
    have e : (i + 1).toNat = i.toNat + 1 := by omega
    rw [e] at k3 k5
    have vw : lv w = lv a / 2 ^ (i.toNat + 1) % lv d := by rw [k3, lv_lim]
    rw [vw] at hw
    have st := setL_ok k4 i.toNat dv
    have lw2 : lv w2 = 2 * (lv a / 2 ^ (i.toNat + 1) % lv d) + lv a / 2 ^ i.toNat % 2 := by rw [hw, lv_lim]
    rw [lw2] at h ⊢
    have s := (div_step (A := lv a) (i := i.toNat) hp).2 (by omega)
    refine ⟨by rw [em, em]; show (i - 1 + 1).toNat < (i + 1).toNat; omega, (eok _).2 ⟨by show -1 ≤ i - 1; omega, by show i - 1 < _; omega, ?_, st.2.1, ?_, ?_⟩⟩
    · show lim _ = lim (lv a / 2 ^ (i - 1 + 1).toNat % lv d)
      rw [show (i - 1 + 1).toNat = i.toNat by omega, s.1]
    · show lv (setL q i.toNat) = lv a / 2 ^ (i - 1 + 1).toNat / lv d * 2 ^ (i - 1 + 1).toNat
      rw [show (i - 1 + 1).toNat = i.toNat by omega, s.2, st.2.2.1, k5, Nat.pow_succ, Nat.add_mul, Nat.mul_comm 2, Nat.mul_assoc, Nat.mul_comm 2, Nat.one_mul]
    · show (setL q i.toNat).length ≤ a.length
      rw [st.2.2.2]; omega
  have stop : ∀ i q w, d.length ≠ 0 → ok (i, q, w) → ¬ 0 ≤ i → (lim (lv q), lim (lv w), true) = r := by
    intro i q w hp hok hi
    obtain ⟨k1, k2, k3, k4, k5, k6⟩ := (eok _).1 hok
    dsimp only at k1 k2 k3 k4 k5 k6
    have p := pos hp
    rw [show (i + 1).toNat = 0 by omega, Nat.pow_zero, Nat.div_one] at k3 k5
    rw [k5, k3, lv_lim, Nat.mul_one, vd, ← hr, if_neg (by omega)]
  refine callsA_of hG hm Try.func95 (by kernel_rfl) ?_
  intro E hE lp hl
  cbv
  (apply E_callX hE (c_rTrim b hb (by omega)); (case hf => rfl); (case hc => (cbv <;> trivial)); (case hle => exact ⟨u2_sli, trivial⟩); intro x' hx'; cbv)
  rw [hx'.trans ed]
  clear hx' x'
  refine E_br hE (fun h => ?_) (fun h => ?_) <;> cbv
  · subst hE
    have z := zero (by have k : (d.length : Int) = 0 := eql_t h; omega)
    rw [← z]; exact ⟨rfl, rfl, rfl, trivial⟩
  have ne : d.length ≠ 0 := by subst hE; have k : ¬ (d.length : Int) = 0 := eql_f h; omega
  have pd := pos ne
  (apply E_callX hE (c_rLen a ha (by omega)); (case hf => rfl); (case hc => (cbv <;> trivial)); (case hle => exact ⟨u2_sli, trivial⟩); intro n hn; cbv)
  refine E_nm hE (fun i0 hi0 => ?_)
  cbv
  have ei0 : i0 = blen (lv a : Int) - 1 := by subst hE; have k : i0 = IntKind.i64.wrap (n - 1) := hi0; rw [k]; exact wn n hn
  refine E_loopM hE hG hm hl (fun p : Int × List Int × List Int => (⟨[(0, .sli .u32 a), (7, .sli .u32 d), (8, .sli .u32 p.2.1), (9, .sli .u32 p.2.2), (10, .int .i64 (.s p.1))], []⟩ : St)) m ok ⟨(i0, [], []), [], (by rw [ei0]; exact start), stLeM trivial rfl rfl rfl trivial ?_⟩ ?_
  · (repeat' (first | exact m_nil | refine m_consA (ms_le rfl rfl) rfl ?_ | refine m_cons ?_ rfl ?_ | exact u2_int | exact u2_bool | exact u2_sli | exact (rfl : sle2 .s0 .s0) | exact u2_s0))
  rintro ⟨i, q, w⟩ hok
  have iv := inv i q w pd hok
  have n0 := fun w2 => next0 i q w w2 pd hok
  have n1 := fun w2 => next1 i q w w2 pd hok
  have sp := stop i q w ne hok
  have wpi : 0 ≤ i → IntKind.i64.wrap (i - 1) = i - 1 := fun p => by have := iv.2.2.2.2.2.1; rw [wi64]; omega
  have l1 : Lb [(1 : Int)] := Lb.cons (by decide) (by decide) Lb.nil
  have l1 : Lb [(1 : Int)] := Lb.cons (by decide) (by decide) Lb.nil
  have small : ∀ (u : List Int) (X : Nat), u = lim X → X ≤ 2 * lv d → Lb u ∧ u.length < 268435456 := by
    intro u X hu hX
    subst hu
    refine ⟨lim_lb _, ?_⟩
    have l2 := lv_lt hd
    have : (lim X).length ≤ d.length + 1 := lim_length_le (by rw [Nat.pow_succ]; omega)
    omega
  have lw := iv.2.2.2.2.1
  have bit01 := Nat.mod_lt (lv a / 2 ^ i.toNat) (show 0 < 2 by decide)
  have dbl : ∀ t, t = lim (lv w + lv w) → Lb t ∧ t.length < 268435456 ∧ lv t = 2 * lv w := by
    intro t ht
    have k := small t _ ht (by omega)
    exact ⟨k.1, k.2, by rw [ht, lv_lim]; omega⟩
  have nxt0 : ∀ t, t = lim (lv w + lv w) → ¬ lv a / 2 ^ i.toNat % 2 = 1 → t = lim (2 * lv w + lv a / 2 ^ i.toNat % 2) ∧ Lb t ∧ t.length < 268435456 := by
    intro t ht h
    have k := small t _ ht (by omega)
    exact ⟨by rw [ht]; congr 1; omega, k.1, k.2⟩
  have nxt1 : ∀ t u, t = lim (lv w + lv w) → u = lim (lv t + lv [(1 : Int)]) → lv a / 2 ^ i.toNat % 2 = 1 → u = lim (2 * lv w + lv a / 2 ^ i.toNat % 2) ∧ Lb u ∧ u.length < 268435456 := by
    intro t u ht hu h
    have e : lv [(1 : Int)] = 1 := rfl
    rw [e, (dbl t ht).2.2] at hu
    have k := small u _ hu (by omega)
    exact ⟨by rw [hu, h], k.1, k.2⟩
  have lens : w.length < 268435456 ∧ d.length < 268435456 ∧ q.length < 268435456 ∧ i < 9223372036854775807 ∧ i < 8589934592 := ⟨by have := iv.2.2.2.1; omega, by omega, by have := iv.2.1; omega, by have := iv.2.2.2.2.2.1; omega, iv.2.2.2.2.2.1⟩
  have addok : 0 ≤ i → (q ++ List.replicate (i.toNat / 32 + 1 - q.length) 0).getD (i.toNat / 32) 0 + 2 ^ (i.toNat % 32) < 4294967296 := fun h => (setL_ok iv.1 i.toNat (iv.2.2.2.2.2.2 h)).1
  have subs : ∀ (w2 : List Int) (s : List Int × Bool), s = (if lv w2 < lv d then ([], false) else (lim (lv w2 - lv d), true)) → (s.2 = false → lv w2 < lv d) ∧ (s.2 = true → ¬ lv w2 < lv d ∧ s.1 = lim (lv w2 - lv d)) := by
    intro w2 s hs
    subst hs
    by_cases k : lv w2 < lv d
    · rw [if_pos k]; exact ⟨fun _ => k, fun h => by cases h⟩
    · rw [if_neg k]; exact ⟨fun h => by (cases h), fun _ => ⟨k, rfl⟩⟩
  clear next0 next1 stop start inv hok eok zero pos
  cbv
  refine E_br hE (fun hi => ?_) (fun hi => ?_) <;> cbv
  · have hnn : 0 ≤ i := by subst hE; exact geq_t hi
    (apply E_callX hE (c_rAdd w w iv.2.2.1 iv.2.2.1 lens.1 lens.1); (case hf => rfl); (case hc => (cbv <;> trivial)); (case hle => exact ⟨u2_sli, u2_sli, trivial⟩); intro t ht; cbv)
    (apply E_callX hE (c_rBit a i ha hnn lens.2.2.2.1); (case hf => rfl); (case hc => (cbv <;> trivial)); (case hle => exact ⟨u2_sli, u2_int, trivial⟩); intro o ho; cbv)
    refine E_br hE (fun hb1 => ?_) (fun hb1 => ?_) <;> cbv
    · have bt1 : lv a / 2 ^ i.toNat % 2 = 1 := of_decide_eq_true (ho.symm.trans hb1)
      have T := dbl t ht
      have es : E.sub [1] 0 1 = [1] := by subst hE; rfl
      repeat' (first
    | (refine E_br hE (fun h => ?_) (fun h => ?_) <;> cbv)
    | (refine E_nm hE (fun v hv => ?_); cbv)
    | (refine E_nilS hE (fun b hb => ?_); cbv)
    | (apply E_callX hE (c_rAdd _ _ ?_ ?_ ?_ ?_); (case hf => rfl); (case hc => (cbv <;> trivial)); (case hle => exact u_up); all_goals (first | (intro u hu; cbv) | ((first | exact T.1 | exact T.2.1 | (show Lb (E.sub [1] 0 1); rw [es]; exact l1) | (show (E.sub [1] 0 1).length < 268435456; rw [es]; show (1 : Nat) < 268435456; decide)))))
    | fail)
      have U := nxt1 t u ht (by rw [hu]; congr 2; show lv (E.sub [1] 0 1) = _; rw [es]) bt1
      (apply E_callX hE (c_rSub u d U.2.1 hd U.2.2 lens.2.1); (case hf => rfl); (case hc => (cbv <;> trivial)); (case hle => exact ⟨u2_sli, u2_sli, trivial⟩); intro s hs; cbv)
      have SB := subs u s hs
      refine E_br hE (fun hs2 => ?_) (fun hs2 => ?_) <;> cbv
      · have k := SB.2 hs2
        (apply E_callX hE (c_rSet q i iv.1 lens.2.2.1 hnn lens.2.2.2.2 (addok hnn)); (case hf => rfl); (case hc => (cbv <;> trivial)); (case hle => exact ⟨u2_sli, u2_int, trivial⟩); intro q' hq'; cbv)
        refine E_nm hE (fun v hv => ?_)
        cbv
        refine ⟨(v, q', s.1), [], ?_, ?_, stLeM trivial rfl rfl rfl trivial ?_⟩
        rotate_right
        · (repeat' (first | exact m_nil | refine m_consA (ms_le rfl rfl) rfl ?_ | refine m_cons ?_ rfl ?_ | exact u2_int | exact u2_bool | exact u2_sli | exact (rfl : sle2 .s0 .s0) | exact u2_s0))
        all_goals (have g := n1 u hnn U.1 k.1; rw [← k.2, ← show q' = setL q i.toNat from hq'] at g; have hv' : v = i - 1 := (by subst hE; have z : v = IntKind.i64.wrap (i - 1) := hv; rw [z, wpi hnn]); subst hv'; first | exact g.1 | exact g.2)
      · have k := SB.1 hs2
        refine E_nm hE (fun v hv => ?_)
        cbv
        refine ⟨(v, q, u), [], ?_, ?_, stLeM trivial rfl rfl rfl trivial ?_⟩
        rotate_right
        · (repeat' (first | exact m_nil | refine m_consA (ms_le rfl rfl) rfl ?_ | refine m_cons ?_ rfl ?_ | exact u2_int | exact u2_bool | exact u2_sli | exact (rfl : sle2 .s0 .s0) | exact u2_s0))
        all_goals (have g := n0 u hnn U.1 k; have hv' : v = i - 1 := (by subst hE; have z : v = IntKind.i64.wrap (i - 1) := hv; rw [z, wpi hnn]); subst hv'; first | exact g.1 | exact g.2)
    · have bt0 : ¬ lv a / 2 ^ i.toNat % 2 = 1 := of_decide_eq_false (ho.symm.trans hb1)
      have U := nxt0 t ht bt0
      (apply E_callX hE (c_rSub t d U.2.1 hd U.2.2 lens.2.1); (case hf => rfl); (case hc => (cbv <;> trivial)); (case hle => exact ⟨u2_sli, u2_sli, trivial⟩); intro s hs; cbv)
      have SB := subs t s hs
      refine E_br hE (fun hs2 => ?_) (fun hs2 => ?_) <;> cbv
      · have k := SB.2 hs2
        (apply E_callX hE (c_rSet q i iv.1 lens.2.2.1 hnn lens.2.2.2.2 (addok hnn)); (case hf => rfl); (case hc => (cbv <;> trivial)); (case hle => exact ⟨u2_sli, u2_int, trivial⟩); intro q' hq'; cbv)
        refine E_nm hE (fun v hv => ?_)
        cbv
        refine ⟨(v, q', s.1), [], ?_, ?_, stLeM trivial rfl rfl rfl trivial ?_⟩
        rotate_right
        · (repeat' (first | exact m_nil | refine m_consA (ms_le rfl rfl) rfl ?_ | refine m_cons ?_ rfl ?_ | exact u2_int | exact u2_bool | exact u2_sli | exact (rfl : sle2 .s0 .s0) | exact u2_s0))
        all_goals (have g := n1 t hnn U.1 k.1; rw [← k.2, ← show q' = setL q i.toNat from hq'] at g; have hv' : v = i - 1 := (by subst hE; have z : v = IntKind.i64.wrap (i - 1) := hv; rw [z, wpi hnn]); subst hv'; first | exact g.1 | exact g.2)
      · have k := SB.1 hs2
        refine E_nm hE (fun v hv => ?_)
        cbv
        refine ⟨(v, q, t), [], ?_, ?_, stLeM trivial rfl rfl rfl trivial ?_⟩
        rotate_right
        · (repeat' (first | exact m_nil | refine m_consA (ms_le rfl rfl) rfl ?_ | refine m_cons ?_ rfl ?_ | exact u2_int | exact u2_bool | exact u2_sli | exact (rfl : sle2 .s0 .s0) | exact u2_s0))
        all_goals (have g := n0 t hnn U.1 k; have hv' : v = i - 1 := (by subst hE; have z : v = IntKind.i64.wrap (i - 1) := hv; rw [z, wpi hnn]); subst hv'; first | exact g.1 | exact g.2)
  · (apply E_callX hE (c_rTrim q iv.1 (Nat.le_of_lt lens.2.2.1)); (case hf => rfl); (case hc => (cbv <;> trivial)); (case hle => exact ⟨u2_sli, trivial⟩); intro x hx; cbv)
    (apply E_callX hE (c_rTrim w iv.2.2.1 (Nat.le_of_lt lens.1)); (case hf => rfl); (case hc => (cbv <;> trivial)); (case hle => exact ⟨u2_sli, trivial⟩); intro y hy; cbv)
    subst hE
    have g := sp (geq_f hi)
    rw [← g, ← hx, ← hy]
    exact ⟨rfl, rfl, rfl, trivial⟩

end Go.Proofs.Ytaiillbjhdoikaa.Ev

/- Contracts of the reference: shifted down. Printed by gen.py. -/
namespace Go.Proofs.Ytaiillbjhdoikaa.Ev
open Go Go.Proofs
set_option linter.unusedVariables false
set_option linter.unusedSimpArgs false

attribute [local irreducible] Lb
theorem c_rShr (a : List Int) (n : Int) (ha : Lb a) (hla : a.length < 67108864) (hn : n < 9223372036854775807) : ∃ t : List Int, t = (if n < 1 then lim (lv a) else lim (lv a / 2 ^ n.toNat)) ∧ CallsA Try.prog 105 [.sli .u32 a, .int .i64 (.s n)] (.sli .u32 t) := by
  refine ⟨_, rfl, ?_⟩
  generalize hr : (if n < 1 then lim (lv a) else lim (lv a / 2 ^ n.toNat)) = r
  have low : n < 1 → lim (lv a) = r := fun h => by rw [← hr, if_pos h]
  have hig : ¬ n < 1 → IntKind.i64.wrap (32 * (a.length : Int)) ≤ n → [] = r := by
    intro h g
    rw [wi64_id (by omega) (by omega)] at g
    have l := lv_lt ha
    have e : (4294967296 : Nat) ^ a.length = 2 ^ (32 * a.length) := by rw [show (4294967296 : Nat) = 2 ^ 32 from rfl, ← Nat.pow_mul]
    have p : (2 : Nat) ^ (32 * a.length) ≤ 2 ^ n.toNat := Nat.pow_le_pow_right (by decide) (by omega)
    rw [← hr, if_neg h, Nat.div_eq_of_lt (by omega)]; rfl
  have nums : ¬ n < 1 → ¬ IntKind.i64.wrap (32 * (a.length : Int)) ≤ n → intBinR .quo .i64 n 32 = n / 32 ∧ intBinR .rem .i64 n 32 = n % 32 ∧ 0 ≤ n / 32 ∧ n / 32 < a.length := by
    intro h g
    rw [wi64_id (by omega) (by omega)] at g
    refine ⟨quo32 (by omega) (by omega), rem32 (by omega), by omega, by omega⟩
  have val : ¬ n < 1 → n / 32 < a.length → (if lv [(2 : Int) ^ (n % 32).toNat] = 0 then ([], [], false) else (lim (lv (lim (lv (a.drop (n / 32).toNat))) / lv [(2 : Int) ^ (n % 32).toNat]), lim (lv (lim (lv (a.drop (n / 32).toNat))) % lv [(2 : Int) ^ (n % 32).toNat]), true) : List Int × List Int × Bool).1 = r := by
    intro h g
    have e : lv [(2 : Int) ^ (n % 32).toNat] = 2 ^ (n % 32).toNat := by
      show ((2 : Int) ^ (n % 32).toNat).toNat + 4294967296 * 0 = _
      rw [pow2_cast]; simp only [Int.toNat_natCast, Nat.mul_zero, Nat.add_zero]
    have p0 : 0 < 2 ^ (n % 32).toNat := Nat.pow_pos (by decide)
    have p := pow_split n.toNat
    rw [show n.toNat / 32 = (n / 32).toNat by omega, show n.toNat % 32 = (n % 32).toNat by omega] at p
    rw [e, if_neg (by omega), lv_lim, lv_drop ha _ (by omega), Nat.div_div_eq_div_mul, ← p, ← hr, if_neg h]
  have l2 : Lb [(2 : Int) ^ (n % 32).toNat] := by have := two_le (r := (n % 32).toNat) (by omega); exact Lb.cons (by omega) (by omega) Lb.nil
  have hx : ∀ x, x = lim (lv (a.drop (n / 32).toNat)) → Lb x ∧ x.length < 67108864 := by
    intro x h
    subst h
    refine ⟨lim_lb _, ?_⟩
    have := lim_length_le' (ha.drop (n / 32).toNat)
    rw [List.length_drop] at this
    omega
  have ld : Lb (a.drop (n / 32).toNat) ∧ (a.drop (n / 32).toNat).length ≤ 268435456 := ⟨ha.drop _, by rw [List.length_drop]; omega⟩
  refine callsA_of hG hm Try.func105 (by kernel_rfl) ?_
  intro E hE lp hl
  cbv
  refine E_br hE (fun g1 => ?_) (fun g1 => ?_) <;> cbv
  · repeat' (first
    | (refine E_br hE (fun h => ?_) (fun h => ?_) <;> cbv)
    | (refine E_nm hE (fun v hv => ?_); cbv)
    | (refine E_nilS hE (fun b hb => ?_); cbv)
    | (apply E_callX hE (c_rTrim _ ha ?_); (case hf => rfl); (case hc => (cbv <;> trivial)); (case hle => exact u_up); all_goals (first | (intro t ht; cbv) | (omega)))
    | fail)
    subst hE; rw [ht]; exact low (lss_t g1)
  refine E_br hE (fun g2 => ?_) (fun g2 => ?_) <;> cbv
  · subst hE; exact (hig (lss_f g1) (geq_t g2)).symm
  have nm : E.bin .quo .i64 n 32 = n / 32 ∧ E.bin .rem .i64 n 32 = n % 32 ∧ 0 ≤ n / 32 ∧ n / 32 < a.length := by subst hE; exact nums (lss_f g1) (geq_f g2)
  have es0 : E.sub a (E.bin .quo .i64 n 32) (E.minus (E.len a) (E.bin .quo .i64 n 32)) = a.drop (n / 32).toNat := by
    subst hE; rw [nm.1]; show (a.drop (n / 32).toNat).take ((a.length : Int) - n / 32).toNat = _; rw [List.take_of_length_le (by rw [List.length_drop]; omega)]
  have es2 : ∀ v, v = E.bin .shl .u32 1 (E.conv .u64 (E.bin .rem .i64 n 32)) → E.sub [v] 0 1 = [2 ^ (n % 32).toNat] := by
    intro v hv
    subst hE
    have e : (realE Try.prog).conv .u64 ((realE Try.prog).bin .rem .i64 n 32) = n % 32 := by
      rw [nm.2.1]; show IntKind.u64.wrap (n % 32) = n % 32; rw [wu64]; omega
    rw [e] at hv
    have e2 : v = intBinR .shl .u32 1 (n % 32) := hv
    rw [shl_one (by omega) (by omega)] at e2
    subst e2; rfl
  refine E_br hE (fun b1 => ?_) (fun b1 => ?_) <;> cbv
  · refine E_br hE (fun b2 => ?_) (fun b2 => ?_) <;> cbv
    · refine E_br hE (fun b3 => ?_) (fun b3 => ?_) <;> cbv
      · (apply E_callX hE (c_rTrim _ ?_ ?_); (case hf => rfl); (case hc => (cbv <;> trivial)); (case hle => exact ⟨u2_sli, trivial⟩); all_goals (first | (intro x hx'; cbv) | (show Lb (E.sub a (E.bin .quo .i64 n 32) (E.minus (E.len a) (E.bin .quo .i64 n 32))); rw [es0]; exact ld.1) | (show (E.sub a (E.bin .quo .i64 n 32) (E.minus (E.len a) (E.bin .quo .i64 n 32))).length ≤ 268435456; rw [es0]; exact ld.2)))
        replace hx' : x = lim (lv (E.sub a (E.bin .quo .i64 n 32) (E.minus (E.len a) (E.bin .quo .i64 n 32)))) := hx'
        rw [es0] at hx'
        have X := hx x hx'
        refine E_br hE (fun b4 => ?_) (fun b4 => ?_) <;> cbv
        · exfalso
          subst hE
          have k := lss_t b4
          have e : (realE Try.prog).conv .u64 ((realE Try.prog).bin .rem .i64 n 32) = n % 32 := by rw [nm.2.1]; show IntKind.u64.wrap (n % 32) = n % 32; rw [wu64]; omega
          rw [e] at k
          omega
        · have e2 := es2 _ rfl
          (apply E_callX hE (c_rDiv _ _ X.1 ?_ X.2 ?_); (case hf => rfl); (case hc => (cbv <;> trivial)); (case hle => exact ⟨u2_sli, u2_sli, trivial⟩); all_goals (first | (intro t ht; cbv) | (show Lb (E.sub [(E.bin .shl .u32 1 (E.conv .u64 (E.bin .rem .i64 n 32)))] 0 1); rw [e2]; exact l2) | (show (E.sub [(E.bin .shl .u32 1 (E.conv .u64 (E.bin .rem .i64 n 32)))] 0 1).length < 67108864; rw [e2]; show (1 : Nat) < 67108864; decide)))
          replace ht : t = (if lv (E.sub [(E.bin .shl .u32 1 (E.conv .u64 (E.bin .rem .i64 n 32)))] 0 1) = 0 then ([], [], false) else (lim (lv x / lv (E.sub [(E.bin .shl .u32 1 (E.conv .u64 (E.bin .rem .i64 n 32)))] 0 1)), lim (lv x % lv (E.sub [(E.bin .shl .u32 1 (E.conv .u64 (E.bin .rem .i64 n 32)))] 0 1)), true)) := ht
          rw [e2, hx'] at ht
          rw [← val (by subst hE; exact lss_f g1) nm.2.2.2, ht]
      · exfalso; subst hE; exact leq_f b3 (Int.le_refl _)
    · exfalso; subst hE; apply leq_f b2; show intBinR .quo .i64 n 32 ≤ (a.length : Int); rw [show intBinR .quo .i64 n 32 = n / 32 from nm.1]; exact Int.le_of_lt nm.2.2.2
  · exfalso; subst hE; apply leq_f b1; show (0 : Int) ≤ intBinR .quo .i64 n 32; rw [show intBinR .quo .i64 n 32 = n / 32 from nm.1]; exact nm.2.2.1

end Go.Proofs.Ytaiillbjhdoikaa.Ev

/- Contracts of the reference: whole numbers. Printed by gen.py. -/
namespace Go.Proofs.Ytaiillbjhdoikaa.Ev
open Go Go.Proofs
set_option linter.unusedVariables false
set_option linter.unusedSimpArgs false

attribute [local irreducible] Lb
theorem lim_len_pos (n : Nat) : 0 < (lim n).length ↔ n ≠ 0 := by
  constructor
  · intro h e; rw [e] at h; exact absurd h (by decide)
  · intro h
    rcases Nat.eq_zero_or_pos (lim n).length with k | k
    · exact absurd (lim_eq_nil.1 (List.length_eq_zero_iff.1 k)) h
    · exact k
theorem c_r2Make (neg : Bool) (m : List Int) (hm_ : Lb m) (hl : m.length ≤ 268435456) : ∃ t : Bool × List Int, t = (neg && decide (lv m ≠ 0), lim (lv m)) ∧ CallsA Try.prog 65 [.bool (.s neg), .sli .u32 m] (.agg [.bool (.s t.1), .sli .u32 t.2]) := by
  refine ⟨_, rfl, ?_⟩
  generalize hr : (neg && decide (lv m ≠ 0), lim (lv m)) = r
  have hp := lim_len_pos (lv m)
  refine callsA_of hG hm Try.func65 (by kernel_rfl) ?_
  intro E hE lp hl'
  cbv
  repeat' (first
    | (refine E_br hE (fun h => ?_) (fun h => ?_) <;> cbv)
    | (refine E_nm hE (fun v hv => ?_); cbv)
    | (refine E_nilS hE (fun b hb => ?_); cbv)
    | (apply E_callX hE (c_rTrim _ hm_ hl); (case hf => rfl); (case hc => (cbv <;> trivial)); (case hle => exact u_up); all_goals (first | (intro t ht; cbv) | (subst hE; (try simp only [NatCast.natCast, Int.ofNat_eq_natCast, realE, cmp_eql, cmp_neq, cmp_lss, cmp_leq, cmp_gtr, cmp_geq, intBinR, decide_eq_true_eq, decide_eq_false_iff_not, SI.val, SB.val, Num.eta, Iv.eta] at *); subst_vars; (first | assumption | omega))))
    | fail)
  all_goals (subst hE; subst hr)
  · refine ⟨?_, ht, trivial⟩
    rw [‹neg = true›]
    show decide ((0 : Int) < (t.length : Int)) = (true && decide (lv m ≠ 0))
    rw [ht, Bool.true_and]
    exact decide_eq_decide.2 ⟨fun h => hp.1 (by omega), fun h => by have := hp.2 h; omega⟩
  · exact ⟨by rw [‹neg = false›]; rfl, ht, trivial⟩
theorem c_r2Sign (neg : Bool) (m : List Int) (hm_ : Lb m) (hl : m.length ≤ 268435456) : ∃ t : Int, t = (if lv m = 0 then 0 else if neg = true then -1 else 1 : Int) ∧ CallsA Try.prog 93 [.agg [.bool (.s neg), .sli .u32 m]] (.int .i64 (.s t)) := by
  refine ⟨_, rfl, ?_⟩
  generalize hr : (if lv m = 0 then 0 else if neg = true then -1 else 1 : Int) = r
  have hp := lim_len_pos (lv m)
  refine callsA_of hG hm Try.func93 (by kernel_rfl) ?_
  intro E hE lp hl'
  cbv
  repeat' (first
    | (refine E_br hE (fun h => ?_) (fun h => ?_) <;> cbv)
    | (refine E_nm hE (fun v hv => ?_); cbv)
    | (refine E_nilS hE (fun b hb => ?_); cbv)
    | (apply E_callX hE (c_r2Make _ _ hm_ hl); (case hf => rfl); (case hc => (cbv <;> trivial)); (case hle => exact u_up); all_goals (first | (intro t ht; cbv) | (subst hE; (try simp only [NatCast.natCast, Int.ofNat_eq_natCast, realE, cmp_eql, cmp_neq, cmp_lss, cmp_leq, cmp_gtr, cmp_geq, intBinR, decide_eq_true_eq, decide_eq_false_iff_not, SI.val, SB.val, Num.eta, Iv.eta] at *); subst_vars; (first | assumption | omega))))
    | fail)
  all_goals (subst hE; subst hr)
  · have k : (t.2.length : Int) = 0 := eql_t ‹_›
    rw [ht] at k
    rw [if_pos (by rcases Nat.eq_zero_or_pos (lv m) with z | z; exact z; exact absurd (hp.2 (by omega)) (by show ¬ 0 < (lim (lv m)).length; have k2 : ((lim (lv m)).length : Int) = 0 := k; omega))]
  all_goals (have k : ¬ (t.2.length : Int) = 0 := eql_f ‹_›; rw [ht] at k; have k2 : lv m ≠ 0 := hp.1 (by have k3 : ¬ ((lim (lv m)).length : Int) = 0 := k; omega); rw [if_neg k2])
  · have q : t.1 = true := ‹_›
    rw [ht] at q
    rw [if_pos (by simp [k2] at q; exact q)]
  · have q : t.1 = false := ‹_›
    rw [ht] at q
    have q' : neg = false := by simp [k2] at q; exact q
    rw [if_neg (by rw [q']; decide)]

end Go.Proofs.Ytaiillbjhdoikaa.Ev

/- Contracts of the reference: numbers times powers of two. Printed by gen.py. -/
namespace Go.Proofs.Ytaiillbjhdoikaa.Ev
open Go Go.Proofs
set_option linter.unusedVariables false
set_option linter.unusedSimpArgs false

attribute [local irreducible] Lb
theorem lv_mod2 {m : List Int} (h : Lb m) (hl : 0 < m.length) : lv m % 2 = 0 ↔ m.getD 0 0 % 2 = 0 := by
  cases m with
  | nil => exact absurd hl (by simp)
  | cons x r =>
    have := h.head
    show (x.toNat + 4294967296 * lv r) % 2 = 0 ↔ x % 2 = 0
    omega
theorem rem2_u32 {n : Int} (h : 0 ≤ n) : intBinR .rem .u32 n 2 = n % 2 := by
  show n.tmod 2 = _
  exact Int.tmod_eq_emod_of_nonneg h
theorem c_r3even (m : List Int) (h : Lb m) : ∃ t : Bool, t = decide (0 < m.length ∧ lv m % 2 = 0) ∧ CallsA Try.prog 106 [.sli .u32 m] (.bool (.s t)) := by
  refine ⟨_, rfl, ?_⟩
  generalize hr : decide (0 < m.length ∧ lv m % 2 = 0) = r
  have e := lv_mod2 h
  have g := h.getD 0
  have rm := rem2_u32 g.1
  refine callsA_of hG hm Try.func106 (by kernel_rfl) ?_
  intro E hE lp hl'
  cbv
  repeat' (first
    | (refine E_br hE (fun h => ?_) (fun h => ?_) <;> cbv)
    | (refine E_nm hE (fun v hv => ?_); cbv)
    | (refine E_nilS hE (fun b hb => ?_); cbv)
    | fail)
  all_goals (subst hE)
  · have k : 0 < m.length := by have q : (0 : Int) < (m.length : Int) := gtr_t ‹_›; omega
    rw [← hr]
    show (realE Try.prog).cmp .eql ((realE Try.prog).bin .rem .u32 ((realE Try.prog).get m 0) 2) 0 = _
    rw [show (realE Try.prog).bin .rem .u32 ((realE Try.prog).get m 0) 2 = m.getD 0 0 % 2 from rm]
    simp only [realE, cmp_eql]
    exact decide_eq_decide.2 ⟨fun q => ⟨k, (e k).2 q⟩, fun q => (e k).1 q.2⟩
  · have q1 : (0 : Int) < (m.length : Int) := gtr_t ‹_›
    have q2 : ¬ (0 : Int) < (m.length : Int) := lss_f ‹_›
    exact q2 q1
  · have q2 : ¬ (0 : Int) < (m.length : Int) := gtr_f ‹_›
    rw [← hr, decide_eq_false (fun q => q2 (by omega))]
theorem c_r3Make (neg : Bool) (m : List Int) (e : Int) (h : Lb m) (hl : m.length ≤ 125000) (he : -9223372036854775808 ≤ e ∧ e < 9223372036854775808) : ∃ t : Bool × Nat × Int, t = dyMake neg (lv m) e ∧
    CallsA Try.prog 64 [.agg [.bool (.s neg), .sli .u32 m], .int .i64 (.s e)] (.agg [.bool (.s t.1), .sli .u32 (lim t.2.1), .int .i64 (.s t.2.2)]) := by
  refine ⟨_, rfl, ?_⟩
  generalize hr : dyMake neg (lv m) e = r
  obtain ⟨k, ek⟩ : ∃ k, lv m = k := ⟨_, rfl⟩
  obtain ⟨B, hB, hk⟩ : ∃ B : Nat, B ≤ 4000000 ∧ k < 2 ^ B := by
    have l := lv_lt h
    rw [ek, show (4294967296 : Nat) = 2 ^ 32 from rfl, ← Nat.pow_mul] at l
    exact ⟨32 * m.length, by omega, l⟩
  have hx : ∀ t : Bool × List Int, t = (neg && decide (lv m ≠ 0), lim (lv m)) → t.2 = lim k ∧ (t.2.length = 0 ↔ k = 0) ∧ (k ≠ 0 → t.1 = neg) := by
    intro t ht
    subst ht
    rw [ek]
    have := lim_len_pos k
    refine ⟨rfl, ⟨fun z => lim_eq_nil.1 (List.length_eq_zero_iff.1 z), fun z => by rw [z]; rfl⟩, fun z => by simp [z]⟩
  have bad : (k = 0 ∨ e < -4194304 ∨ 4194304 < e) → r = (false, 0, 0) := by
    intro z; rw [← hr, ek]; unfold dyMake; rw [if_pos z]
  have big : ¬ (k = 0 ∨ e < -4194304 ∨ 4194304 < e) → 4194304 < e + v2 k → r = (false, 0, 0) := by
    intro z y; rw [← hr, ek]; unfold dyMake; rw [if_neg z, if_pos y]
  have fine : ¬ (k = 0 ∨ e < -4194304 ∨ 4194304 < e) → ¬ 4194304 < e + v2 k → r = (neg, k / 2 ^ v2 k, e + v2 k) := by
    intro z y; rw [← hr, ek]; unfold dyMake; rw [if_neg z, if_neg y]
  obtain ⟨ms, em⟩ : ∃ ms : Int × Int × List Int → Nat, ∀ p, ms p = ((4000000 : Int) - p.1).toNat := ⟨_, fun _ => rfl⟩
  obtain ⟨ok, eok⟩ : ∃ ok : Int × Int × List Int → Prop, ∀ p, ok p ↔ (0 ≤ p.1 ∧ p.2.1 = e + p.1 ∧ p.2.2 = lim (k / 2 ^ p.1.toNat) ∧ v2 k = p.1.toNat + v2 (k / 2 ^ p.1.toNat) ∧ 0 < k / 2 ^ p.1.toNat ∧ p.2.2.length < 67108864) := ⟨_, fun _ => Iff.rfl⟩
  have vlt : k ≠ 0 → v2 k < 4000000 := fun z => Nat.lt_of_lt_of_le (v2_lt (by omega) hk) hB
  have limlen : ∀ j, (lim (k / 2 ^ j)).length < 67108864 := by
    intro j
    have l := lv_lt h
    rw [ek] at l
    have d : k / 2 ^ j ≤ k := Nat.div_le_self _ _
    have := lim_length_le (n := k / 2 ^ j) (k := m.length) (by omega)
    omega
  have start : k ≠ 0 → ∀ x, x = lim k → ok (0, e, x) := by
    intro z x hx
    refine (eok _).2 ⟨Int.le_refl _, by show e = e + 0; omega, ?_, ?_, ?_, by rw [hx]; have := limlen 0; simpa using this⟩
    · show x = lim (k / 2 ^ (0 : Int).toNat); rw [hx]; simp
    · show v2 k = (0 : Int).toNat + v2 (k / 2 ^ (0 : Int).toNat); simp
    · show 0 < k / 2 ^ (0 : Int).toNat; simp; omega
  have nextE : ∀ i e' L, k ≠ 0 → ok (i, e', L) → (0 < L.length ∧ lv L % 2 = 0) → ∀ L', L' = (if (1 : Int) < 1 then lim (lv L) else lim (lv L / 2 ^ (1 : Int).toNat)) → ms (i + 1, e' + 1, L') < ms (i, e', L) ∧ ok (i + 1, e' + 1, L') := by
    intro i e' L z hok hev L' hL
    obtain ⟨k1, k2, k3, k4, k5, k6⟩ := (eok _).1 hok
    dsimp only at k1 k2 k3 k4 k5 k6
    rw [k3, lv_lim] at hev
    have rd := (v2_round (k := k) (j := i.toNat) (by omega) k4 k5).1 hev.2
    have vl := vlt z
    rw [if_neg (by decide), k3, lv_lim, show (2 : Nat) ^ (1 : Int).toNat = 2 from rfl, half_pow] at hL
    have e3 : (i + 1).toNat = i.toNat + 1 := by omega
    refine ⟨by rw [em, em]; show ((4000000 : Int) - (i + 1)).toNat < ((4000000 : Int) - i).toNat; omega, (eok _).2 ⟨by show 0 ≤ i + 1; omega, by show e' + 1 = e + (i + 1); omega, ?_, ?_, ?_, ?_⟩⟩
    · show L' = lim (k / 2 ^ (i + 1).toNat); rw [e3, hL]
    · show v2 k = (i + 1).toNat + v2 (k / 2 ^ (i + 1).toNat); rw [e3]; exact rd.1
    · show 0 < k / 2 ^ (i + 1).toNat; rw [e3]; exact rd.2
    · show L'.length < _; rw [hL]; exact limlen _
  have inv : ∀ i e' L, k ≠ 0 → ok (i, e', L) → 0 ≤ i ∧ i < 4000000 ∧ e' = e + i ∧ Lb L ∧ L.length < 67108864 := by
    intro i e' L z hok
    obtain ⟨k1, k2, k3, k4, k5, k6⟩ := (eok _).1 hok
    dsimp only at k1 k2 k3 k4 k5 k6
    have vl := vlt z
    exact ⟨k1, by omega, k2, by rw [k3]; exact lim_lb _, k6⟩
  have odd : ∀ i e' L, k ≠ 0 → ok (i, e', L) → ¬ (0 < L.length ∧ lv L % 2 = 0) → (v2 k : Int) = i ∧ L = lim (k / 2 ^ v2 k) := by
    intro i e' L z hok hev
    obtain ⟨k1, k2, k3, k4, k5, k6⟩ := (eok _).1 hok
    dsimp only at k1 k2 k3 k4 k5 k6
    have od : k / 2 ^ i.toNat % 2 ≠ 0 := by
      intro q; apply hev
      rw [k3, lv_lim]
      exact ⟨(lim_len_pos _).2 (by omega), q⟩
    have rd := (v2_round (k := k) (j := i.toNat) (by omega) k4 k5).2 od
    exact ⟨by omega, by rw [k3, rd]⟩
  have wr : ∀ i e' : Int, 0 ≤ i → i < 4000000 → e' = e + i → ¬ (k = 0 ∨ e < -4194304 ∨ 4194304 < e) → IntKind.i64.wrap (i + 1) = i + 1 ∧ IntKind.i64.wrap (e' + 1) = e' + 1 := by
    intro i e' a1 a2 a3 a4
    rw [wi64, wi64]; omega
  refine callsA_of hG hm Try.func64 (by kernel_rfl) ?_
  intro E hE lp hl'
  cbv
  (first | (apply E_callX hE (c_r2Make _ _ h (by omega)); (case hf => rfl); (case hc => (cbv <;> trivial)); (case hle => exact ⟨u2_bool, u2_sli, trivial⟩); intro x hx'; cbv))
  have X := hx x hx'
  refine E_br hE (fun g1 => ?_) (fun g1 => ?_) <;> cbv
  · rw [bad (.inl (X.2.1.1 (by subst hE; have q : (x.2.length : Int) = 0 := eql_t g1; omega)))]; exact ⟨rfl, rfl, rfl, trivial⟩
  refine E_br hE (fun g2 => ?_) (fun g2 => ?_) <;> cbv
  · rw [bad (.inr (.inl (by subst hE; exact lss_t g2)))]; exact ⟨rfl, rfl, rfl, trivial⟩
  refine E_br hE (fun g3 => ?_) (fun g3 => ?_) <;> cbv
  · rw [bad (.inr (.inr (by subst hE; exact gtr_t g3)))]; exact ⟨rfl, rfl, rfl, trivial⟩
  have ok0 : ¬ (k = 0 ∨ e < -4194304 ∨ 4194304 < e) := by
    subst hE
    have q1 : ¬ (x.2.length : Int) = 0 := eql_f g1
    have q2 := lss_f g2
    have q3 := gtr_f g3
    have q4 := X.2.1
    omega
  have kz : k ≠ 0 := fun z => by subst hE; have q : ¬ (x.2.length : Int) = 0 := eql_f g1; exact q (by have := X.2.1.2 z; omega)
  refine E_loop hE hG hm hl' (fun p : Int × Int × List Int => (⟨[(1, .int .i64 (.s p.2.1)), (4, .ptr 1 3 (.l 0) 0), (5, .ptr 2 2 (.l 0) 0), (6, .int .i64 (.s p.1))],
    [.rows true 2 [.bool (.l false), .s0] [[.bool (.s neg), .sli .u32 m]], .rows true 3 [.bool (.l false), .s0, .int .i64 (.l 0)] [[.bool (.l false), .s0, .int .i64 (.l 0)]], .rows true 2 [.bool (.l false), .s0] [[.bool (.s x.1), .sli .u32 p.2.2]]]⟩ : St)) ms ok ⟨(0, e, x.2), start kz x.2 X.1, stLe rfl ?_⟩ ?_
  · (repeat' (first | exact t_nil | apply t_cons | exact u2_sli | exact u2_int | exact u2_bool | exact u2_ms | exact u2_ptr | exact (rfl : sle2 .s0 .s0)))
  rintro ⟨i, e', L⟩ hok
  have iv := inv i e' L kz hok
  have nx := nextE i e' L kz hok
  have od := odd i e' L kz hok
  clear nextE inv odd start eok hok
  cbv
  refine E_br hE (fun gi => ?_) (fun gi => ?_) <;> cbv
  · (apply E_callX hE (c_r3even L iv.2.2.2.1); (case hf => rfl); (case hc => (cbv <;> trivial)); (case hle => exact ⟨u2_sli, trivial⟩); intro o ho; cbv)
    refine E_br hE (fun go => ?_) (fun go => ?_) <;> cbv
    · have q : o = false := by subst hE; have z : (!o) = true := go; simpa using z
      have od' := od (of_decide_eq_false (ho.symm.trans q))
      refine E_br hE (fun gb => ?_) (fun gb => ?_) <;> cbv
      · rw [big ok0 (by rw [od'.1, ← iv.2.2.1]; subst hE; exact gtr_t gb)]; exact ⟨rfl, rfl, rfl, trivial⟩
      · rw [fine ok0 (by rw [od'.1, ← iv.2.2.1]; subst hE; exact gtr_f gb)]
        exact ⟨X.2.2 kz, od'.2, by rw [od'.1]; exact iv.2.2.1, trivial⟩
    · have q : o = true := by subst hE; have z : (!o) = false := go; simpa using z
      (apply E_pcallX hE (c_rShr L 1 iv.2.2.2.1 iv.2.2.2.2 (by decide)); (case hm => rfl); (case hle => exact ⟨u2_sli, u2_int, trivial⟩); intro L' hL'; cbv)
      refine E_nm hE (fun e2 he2 => ?_)
      cbv
      refine E_nm hE (fun i2 hi2 => ?_)
      cbv
      refine ⟨(i2, e2, L'), ?_, ?_, stLe rfl ?_⟩
      rotate_right
      · (repeat' (first | exact t_nil | apply t_cons | exact u2_sli | exact u2_int | exact u2_bool | exact u2_ms | exact u2_ptr | exact (rfl : sle2 .s0 .s0)))
      all_goals (have g := nx (of_decide_eq_true (ho.symm.trans q)) L' hL'; have wv := wr i e' iv.1 iv.2.1 iv.2.2.1 ok0; have z1 : e2 = e' + 1 := (by subst hE; exact Eq.trans (b := IntKind.i64.wrap (e' + 1)) he2 wv.2); have z2 : i2 = i + 1 := (by subst hE; exact Eq.trans (b := IntKind.i64.wrap (i + 1)) hi2 wv.1); subst z1; subst z2; first | exact g.1 | exact g.2)
  · exfalso; subst hE; exact lss_f gi iv.2.1

end Go.Proofs.Ytaiillbjhdoikaa.Ev

/- Contracts of the reference: numbers. Printed by gen.py out of R12.spec. -/
namespace Go.Proofs.Ytaiillbjhdoikaa.Ev
open Go Go.Proofs
set_option linter.unusedVariables false
set_option linter.unusedSimpArgs false
theorem c_rMay (n : Num)  : ∃ t : Bool, t = n.may ∧ CallsA Try.prog 91 [n.av] (.bool (.s t)) := by
  refine ⟨_, rfl, ?_⟩
  generalize hr : n.may = r
  refine callsA_of hG hm Try.func91 (by kernel_rfl) ?_
  intro E hE lp hl
  cbv
  repeat' (first
    | (refine E_br hE (fun h => ?_) (fun h => ?_) <;> cbv)
    | (refine E_nm hE (fun v hv => ?_); cbv)
    | fail)
  all_goals (subst hE; subst hr)
  all_goals (try simp only [realE, cmp_eql, cmp_neq, cmp_lss, cmp_leq, cmp_gtr, cmp_geq, intBinR, decide_eq_true_eq, decide_eq_false_iff_not, SI.val, SB.val, Num.eta, Iv.eta] at *)
  all_goals (simp only [Num.may, Num.zero, Num.top, Num.eq_iff])
  all_goals (try simp_all)
  all_goals (try (intros; omega))
  all_goals (try (simp only [decide_eq_true_eq]; intros; omega))

theorem c_rInf (b : Bool)  : ∃ t : Num, t = Num.inf b ∧ CallsA Try.prog 53 [.bool (.s b)] (t.av) := by
  refine ⟨_, rfl, ?_⟩
  generalize hr : Num.inf b = r
  refine callsA_of hG hm Try.func53 (by kernel_rfl) ?_
  intro E hE lp hl
  cbv
  repeat' (first
    | (refine E_br hE (fun h => ?_) (fun h => ?_) <;> cbv)
    | (refine E_nm hE (fun v hv => ?_); cbv)
    | fail)
  all_goals (subst hE; subst hr)
  all_goals (try simp only [realE, cmp_eql, cmp_neq, cmp_lss, cmp_leq, cmp_gtr, cmp_geq, intBinR, decide_eq_true_eq, decide_eq_false_iff_not, SI.val, SB.val, Num.eta, Iv.eta] at *)
  all_goals (try simp_all [Num.inf])
  all_goals (try omega)
  all_goals (try simp only [Bool.and_assoc])
  all_goals (try rfl)
  all_goals ((repeat' split) <;> (try simp_all) <;> (try omega))

theorem c_rFin (neg : Bool) (m : Int) (e : Int) (away : Bool)  : ∃ t : Num, t = Num.bound neg m e away ∧ CallsA Try.prog 103 [.bool (.s neg), .int .u64 (.s m), .int .i64 (.s e), .bool (.s away)] (t.av) := by
  refine ⟨_, rfl, ?_⟩
  generalize hr : Num.bound neg m e away = r
  refine callsA_of hG hm Try.func103 (by kernel_rfl) ?_
  intro E hE lp hl
  cbv
  repeat' (first
    | (refine E_br hE (fun h => ?_) (fun h => ?_) <;> cbv)
    | (refine E_nm hE (fun v hv => ?_); cbv)
    | (apply E_callX hE (c_rInf _); (case hf => rfl); (case hc => (cbv <;> trivial)); (case hle => exact u_up); intro t ht; cbv)
    | fail)
  all_goals (subst hE; subst hr)
  all_goals (try simp only [realE, cmp_eql, cmp_neq, cmp_lss, cmp_leq, cmp_gtr, cmp_geq, intBinR, decide_eq_true_eq, decide_eq_false_iff_not, SI.val, SB.val, Num.eta, Iv.eta] at *)
  all_goals (try simp_all [Num.bound, Num.zero, Num.inf, Num.huge, Num.tiny, Num.top])
  all_goals (try omega)
  all_goals (try simp only [Bool.and_assoc])
  all_goals (try rfl)
  all_goals ((repeat' split) <;> (try simp_all) <;> (try omega))

theorem c_r6Fair (n : Num)  : ∃ t : Num, t = n.fair ∧ CallsA Try.prog 52 [n.av] (t.av) := by
  refine ⟨_, rfl, ?_⟩
  generalize hr : n.fair = r
  refine callsA_of hG hm Try.func52 (by kernel_rfl) ?_
  intro E hE lp hl
  cbv
  repeat' (first
    | (refine E_br hE (fun h => ?_) (fun h => ?_) <;> cbv)
    | (refine E_nm hE (fun v hv => ?_); cbv)
    | (apply E_callX hE (c_rMay ⟨_, _, _, _⟩); (case hf => rfl); (case hc => (cbv <;> trivial)); (case hle => exact u_up); intro t ht; cbv)
    | fail)
  all_goals (subst hE; subst hr)
  all_goals (try simp only [realE, cmp_eql, cmp_neq, cmp_lss, cmp_leq, cmp_gtr, cmp_geq, intBinR, decide_eq_true_eq, decide_eq_false_iff_not, SI.val, SB.val, Num.eta, Iv.eta] at *)
  all_goals (try simp_all [Num.fair, Num.zero])
  all_goals (try omega)
  all_goals (try simp only [Bool.and_assoc])
  all_goals (try rfl)
  all_goals ((repeat' split) <;> (try simp_all) <;> (try omega))

end Go.Proofs.Ytaiillbjhdoikaa.Ev

/- Contracts of the reference: limbs, a word, exact numbers. Printed by gen.py. -/
namespace Go.Proofs.Ytaiillbjhdoikaa.Ev
open Go Go.Proofs
set_option linter.unusedVariables false
set_option linter.unusedSimpArgs false

attribute [local irreducible] Lb
theorem c_rLimbs (m : Int) (h0 : 0 ≤ m) (h1 : m < 18446744073709551616) : ∃ t : List Int, t = [m % 4294967296, m / 4294967296] ∧ CallsA Try.prog 92 [.int .u64 (.s m)] (.sli .u32 t) := by
  refine ⟨_, rfl, ?_⟩
  generalize hr : [m % 4294967296, m / 4294967296] = r
  have w1 : IntKind.u32.wrap (intBinR .rem .u64 m 4294967296) = m % 4294967296 := by rw [rem_u64 h0, wu32]; omega
  have w2 : IntKind.u32.wrap (intBinR .quo .u64 m 4294967296) = m / 4294967296 := by rw [quo_u64 h0 h1, wu32]; omega
  refine callsA_of hG hm Try.func92 (by kernel_rfl) ?_
  intro E hE lp hl'
  cbv
  repeat' (first
    | (refine E_br hE (fun h => ?_) (fun h => ?_) <;> cbv)
    | (refine E_nm hE (fun v hv => ?_); cbv)
    | (refine E_nilS hE (fun b hb => ?_); cbv)
    | fail)
  subst hE
  rw [← hr, ← w1, ← w2]
  rfl
theorem word_step {x : Nat} {y : Int} (hx : x < 4294967296) (hy : 0 ≤ y ∧ y < 4294967296) : IntKind.u64.wrap (IntKind.u64.wrap ((x : Int) * 4294967296) + IntKind.u64.wrap y) = ((y.toNat + 4294967296 * x : Nat) : Int) := by
  rw [wu64, wu64, wu64]; omega
theorem c_rWord (m : List Int) (h : Lb m) (hl : m.length ≤ 2) : ∃ t : Int, t = (lv m : Int) ∧ CallsA Try.prog 104 [.sli .u32 m] (.int .u64 (.s t)) := by
  refine ⟨_, rfl, ?_⟩
  generalize hr : (lv m : Int) = r
  obtain ⟨ms, em⟩ : ∃ ms : Int × Int → Nat, ∀ p, ms p = (p.1 + 1).toNat := ⟨_, fun _ => rfl⟩
  obtain ⟨ok, eok⟩ : ∃ ok : Int × Int → Prop, ∀ p, ok p ↔ (-1 ≤ p.1 ∧ p.1 < m.length ∧ p.2 = (lv (m.drop (p.1 + 1).toNat) : Int)) := ⟨_, fun _ => Iff.rfl⟩
  have start : ∀ i, i = IntKind.i64.wrap ((m.length : Int) - 1) → ok (i, 0) := by
    intro i hi
    have e : i = m.length - 1 := by rw [hi, wi64]; omega
    refine (eok _).2 ⟨by show -1 ≤ i; omega, by show i < _; omega, ?_⟩
    show 0 = (lv (m.drop (i + 1).toNat) : Int)
    rw [show (i + 1).toNat = m.length by omega, List.drop_length]; rfl
  have next : ∀ i n, ok (i, n) → 0 ≤ i → ∀ n', n' = IntKind.u64.wrap (IntKind.u64.wrap (n * 4294967296) + IntKind.u64.wrap (m.getD i.toNat 0)) → ms (IntKind.i64.wrap (i - 1), n') < ms (i, n) ∧ ok (IntKind.i64.wrap (i - 1), n') := by
    intro i n hok hi n' hn'
    obtain ⟨k1, k2, k3⟩ := (eok _).1 hok
    dsimp only at k1 k2 k3
    have g := h.getD i.toNat
    have small : lv (m.drop (i + 1).toNat) < 4294967296 := by
      have l := lv_lt (h.drop (i + 1).toNat)
      have : (m.drop (i + 1).toNat).length ≤ 1 := by rw [List.length_drop]; omega
      have p : (4294967296 : Nat) ^ (m.drop (i + 1).toNat).length ≤ 4294967296 ^ 1 := Nat.pow_le_pow_right (by decide) this
      omega
    rw [k3, word_step small g] at hn'
    have e : IntKind.i64.wrap (i - 1) = i - 1 := by rw [wi64]; omega
    rw [e]
    refine ⟨by rw [em, em]; show (i - 1 + 1).toNat < (i + 1).toNat; omega, (eok _).2 ⟨by show -1 ≤ i - 1; omega, by show i - 1 < _; omega, ?_⟩⟩
    show n' = (lv (m.drop (i - 1 + 1).toNat) : Int)
    rw [hn', show (i - 1 + 1).toNat = i.toNat by omega, lv_drop_step m i.toNat, show (i + 1).toNat = i.toNat + 1 by omega]
  have stop : ∀ i n, ok (i, n) → ¬ 0 ≤ i → n = r := by
    intro i n hok hi
    obtain ⟨k1, k2, k3⟩ := (eok _).1 hok
    dsimp only at k1 k2 k3
    rw [k3, show (i + 1).toNat = 0 by omega, List.drop_zero, hr]
  have bnd : ∀ i n, ok (i, n) → i < m.length := by
    intro i n hok
    exact ((eok _).1 hok).2.1
  refine callsA_of hG hm Try.func104 (by kernel_rfl) ?_
  intro E hE lp hl'
  cbv
  refine E_nm hE (fun i0 hi0 => ?_)
  cbv
  refine E_loop hE hG hm hl' (fun p : Int × Int => (⟨[(0, .sli .u32 m), (3, .int .u64 (.s p.2)), (4, .int .i64 (.s p.1))], []⟩ : St)) ms ok ⟨(i0, 0), (by subst hE; exact start i0 hi0), stLe rfl ?_⟩ ?_
  · (repeat' (first | exact t_nil | apply t_cons | exact u2_sli | exact u2_int | exact u2_bool | exact u2_ms | exact u2_ptr | exact (rfl : sle2 .s0 .s0)))
  rintro ⟨i, n⟩ hok
  have nx := next i n hok
  have sp := stop i n hok
  have bd := bnd i n hok
  clear next stop bnd start hok
  cbv
  refine E_br hE (fun g1 => ?_) (fun g1 => ?_) <;> cbv
  · have i0' : 0 ≤ i := by subst hE; exact geq_t g1
    refine E_br hE (fun g2 => ?_) (fun g2 => ?_) <;> cbv
    · refine E_br hE (fun g3 => ?_) (fun g3 => ?_) <;> cbv
      · refine E_nm hE (fun n2 hn2 => ?_)
        cbv
        refine E_nm hE (fun i2 hi2 => ?_)
        cbv
        refine ⟨(i2, n2), ?_, ?_, stLe rfl ?_⟩
        rotate_right
        · (repeat' (first | exact t_nil | apply t_cons | exact u2_sli | exact u2_int | exact u2_bool | exact u2_ms | exact u2_ptr | exact (rfl : sle2 .s0 .s0)))
        all_goals (subst hE; have g := nx i0' n2 hn2; have z : i2 = IntKind.i64.wrap (i - 1) := hi2; subst z; first | exact g.1 | exact g.2)
      · exfalso; subst hE; exact lss_f g3 bd
    · exfalso; subst hE; exact leq_f g2 i0'
  · refine E_nm hE (fun z hz => ?_)
    cbv
    subst hE
    exact Eq.trans (b := n) hz (sp (geq_f g1))

end Go.Proofs.Ytaiillbjhdoikaa.Ev

/- Contracts of the reference: exact numbers, and rounding. Printed by gen.py. -/
namespace Go.Proofs.Ytaiillbjhdoikaa.Ev
open Go Go.Proofs
set_option linter.unusedVariables false
set_option linter.unusedSimpArgs false

attribute [local irreducible] Lb
theorem rlimbs_lb {m : Int} (h0 : 0 ≤ m) (h1 : m < 18446744073709551616) : Lb [m % 4294967296, m / 4294967296] :=
  Lb.cons (by omega) (by omega) (Lb.cons (by omega) (by omega) Lb.nil)
theorem rlimbs_lv {m : Int} (h0 : 0 ≤ m) : lv [m % 4294967296, m / 4294967296] = m.toNat := by
  simp only [lv]; omega
theorem k_r3Make (neg : Bool) (m : List Int) (e : Int) (h : Lb m) (hl : m.length ≤ 125000) (he : -9223372036854775808 ≤ e ∧ e < 9223372036854775808) : ∃ t : Bool × List Int × Int, t = dyL (dyMake neg (lv m) e) ∧
    CallsA Try.prog 64 [.agg [.bool (.s neg), .sli .u32 m], .int .i64 (.s e)] (.agg [.bool (.s t.1), .sli .u32 t.2.1, .int .i64 (.s t.2.2)]) := by
  obtain ⟨t, ht, hC⟩ := c_r3Make neg m e h hl he
  refine ⟨dyL t, by rw [ht], hC⟩
theorem lim_len_of {k : Nat} {m : List Int} (h : Lb m) (hk : k ≤ lv m) : (lim k).length ≤ m.length := lim_length_le (by have := lv_lt h; omega)

theorem c_rExact (n : Num) (ho : n.ok) : ∃ t : (Bool × List Int × Int) × Bool, t = (dyL n.exact.1, n.exact.2) ∧ CallsA Try.prog 54 [n.av] (.tup [.agg [.bool (.s t.1.1), .sli .u32 t.1.2.1, .int .i64 (.s t.1.2.2)], .bool (.s t.2)]) := by
  refine ⟨_, rfl, ?_⟩
  generalize hr : (dyL n.exact.1, n.exact.2) = r
  have bad : (n.may = false ∨ n.kind = 2) → r = ((false, [], 0), false) := by intro h; rw [← hr]; unfold Num.exact; rw [if_pos h]; rfl
  have zer : ¬ (n.may = false ∨ n.kind = 2) → n.kind = 0 → r = ((false, [], 0), true) := by intro h g; rw [← hr]; unfold Num.exact; rw [if_neg h, if_pos g]; rfl
  have fin : ¬ (n.may = false ∨ n.kind = 2) → n.kind ≠ 0 → r = (dyL (dyMake n.neg n.m.toNat n.e), true) ∧ n.m.toNat ≠ 0 ∧ -1048576 ≤ n.e ∧ n.e ≤ 1048576 := by
    intro h g
    have mm : n.may = true := by cases q : n.may; exact absurd (.inl q) h; rfl
    have F : n.Fin := by
      rcases Num.may3 mm ho with k | k | k
      · rw [k] at g; exact absurd rfl g
      · exact k
      · exfalso; apply h; right; rw [k]; rfl
    have := F.lo
    refine ⟨?_, by omega, F.elo, F.ehi⟩
    rw [← hr]; unfold Num.exact; rw [if_neg h, if_neg g]
  have lb := rlimbs_lb ho.1 ho.2
  have lvl := rlimbs_lv ho.1
  refine callsA_of hG hm Try.func54 (by kernel_rfl) ?_
  intro E hE lp hl'
  cbv
  (apply E_callX hE (c_rMay ⟨_, _, _, _⟩); (case hf => rfl); (case hc => (cbv <;> trivial)); (case hle => exact u_up); all_goals (first | (intro o ho_; cbv) | (assumption)))
  refine E_br hE (fun g1 => ?_) (fun g1 => ?_) <;> cbv
  · rw [bad (.inl (by subst hE; have z : (!o) = true := g1; rw [← show o = n.may from ho_]; simpa using z))]; exact ⟨⟨rfl, rfl, rfl, trivial⟩, rfl, trivial⟩
  have m1 : n.may = true := by subst hE; have z : (!o) = false := g1; rw [← show o = n.may from ho_]; simpa using z
  refine E_br hE (fun g2 => ?_) (fun g2 => ?_) <;> cbv
  · rw [bad (.inr (by subst hE; exact eql_t g2))]; exact ⟨⟨rfl, rfl, rfl, trivial⟩, rfl, trivial⟩
  have m2 : ¬ (n.may = false ∨ n.kind = 2) := by
    rintro (z | z)
    · rw [m1] at z; cases z
    · subst hE; exact eql_f g2 z
  refine E_br hE (fun g3 => ?_) (fun g3 => ?_) <;> cbv
  · rw [zer m2 (by subst hE; exact eql_t g3)]; exact ⟨⟨rfl, rfl, rfl, trivial⟩, rfl, trivial⟩
  have K := fin m2 (by subst hE; exact eql_f g3)
  (apply E_pcallX hE (c_rLimbs _ ho.1 ho.2); (case hm => rfl); (case hle => exact u_up); all_goals (first | (intro x hx; cbv) | (assumption)))
  have X : Lb x ∧ x.length ≤ 125000 ∧ lv x = n.m.toNat := by
    have hx' : x = [n.m % 4294967296, n.m / 4294967296] := hx
    rw [hx']; exact ⟨lb, by show 2 ≤ 125000; decide, lvl⟩
  (apply E_pcallX hE (c_r2Make _ _ X.1 ?_); (case hm => rfl); (case hle => exact u_up); all_goals (first | (intro w hw; cbv) | (exact Nat.le_trans X.2.1 (by decide))))
  have W : w.1 = n.neg ∧ Lb w.2 ∧ w.2.length ≤ 125000 ∧ lv w.2 = n.m.toNat := by
    have hw' : w = (n.neg && decide (lv x ≠ 0), lim (lv x)) := hw
    rw [hw', X.2.2]
    refine ⟨by simp [K.2.1], lim_lb _, ?_, lv_lim _⟩
    have q := lim_len_of X.1 (k := n.m.toNat) (by rw [X.2.2]; exact Nat.le_refl _)
    exact Nat.le_trans q X.2.1
  (apply E_pcallX hE (k_r3Make _ _ _ W.2.1 W.2.2.1 ?_); (case hm => rfl); (case hle => exact u_up); all_goals (first | (intro t ht; cbv) | (exact ⟨Int.le_trans (by decide) K.2.2.1, Int.lt_of_le_of_lt K.2.2.2 (by decide)⟩)))
  rw [K.1, ← W.1, ← W.2.2.2]
  rw [show t = dyL (dyMake w.1 (lv w.2) n.e) from ht]
  exact ⟨⟨rfl, rfl, rfl, trivial⟩, rfl, trivial⟩

end Go.Proofs.Ytaiillbjhdoikaa.Ev
