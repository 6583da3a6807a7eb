/- Texts of the proof, joined: S2 W6 W10 S3 S4 Pu20 Pu18 Pu21 Pu22 Pu23 C9h C10 C11 C12a C13 C14 C15 C16 C17 C18 C19 C20 Ok1 C23 Pu24 Pu25 Pu26 Pu28a Pu28 Pu29 Pu30 Pu19 Pu39 S5 Br18 D1 R1 R2 R3 R4 R5 R6 R7 R8 R9 R10 R11 R12 R13 R14 D2 D3 Pu40 Pu41 D5 D6 Pu45 W7 Ev30 W8 Br17 Pu42 Pu43 Pu46 S7 Rd -/
import Derived.Test.YtmdgeaagaljheaaDoorB5
import Derived.Laws.Externs
import Derived.ChangeArms
import Derived.ProofKit
import Derived.RowKit
import Derived.Carry
set_option linter.unusedVariables false
set_option linter.unusedSimpArgs false

/- Contracts of decimal.Make and decimal.May: a number times a power of ten. Printed by gen.py. -/
namespace Go.Proofs.YtmdgeaagaljheaaDoor.Ev
open Go Go.Proofs
set_option linter.unusedVariables false
set_option linter.unusedSimpArgs false

attribute [local irreducible] Lb
/-- how many noughts there are at the end -/
def t10 (n : Nat) : Nat := if h : 0 < n ∧ n % 10 = 0 then t10 (n / 10) + 1 else 0
termination_by n
decreasing_by omega
theorem t10_go {n : Nat} (h : 0 < n) (h2 : n % 10 = 0) : t10 n = t10 (n / 10) + 1 := by rw [t10, dif_pos ⟨h, h2⟩]
theorem t10_stop {n : Nat} (h2 : n % 10 ≠ 0) : t10 n = 0 := by rw [t10, dif_neg (fun k => h2 k.2)]
theorem t10_spec : ∀ (n : Nat), 0 < n → n / 10 ^ t10 n * 10 ^ t10 n = n ∧ n / 10 ^ t10 n % 10 ≠ 0 ∧ 10 ^ t10 n ≤ n := by
  intro n
  induction n using Nat.strongRecOn with
  | ind n ih =>
    intro h
    by_cases k : n % 10 = 0
    · rw [t10_go h k]
      obtain ⟨i1, i2, i3⟩ := ih (n / 10) (by omega) (by omega)
      rw [Nat.pow_succ, Nat.mul_comm (10 ^ _) 10, ← Nat.div_div_eq_div_mul]
      refine ⟨?_, i2, by omega⟩
      rw [Nat.mul_left_comm, i1]; omega
    · rw [t10_stop k]
      simp; omega
theorem t10_le {n k : Nat} (h0 : 0 < n) (h : n < 10 ^ k) : t10 n < k := by
  have := (t10_spec n h0).2.2
  rcases Nat.lt_or_ge (t10 n) k with j | j
  · exact j
  · have : (10 : Nat) ^ k ≤ 10 ^ t10 n := Nat.pow_le_pow_right (by decide) j
    omega
/-- a number times a power of ten, of which all tens are taken; or none -/
def decMake (neg : Bool) (N : Nat) (tens : Int) : (Bool × List Int × Int) × Int :=
  if N = 0 then ((false, [], 0), 0)
  else if 1000000 < tens ∨ tens < -1000000 then ((false, [], 0), 1)
  else if tens + t10 N < -400 ∨ 400 < tens + t10 N ∨ 5 < (lim (N / 10 ^ t10 N)).length ∨ 40 < (decS (N / 10 ^ t10 N)).length then ((false, [], 0), 1)
  else ((neg, lim (N / 10 ^ t10 N), tens + t10 N), 0)
def dmS (neg : Bool) : Int × List Int × Int × List Int → St
  | (tens, q, d, m) => ⟨[(1, .int .i64 (.s tens)), (2, .ptr 0 2 (.l 0) 0), (4, .ptr 1 3 (.l 0) 0), (6, .sli .u32 q), (7, .int .u32 (.s d))],
      [.rows true 2 [.bool (.l false), .s0] [[.bool (.s neg), .sli .u32 m]], .rows true 3 [.bool (.l false), .s0, .int .i64 (.l 0)] [[.bool (.l false), .s0, .int .i64 (.l 0)]]]⟩
theorem len0 {l : List Int} (h : (l.length : Int) = 0) : l.length = 0 := by omega
theorem lim_len_le {k : Nat} {m : List Int} (h : Lb m) (hk : k ≤ lv m) : (lim k).length ≤ m.length := lim_length_le (by have := lv_lt h; omega)
set_option maxHeartbeats 2000000 in
theorem c_decMake (neg : Bool) (m : List Int) (tens : Int) (hm_ : Lb m) (hl_ : m.length < 33554432) (ht0 : -9223372036854775808 ≤ tens) (ht1 : tens < 9223372036854775808) :
    ∃ t : (Bool × List Int × Int) × Int, t = decMake neg (lv m) tens ∧
    CallsA Tryd.prog 56 [.agg [.bool (.s neg), .sli .u32 m], .int .i64 (.s tens)] (.tup [.agg [.bool (.s t.1.1), .sli .u32 t.1.2.1, .int .i64 (.s t.1.2.2)], .int .i64 (.s t.2)]) := by
  refine ⟨_, rfl, ?_⟩
  generalize hr : decMake neg (lv m) tens = r
  obtain ⟨N, hN⟩ : ∃ N, lv m = N := ⟨_, rfl⟩
  have hml : m.length ≤ 268435456 := by omega
  rw [hN] at hr
  have bad0 : N = 0 → r = ((false, [], 0), 0) := by intro h; rw [← hr]; unfold decMake; rw [if_pos h]
  have bad1 : N ≠ 0 → (1000000 < tens ∨ tens < -1000000) → r = ((false, [], 0), 1) := by intro h g; rw [← hr]; unfold decMake; rw [if_neg h, if_pos g]
  have tl : N ≠ 0 → t10 N ≤ 10 * m.length := by
    intro h
    have := lv_lt hm_
    have e : (4294967296 : Nat) ^ m.length ≤ 10 ^ (10 * m.length) := by rw [Nat.pow_mul]; exact Nat.pow_le_pow_left (by decide) _
    exact Nat.le_of_lt (t10_le (by omega) (by omega))
  have ll : ∀ k, k ≤ N → (lim k).length < 33554432 := by intro k h; have := lim_len_le hm_ (k := k) (by omega); omega
  obtain ⟨ms, em⟩ : ∃ ms : Int × List Int × Int × List Int → Nat, ∀ p, ms p = lv p.2.2.2 := ⟨_, fun _ => rfl⟩
  obtain ⟨ok, eok⟩ : ∃ ok : Int × List Int × Int × List Int → Prop, ∀ p, ok p ↔ (∃ M j : Nat, 0 < M ∧ M = N / 10 ^ j ∧ M ≤ N ∧ t10 N = j + t10 M ∧ p.1 = tens + j ∧ p.2.1 = lim (M / 10) ∧ p.2.2.1 = ((M % 10 : Nat) : Int) ∧ p.2.2.2 = lim M) := ⟨_, fun _ => Iff.rfl⟩
  have start : N ≠ 0 → ∀ x q d, x = lim N → q = lim (lv x / 10) → d = ((lv x % 10 : Nat) : Int) → ok (tens, q, d, x) := by
    intro h x q d hx hq hd
    refine (eok _).2 ⟨N, 0, by omega, by simp, Nat.le_refl _, by simp, by simp, ?_, ?_, hx⟩
    · dsimp only; rw [hq, hx, lv_lim]
    · dsimp only; rw [hd, hx, lv_lim]
  have next : N ≠ 0 → ¬ (1000000 < tens ∨ tens < -1000000) → ∀ t q d x, ok (t, q, d, x) → d = 0 → ∀ q' d', q' = lim (lv q / 10) → d' = ((lv q % 10 : Nat) : Int) →
      Lb q ∧ q.length < 33554432 ∧ ms (IntKind.i64.wrap (t + 1), q', d', q) < ms (t, q, d, x) ∧ ok (IntKind.i64.wrap (t + 1), q', d', q) := by
    intro h g t q d x hok hd0 q' d' hq hd
    obtain ⟨M, j, k1, k2, k3, k4, k5, k6, k7, k8⟩ := (eok _).1 hok
    dsimp only at k5 k6 k7 k8
    have e : M % 10 = 0 := by omega
    have b := tl h
    have g2 := t10_go k1 e
    rw [k6, lv_lim] at hq hd
    rw [wi64_in (by omega) (by omega)]
    refine ⟨by rw [k6]; exact lim_lb _, by rw [k6]; exact ll _ (by omega), by rw [em, em]; dsimp only; rw [k6, k8, lv_lim, lv_lim]; omega, (eok _).2 ⟨M / 10, j + 1, by omega, ?_, by omega, by omega, by dsimp only; omega, hq, hd, k6⟩⟩
    rw [k2, Nat.div_div_eq_div_mul, Nat.pow_succ]
  have stop : N ≠ 0 → ¬ (1000000 < tens ∨ tens < -1000000) → ∀ t q d x, ok (t, q, d, x) → d ≠ 0 → Lb x ∧ x.length < 33554432 ∧
      ((t < -400 ∨ 400 < t ∨ (5 : Int) < x.length ∨ (40 : Int) < (byteArr (decS (lv x))).size) → r = ((false, [], 0), 1)) ∧ (¬ (t < -400 ∨ 400 < t ∨ (5 : Int) < x.length ∨ (40 : Int) < (byteArr (decS (lv x))).size) → r = ((neg, x, t), 0)) := by
    intro h g t q d x hok hd0
    obtain ⟨M, j, k1, k2, k3, k4, k5, k6, k7, k8⟩ := (eok _).1 hok
    dsimp only at k5 k6 k7 k8
    have e : M % 10 ≠ 0 := by omega
    rw [t10_stop e, Nat.add_zero] at k4
    rw [← k4] at k2 k5
    rw [byteArr_size]
    refine ⟨by rw [k8]; exact lim_lb _, by rw [k8]; exact ll _ k3, fun z => ?_, fun z => ?_⟩
    · rw [← hr]; unfold decMake; rw [if_neg h, if_neg g, if_pos]
      rw [← k2, ← k8]; rw [k8, lv_lim, ← k8] at z; rw [← k5]; omega
    · rw [← hr]; unfold decMake; rw [if_neg h, if_neg g, if_neg, ← k2, ← k8, ← k5]
      rw [← k2, ← k8]; rw [k8, lv_lim, ← k8] at z; rw [← k5]; omega
  clear hr tl eok
  refine callsA_of hG hm Tryd.func56 (by kernel_rfl) ?_
  intro E hE lp hl
  cbv
  (first | (apply E_pcallX hE (c_wMake neg m hm_ hml); (case hm => rfl); (case hle => (repeat' (first | exact u_nil | apply u_cons | apply u2_agg | exact u2_int | exact u1_int | exact u2_bool | exact u1_bool | exact u2_sli | exact u1_sli | exact u2_s0 | exact u1_s0))); all_goals (first | (intro w hw; cbv) | (assumption))) | (apply E_callX hE (c_wMake neg m hm_ hml); (case hf => rfl); (case hc => (cbv <;> trivial)); (case hle => (repeat' (first | exact u_nil | apply u_cons | apply u2_agg | exact u2_int | exact u1_int | exact u2_bool | exact u1_bool | exact u2_sli | exact u1_sli | exact u2_s0 | exact u1_s0))); all_goals (first | (intro w hw; cbv) | (assumption))))
  have W : w = (neg && decide (N ≠ 0), lim N) := by
    have k : w = (neg && decide (lv m ≠ 0), lim (lv m)) := hw
    rw [hN] at k; exact k
  clear hw
  (try (refine E_nm hE (fun v hv => ?_); cbv))
  refine E_br hE (fun g0 => ?_) (fun g0 => ?_) <;> cbv
  · have z : N = 0 := by
      subst hE
      have g0 : (w.2.length : Int) = 0 := eql_t g0
      rw [W] at g0
      exact lim_eq_nil.1 (List.length_eq_zero_iff.1 (len0 g0))
    rw [bad0 z]; exact ⟨⟨rfl, rfl, rfl, trivial⟩, rfl, trivial⟩
  have n0 : N ≠ 0 := by
    subst hE
    intro z
    have g0 : ¬ (w.2.length : Int) = 0 := eql_f g0
    apply g0; rw [W, z]; rfl
  have w1 : w.1 = neg := by rw [W]; simp [n0]
  have w2 : w.2 = lim N := by rw [W]
  have wb : Lb w.2 ∧ w.2.length < 33554432 := by rw [w2]; exact ⟨lim_lb _, ll _ (Nat.le_refl _)⟩
  clear W ll g0 bad0
  refine E_br hE (fun g1 => ?_) (fun g1 => ?_) <;> cbv
  · have g1 : 1000000 < tens := by subst hE; exact gtr_t g1
    rw [bad1 n0 (.inl g1)]; exact ⟨⟨rfl, rfl, rfl, trivial⟩, rfl, trivial⟩
  refine E_br hE (fun g2 => ?_) (fun g2 => ?_) <;> cbv
  · have g2 : tens < -1000000 := by subst hE; exact lss_t g2
    rw [bad1 n0 (.inr g2)]; exact ⟨⟨rfl, rfl, rfl, trivial⟩, rfl, trivial⟩
  have g3 : ¬ (1000000 < tens ∨ tens < -1000000) := by
    subst hE
    rintro (z | z)
    · exact gtr_f g1 z
    · exact lss_f g2 z
  clear bad1 g1 g2
  (first | (apply E_pcallX hE (c_divide w.2 wb.1 wb.2); (case hm => rfl); (case hle => (repeat' (first | exact u_nil | apply u_cons | apply u2_agg | exact u2_int | exact u1_int | exact u2_bool | exact u1_bool | exact u2_sli | exact u1_sli | exact u2_s0 | exact u1_s0))); all_goals (first | (intro u hu; cbv) | (assumption))) | (apply E_callX hE (c_divide w.2 wb.1 wb.2); (case hf => rfl); (case hc => (cbv <;> trivial)); (case hle => (repeat' (first | exact u_nil | apply u_cons | apply u2_agg | exact u2_int | exact u1_int | exact u2_bool | exact u1_bool | exact u2_sli | exact u1_sli | exact u2_s0 | exact u1_s0))); all_goals (first | (intro u hu; cbv) | (assumption))))
  refine E_nm hE (fun v hv => ?_); cbv
  have st := start n0 w.2 u.1 v w2 (by rw [hu]) (by rw [hv, hu])
  refine E_loopM hE hG hm hl (dmS w.1) ms ok ⟨(tens, u.1, v, w.2), [0, 1], st, stLeM ⟨rfl, rfl, trivial⟩ rfl rfl rfl ⟨rfl, rfl, trivial⟩ ?_⟩ ?_
  · (repeat' (first | exact m_nil | refine m_cons ?_ rfl ?_ | exact u2_int | exact u2_bool | exact u2_sli | exact (rfl : sle2 (.ptr 0 2 (.l 0) 0) (.ptr 0 2 (.l 0) 0)) | exact (rfl : sle2 (.ptr 1 3 (.l 0) 0) (.ptr 1 3 (.l 0) 0))))
  have nx := next n0 g3
  have sp := stop n0 g3
  clear next stop start st hu hv
  rintro ⟨t, q, d, x⟩ hok
  have nx := nx t q d x hok
  have sp := sp t q d x hok
  clear hok
  cbv
  refine E_br hE (fun g => ?_) (fun g => ?_) <;> cbv
  · have d0 : d = 0 := by subst hE; exact eql_t g
    have nx := nx d0
    have qb := nx _ _ rfl rfl
    refine E_nm hE (fun t1 ht1' => ?_); cbv
    (first | (apply E_pcallX hE (c_divide q qb.1 qb.2.1); (case hm => rfl); (case hle => (repeat' (first | exact u_nil | apply u_cons | apply u2_agg | exact u2_int | exact u1_int | exact u2_bool | exact u1_bool | exact u2_sli | exact u1_sli | exact u2_s0 | exact u1_s0))); all_goals (first | (intro u2 hu2; cbv) | (assumption))) | (apply E_callX hE (c_divide q qb.1 qb.2.1); (case hf => rfl); (case hc => (cbv <;> trivial)); (case hle => (repeat' (first | exact u_nil | apply u_cons | apply u2_agg | exact u2_int | exact u1_int | exact u2_bool | exact u1_bool | exact u2_sli | exact u1_sli | exact u2_s0 | exact u1_s0))); all_goals (first | (intro u2 hu2; cbv) | (assumption))))
    refine E_nm hE (fun v2 hv2 => ?_); cbv
    have et : t1 = IntKind.i64.wrap (t + 1) := by subst hE; exact ht1'
    have q2 := nx u2.1 v2 (by rw [hu2]) (by rw [hv2, hu2])
    refine ⟨(t1, u2.1, v2, q), [0, 1], ?_, ?_, stLeM ⟨rfl, rfl, trivial⟩ rfl rfl rfl ⟨rfl, rfl, trivial⟩ ?_⟩
    · rw [et]; exact q2.2.2.1
    · rw [et]; exact q2.2.2.2
    · (repeat' (first | exact m_nil | refine m_cons ?_ rfl ?_ | exact u2_int | exact u2_bool | exact u2_sli | exact (rfl : sle2 (.ptr 0 2 (.l 0) 0) (.ptr 0 2 (.l 0) 0)) | exact (rfl : sle2 (.ptr 1 3 (.l 0) 0) (.ptr 1 3 (.l 0) 0))))
  · have d0 : d ≠ 0 := by subst hE; exact eql_f g
    have sp := sp d0
    have xb := sp.1
    have xl := sp.2.1
    have s1 := sp.2.2.1
    have s2 := sp.2.2.2
    clear nx sp
    refine E_br hE (fun g1 => ?_) (fun g1 => ?_) <;> cbv
    · rw [s1 (.inl (by subst hE; exact lss_t g1))]; exact ⟨⟨rfl, rfl, rfl, trivial⟩, rfl, trivial⟩
    refine E_br hE (fun g2 => ?_) (fun g2 => ?_) <;> cbv
    · rw [s1 (.inr (.inl (by subst hE; exact gtr_t g2)))]; exact ⟨⟨rfl, rfl, rfl, trivial⟩, rfl, trivial⟩
    refine E_br hE (fun g4 => ?_) (fun g4 => ?_) <;> cbv
    · rw [s1 (.inr (.inr (.inl (by subst hE; exact gtr_t g4))))]; exact ⟨⟨rfl, rfl, rfl, trivial⟩, rfl, trivial⟩
    (first | (apply E_pcallX hE (c_Digits x xb xl); (case hm => rfl); (case hle => (repeat' (first | exact u_nil | apply u_cons | apply u2_agg | exact u2_int | exact u1_int | exact u2_bool | exact u1_bool | exact u2_sli | exact u1_sli | exact u2_s0 | exact u1_s0))); all_goals (first | (intro z hz; cbv) | (assumption))) | (apply E_callX hE (c_Digits x xb xl); (case hf => rfl); (case hc => (cbv <;> trivial)); (case hle => (repeat' (first | exact u_nil | apply u_cons | apply u2_agg | exact u2_int | exact u1_int | exact u2_bool | exact u1_bool | exact u2_sli | exact u1_sli | exact u2_s0 | exact u1_s0))); all_goals (first | (intro z hz; cbv) | (assumption))))
    refine E_br hE (fun g5 => ?_) (fun g5 => ?_) <;> cbv
    · rw [s1 (.inr (.inr (.inr (by rw [← hz]; subst hE; exact gtr_t g5))))]; exact ⟨⟨rfl, rfl, rfl, trivial⟩, rfl, trivial⟩
    · rw [s2 (by
        rw [← hz]
        subst hE
        rintro (k | k | k | k)
        · exact lss_f g1 k
        · exact gtr_f g2 k
        · exact gtr_f g4 k
        · exact gtr_f g5 k)]
      exact ⟨⟨w1, rfl, rfl, trivial⟩, rfl, trivial⟩

end Go.Proofs.YtmdgeaagaljheaaDoor.Ev

/- Contracts: the scale of fixed numbers, a number so many times; quotients of numbers above nought. Printed by gen.py. -/
namespace Go.Proofs.YtmdgeaagaljheaaDoor.Ev
open Go Go.Proofs
set_option linter.unusedVariables false
set_option linter.unusedSimpArgs false

attribute [local irreducible] Lb
def piOne : Nat := 2 ^ 192
theorem mulN (na : Bool) (a : List Int) (nb : Bool) (b : List Int) : ((na != nb) && decide (lv a * lv b ≠ 0), lim (lv a * lv b)) = whN (wv na a * wv nb b) := by
  rw [whN_of]; unfold wv; congr 1
  cases na <;> cases nb <;> simp [Int.neg_mul, Int.mul_neg, Int.neg_neg]
end Go.Proofs.YtmdgeaagaljheaaDoor.Ev

/- Contract of whole.May. Printed by gen.py. -/
namespace Go.Proofs.YtmdgeaagaljheaaDoor.Ev
open Go Go.Proofs
set_option linter.unusedVariables false
set_option linter.unusedSimpArgs false

attribute [local irreducible] Lb
def wMayB (neg : Bool) (m : List Int) : Bool := if m.length = 0 then !neg else decide (m.getD (m.length - 1) 0 ≠ 0)
theorem c_wMay (neg : Bool) (m : List Int) (hl_ : m.length < 4611686018427387904) : ∃ t : Bool, t = wMayB neg m ∧ CallsA Tryd.prog 57 [.agg [.bool (.s neg), .sli .u32 m]] (.bool (.s t)) := by
  refine ⟨_, rfl, ?_⟩
  generalize hr : wMayB neg m = r
  have z0 : (m.length : Int) = 0 → (!neg) = r := by intro h; rw [← hr]; unfold wMayB; rw [if_pos (by omega)]
  have z1 : ¬ (m.length : Int) = 0 → IntKind.i64.wrap ((m.length : Int) - 1) = (m.length : Int) - 1 ∧ 0 ≤ (m.length : Int) - 1 ∧ (m.length : Int) - 1 < m.length ∧ ∀ x : Bool, x = decide (m.getD ((m.length : Int) - 1).toNat 0 ≠ 0) → x = r := by
    intro h
    refine ⟨wi64_in (by omega) (by omega), by omega, by omega, fun x hx => ?_⟩
    rw [hx, ← hr]; unfold wMayB; rw [if_neg (by omega), show ((m.length : Int) - 1).toNat = m.length - 1 by omega]
  clear hr
  refine callsA_of hG hm Tryd.func57 (by kernel_rfl) ?_
  intro E hE lp hl
  cbv
  refine E_br hE (fun g => ?_) (fun g => ?_) <;> cbv
  · subst hE; exact z0 (eql_t g)
  · have z1 := z1 (by subst hE; exact eql_f g)
    have es : E.bin .sub .i64 (E.len m) 1 = (m.length : Int) - 1 := by subst hE; exact z1.1
    refine E_br hE (fun b1 => ?_) (fun b1 => ?_) <;> cbv
    · refine E_br hE (fun b2 => ?_) (fun b2 => ?_) <;> cbv
      · refine z1.2.2.2 _ ?_
        show E.cmp .neq (E.get m (E.bin .sub .i64 (E.len m) 1)) 0 = _
        rw [es]
        subst hE
        exact cmp_neq _ _
      · rw [es] at b2
        subst hE
        exact lss_f b2 z1.2.2.1
    · rw [es] at b1
      subst hE
      exact leq_f b1 z1.2.1

end Go.Proofs.YtmdgeaagaljheaaDoor.Ev

/- Contracts: decimal.May, powers of ten, decimal numbers rounded. Printed by gen.py. -/
namespace Go.Proofs.YtmdgeaagaljheaaDoor.Ev
open Go Go.Proofs
set_option linter.unusedVariables false
set_option linter.unusedSimpArgs false

attribute [local irreducible] Lb
/-- may a decimal number be? -/
def decMayB (neg : Bool) (m : List Int) (tens : Int) : Bool :=
  if m.length = 0 then (!neg && decide (tens = 0)) else (wMayB neg m && decide ((decMake neg (lv m) tens).2 = 0) && decide ((decMake neg (lv m) tens).1.2.2 = tens))
theorem decMay_ok {neg : Bool} {m : List Int} {tens : Int} (h : Lb m) (k : decMayB neg m tens = true) : m.length ≤ 5 ∧ -400 ≤ tens ∧ tens ≤ 400 ∧ m = lim (lv m) ∧ (lv m = 0 → neg = false ∧ tens = 0) ∧ (lv m ≠ 0 → (decS (lv m)).length ≤ 40 ∧ lv m % 10 ≠ 0) := by
  unfold decMayB at k
  split at k
  · rename_i h0
    have : m = [] := List.length_eq_zero_iff.1 h0
    subst this
    simp only [Bool.and_eq_true, Bool.not_eq_true', decide_eq_true_eq] at k
    exact ⟨by decide, by omega, by omega, rfl, fun _ => k, fun z => absurd rfl z⟩
  · rename_i h0
    simp only [Bool.and_eq_true, decide_eq_true_eq] at k
    obtain ⟨⟨k1, k2⟩, k3⟩ := k
    unfold wMayB at k1
    rw [if_neg h0] at k1
    have cn : Cn m := Cn.of_last h (fun _ => by simpa using k1)
    have e := cn.eq_lim
    have n0 : lv m ≠ 0 := by intro z; rw [z] at e; rw [e] at h0; exact h0 rfl
    unfold decMake at k2 k3
    rw [if_neg n0] at k2 k3
    split at k2
    · cases k2
    · rename_i g1
      rw [if_neg g1] at k3
      split at k2
      · cases k2
      · rename_i g2
        rw [if_neg g2] at k3
        have t0 : t10 (lv m) = 0 := by have : tens + (t10 (lv m) : Int) = tens := k3; omega
        have s := (t10_spec (lv m) (by omega)).2.1
        rw [t0] at g2 s
        simp only [Nat.pow_zero, Nat.div_one] at g2 s
        rw [← e] at g2
        exact ⟨by omega, by omega, by omega, e, fun z => absurd z n0, fun _ => ⟨by omega, s⟩⟩
set_option maxHeartbeats 1000000 in
theorem c_decMay (neg : Bool) (m : List Int) (tens : Int) (hm_ : Lb m) (hl_ : m.length < 33554432) (ht0 : -9223372036854775808 ≤ tens) (ht1 : tens < 9223372036854775808) :
    ∃ t : Bool, t = decMayB neg m tens ∧ CallsA Tryd.prog 36 [.agg [.bool (.s neg), .sli .u32 m, .int .i64 (.s tens)]] (.bool (.s t)) := by
  refine ⟨_, rfl, ?_⟩
  generalize hr : decMayB neg m tens = r
  have hl2 : m.length < 4611686018427387904 := by omega
  have z0 : (m.length : Int) = 0 → (!neg && decide (tens = 0)) = r := by intro h; rw [← hr]; unfold decMayB; rw [if_pos (by omega)]
  have z1 : ¬ (m.length : Int) = 0 → (wMayB neg m && decide ((decMake neg (lv m) tens).2 = 0) && decide ((decMake neg (lv m) tens).1.2.2 = tens)) = r := by intro h; rw [← hr]; unfold decMayB; rw [if_neg (by omega)]
  clear hr
  refine callsA_of hG hm Tryd.func36 (by kernel_rfl) ?_
  intro E hE lp hl
  cbv
  refine E_br hE (fun g => ?_) (fun g => ?_) <;> cbv
  · have z0 := z0 (by subst hE; exact eql_t g)
    refine E_br hE (fun b1 => ?_) (fun b1 => ?_) <;> cbv
    · rw [← z0]
      subst hE
      have b1 : (!neg) = true := b1
      rw [b1, Bool.true_and]
      exact cmp_eql _ _
    · rw [← z0]
      subst hE
      have b1 : (!neg) = false := b1
      rw [b1]; rfl
  · have z1 := z1 (by subst hE; exact eql_f g)
    (first | (apply E_pcallX hE (c_decMake neg m tens hm_ hl_ ht0 ht1); (case hm => rfl); (case hle => (repeat' (first | exact u_nil | apply u_cons | apply u2_agg | exact u2_int | exact u1_int | exact u2_bool | exact u1_bool | exact u2_sli | exact u1_sli | exact u2_s0 | exact u1_s0))); all_goals (first | (intro u hu; cbv) | (assumption))) | (apply E_callX hE (c_decMake neg m tens hm_ hl_ ht0 ht1); (case hf => rfl); (case hc => (cbv <;> trivial)); (case hle => (repeat' (first | exact u_nil | apply u_cons | apply u2_agg | exact u2_int | exact u1_int | exact u2_bool | exact u1_bool | exact u2_sli | exact u1_sli | exact u2_s0 | exact u1_s0))); all_goals (first | (intro u hu; cbv) | (assumption))))
    (try (refine E_nm hE (fun v hv => ?_); cbv))
    (first | (apply E_pcallX hE (c_wMay neg m hl2); (case hm => rfl); (case hle => (repeat' (first | exact u_nil | apply u_cons | apply u2_agg | exact u2_int | exact u1_int | exact u2_bool | exact u1_bool | exact u2_sli | exact u1_sli | exact u2_s0 | exact u1_s0))); all_goals (first | (intro w hw; cbv) | (assumption))) | (apply E_callX hE (c_wMay neg m hl2); (case hf => rfl); (case hc => (cbv <;> trivial)); (case hle => (repeat' (first | exact u_nil | apply u_cons | apply u2_agg | exact u2_int | exact u1_int | exact u2_bool | exact u1_bool | exact u2_sli | exact u1_sli | exact u2_s0 | exact u1_s0))); all_goals (first | (intro w hw; cbv) | (assumption))))
    rw [← hw, ← hu] at z1
    refine E_br hE (fun b1 => ?_) (fun b1 => ?_) <;> cbv
    · refine E_br hE (fun b2 => ?_) (fun b2 => ?_) <;> cbv
      · have b2 : u.2 = 0 := by rw [← hv]; subst hE; exact eql_t b2
        rw [b1, b2] at z1
        rw [← z1]
        subst hE
        simp only [Bool.true_and, decide_true]
        exact cmp_eql _ _
      · have b2 : ¬ u.2 = 0 := by rw [← hv]; subst hE; exact eql_f b2
        rw [decide_eq_false b2, Bool.and_false, Bool.false_and] at z1
        exact z1
    · rw [b1, Bool.false_and, Bool.false_and] at z1
      exact z1

end Go.Proofs.YtmdgeaagaljheaaDoor.Ev

/- Contracts: powers of ten, decimal numbers rounded. Printed by gen.py. -/
namespace Go.Proofs.YtmdgeaagaljheaaDoor.Ev
open Go Go.Proofs
set_option linter.unusedVariables false
set_option linter.unusedSimpArgs false

attribute [local irreducible] Lb whN
def qpS (n : Int) : Int × Bool × List Int → St
  | (i, b, l) => ⟨[(2, .ptr 0 2 (.l 0) 0), (3, .ptr 1 2 (.l 0) 0), (5, .int .i64 (.s n)), (6, .int .i64 (.s i))],
      [.rows true 2 [.bool (.l false), .s0] [[.bool (.l false), .s0]], .rows true 2 [.bool (.l false), .s0] [[.bool (.s b), .sli .u32 l]]]⟩
theorem ten_len {k : Nat} (h : k ≤ 400) : (lim (10 ^ k)).length ≤ 100 := by
  refine lim_length_le ?_
  obtain ⟨a, b, ha, hb, hab⟩ : ∃ a b : Nat, a = 4 ∧ b = 100 ∧ k ≤ a * b := ⟨4, 100, rfl, rfl, h⟩
  have e1 : (10 : Nat) ^ k ≤ 10 ^ (a * b) := Nat.pow_le_pow_right (by decide) hab
  have e2 : (10 : Nat) ^ (a * b) < 4294967296 ^ b := by
    rw [Nat.pow_mul]
    exact Nat.pow_lt_pow_left (by rw [ha]; decide) (by rw [hb]; decide)
  rw [hb] at e2
  rw [hb] at e1
  exact Nat.lt_of_le_of_lt e1 e2
theorem whN_nat4 (k : Nat) : whN (k : Int) = (false, lim k) := by
  unfold whN
  rw [decide_eq_false (by omega), Int.natAbs_natCast]
set_option maxHeartbeats 1000000 in
theorem c_qPower (n : Int) (hn0 : -9223372036854775808 ≤ n) (hn : n ≤ 400) : ∃ t : Bool × List Int, t = whN ((10 ^ n.toNat : Nat) : Int) ∧ CallsA Tryd.prog 38 [.int .i64 (.s n)] (.agg [.bool (.s t.1), .sli .u32 t.2]) := by
  refine ⟨_, rfl, ?_⟩
  generalize hr : whN ((10 ^ n.toNat : Nat) : Int) = r
  obtain ⟨ms, em⟩ : ∃ ms : Int × Bool × List Int → Nat, ∀ p, ms p = (n - p.1).toNat := ⟨_, fun _ => rfl⟩
  obtain ⟨ok, eok⟩ : ∃ ok : Int × Bool × List Int → Prop, ∀ p, ok p ↔ (0 ≤ p.1 ∧ (0 < p.1 → p.1 ≤ n) ∧ p.2 = whN ((10 ^ p.1.toNat : Nat) : Int)) := ⟨_, fun _ => Iff.rfl⟩
  have start : ∀ x, x = (decide ((1 : Int) < 0), lim (1 : Int).natAbs) → ok (0, x) := by
    intro x hx
    refine (eok _).2 ⟨Int.le_refl _, fun h => absurd h (Int.lt_irrefl 0), ?_⟩
    show x = _
    rw [hx, whN_nat4]; rfl
  have bnd : ∀ i p, ok (i, p) → i < n → Lb p.2 ∧ p.2.length < 60000000 := by
    intro i p h hlt
    obtain ⟨h1, h2, h3⟩ := (eok _).1 h
    dsimp only at h1 h2 h3
    rw [h3, whN_nat4]
    refine ⟨lim_lb _, ?_⟩
    have := ten_len (k := i.toNat) (by omega)
    show (lim (10 ^ i.toNat)).length < 60000000
    omega
  have next : ∀ i p, ok (i, p) → i < n → ∀ u x, u = (decide ((10 : Int) < 0), lim (10 : Int).natAbs) → x = ((p.1 != u.1) && decide (lv p.2 * lv u.2 ≠ 0), lim (lv p.2 * lv u.2)) → ms (IntKind.i64.wrap (i + 1), x) < ms (i, p) ∧ ok (IntKind.i64.wrap (i + 1), x) := by
    intro i p h hlt u x hu hx
    obtain ⟨h1, h2, h3⟩ := (eok _).1 h
    dsimp only at h1 h2 h3
    rw [wi64_in (by omega) (by omega)]
    refine ⟨by rw [em, em]; dsimp only; omega, (eok _).2 ⟨by dsimp only; omega, fun _ => by dsimp only; omega, ?_⟩⟩
    show x = _
    have hu' : u = whN (10 : Int) := by rw [hu]; unfold whN; rfl
    rw [hx, mulN, hu', h3, wv_whN, wv_whN, show (i + 1).toNat = i.toNat + 1 by omega, Nat.pow_succ]
    rfl
  have stop : ∀ i p, ok (i, p) → ¬ i < n → p = r := by
    intro i p h hlt
    obtain ⟨h1, h2, h3⟩ := (eok _).1 h
    dsimp only at h1 h2 h3
    rw [h3, ← hr]
    congr 2
    by_cases z : 0 < i
    · have := h2 z; rw [show i.toNat = n.toNat by omega]
    · rw [show i.toNat = n.toNat by omega]
  have tb : ∀ u : Bool × List Int, u = (decide ((10 : Int) < 0), lim (10 : Int).natAbs) → Lb u.2 ∧ u.2.length < 60000000 := by
    intro u hu
    rw [hu]
    exact ⟨lim_lb (Int.natAbs 10), by decide⟩
  clear hr
  refine callsA_of hG hm Tryd.func38 (by kernel_rfl) ?_
  intro E hE lp hl
  cbv
  (first | (apply E_pcallX hE (c_wFrom 1 (by decide) (by decide)); (case hm => rfl); (case hle => (repeat' (first | exact u_nil | apply u_cons | apply u2_agg | exact u2_int | exact u1_int | exact u2_bool | exact u1_bool | exact u2_sli | exact u1_sli | exact u2_s0 | exact u1_s0))); all_goals (first | (intro x hx; cbv) | (assumption))) | (apply E_callX hE (c_wFrom 1 (by decide) (by decide)); (case hf => rfl); (case hc => (cbv <;> trivial)); (case hle => (repeat' (first | exact u_nil | apply u_cons | apply u2_agg | exact u2_int | exact u1_int | exact u2_bool | exact u1_bool | exact u2_sli | exact u1_sli | exact u2_s0 | exact u1_s0))); all_goals (first | (intro x hx; cbv) | (assumption))))
  refine E_loop hE hG hm hl (qpS n) ms ok ⟨(0, x), start x hx, stLe rfl ?_⟩ ?_
  · (repeat' (first | exact t_nil | apply t_cons | exact u2_sli | exact u2_int | exact u2_bool | exact (rfl : sle2 (.ptr 0 2 (.l 0) 0) (.ptr 0 2 (.l 0) 0)) | exact (rfl : sle2 (.ptr 1 2 (.l 0) 0) (.ptr 1 2 (.l 0) 0))))
  rintro ⟨i, b, l⟩ hok
  have bd := bnd i (b, l) hok
  have nx := next i (b, l) hok
  have sp := stop i (b, l) hok
  clear bnd next stop start hok hx
  cbv
  refine E_br hE (fun g => ?_) (fun g => ?_) <;> cbv
  · have g' : i < n := by subst hE; exact lss_t g
    have bd := bd g'
    have nx := nx g'
    (first | (apply E_pcallX hE (c_wFrom 10 (by decide) (by decide)); (case hm => rfl); (case hle => (repeat' (first | exact u_nil | apply u_cons | apply u2_agg | exact u2_int | exact u1_int | exact u2_bool | exact u1_bool | exact u2_sli | exact u1_sli | exact u2_s0 | exact u1_s0))); all_goals (first | (intro u hu; cbv) | (assumption))) | (apply E_callX hE (c_wFrom 10 (by decide) (by decide)); (case hf => rfl); (case hc => (cbv <;> trivial)); (case hle => (repeat' (first | exact u_nil | apply u_cons | apply u2_agg | exact u2_int | exact u1_int | exact u2_bool | exact u1_bool | exact u2_sli | exact u1_sli | exact u2_s0 | exact u1_s0))); all_goals (first | (intro u hu; cbv) | (assumption))))
    have ub := tb u hu
    apply E_pcallX hE (c_wMul2 b l u.1 u.2 bd.1 ub.1 bd.2 ub.2)
    case hm => rfl
    case hle => exact ⟨u2_slc', trivial⟩
    intro t ht
    cbv
    have q := nx u t hu ht
    refine ⟨(E.bin .add .i64 i 1, t), ?_, ?_, stLe rfl ?_⟩
    · subst hE; exact q.1
    · subst hE; exact q.2
    · (repeat' (first | exact t_nil | apply t_cons | exact u2_sli | exact u2_int | exact u2_bool | exact (rfl : sle2 (.ptr 0 2 (.l 0) 0) (.ptr 0 2 (.l 0) 0)) | exact (rfl : sle2 (.ptr 1 2 (.l 0) 0) (.ptr 1 2 (.l 0) 0))))
  · have g' : ¬ i < n := by subst hE; exact lss_f g
    have sp := sp g'
    rw [← sp]; exact ⟨rfl, rfl, trivial⟩

/-- a decimal number, rounded -/
def fromN (neg : Bool) (m : List Int) (tens : Int) (up : Bool) : Num :=
  if decMayB neg m tens = true then ratioN neg (lv m * 10 ^ tens.toNat) false (10 ^ (-tens).toNat) up else Num.zero
theorem ratioN_sign (na : Bool) (a : Nat) (nb : Bool) (b : Nat) (up : Bool) : ratioN (na && decide (a ≠ 0)) a nb b up = ratioN na a nb b up := by
  unfold ratioN
  split
  · rfl
  · split
    · rfl
    · rename_i h
      simp [h]
set_option maxHeartbeats 2000000 in
theorem c_quFrom (neg : Bool) (m : List Int) (tens : Int) (up : Bool) (hm_ : Lb m) (hl_ : m.length < 33554432) (ht0 : -9223372036854775808 ≤ tens) (ht1 : tens < 9223372036854775808) :
    ∃ t : Num, t = fromN neg m tens up ∧ CallsA Tryd.prog 14 [.agg [.bool (.s neg), .sli .u32 m, .int .i64 (.s tens)], .bool (.s up)] t.av := by
  refine ⟨_, rfl, ?_⟩
  generalize hr : fromN neg m tens up = r
  have bad : decMayB neg m tens = false → Num.zero = r := by intro h; rw [← hr]; unfold fromN; rw [if_neg (by rw [h]; decide)]
  have good : decMayB neg m tens = true → m.length < 60000000 ∧ -400 ≤ tens ∧ tens ≤ 400 ∧
      (∀ x y : Int, ∀ p1 t1 p2 : Bool × List Int, ∀ z : Num, p1 = whN ((10 ^ x.toNat : Nat) : Int) → x.toNat = tens.toNat → t1 = ((neg != p1.1) && decide (lv m * lv p1.2 ≠ 0), lim (lv m * lv p1.2)) →
        p2 = whN ((10 ^ y.toNat : Nat) : Int) → y.toNat = (-tens).toNat → Lb p1.2 ∧ p1.2.length < 60000000 ∧ Lb t1.2 ∧ t1.2.length ≤ 100000 ∧ Lb p2.2 ∧ p2.2.length ≤ 100000 ∧ (z = ratioN t1.1 (lv t1.2) p2.1 (lv p2.2) up → z = r)) := by
    intro h
    have k := decMay_ok hm_ h
    refine ⟨by omega, k.2.1, k.2.2.1, fun x y p1 t1 p2 z hp1 hx ht1 hp2 hy => ?_⟩
    rw [hx, whN_nat4] at hp1
    rw [hy, whN_nat4] at hp2
    have l1 := ten_len (k := tens.toNat) (by omega)
    have l2 := ten_len (k := (-tens).toNat) (by omega)
    rw [hp1] at ht1
    dsimp only at ht1
    rw [lv_lim] at ht1
    have lt : (lim (lv m * 10 ^ tens.toNat)).length ≤ 100000 := by
      have a1 := lv_lt hm_
      have a2 := lv_lt (lim_lb (10 ^ tens.toNat))
      rw [lv_lim] at a2
      have a3 : lv m * 10 ^ tens.toNat < 4294967296 ^ (m.length + (lim (10 ^ tens.toNat)).length) := by
        rw [Nat.pow_add]
        exact Nat.mul_lt_mul_of_lt_of_le' a1 (Nat.le_of_lt a2) (Nat.pow_pos (by decide))
      have := lim_length_le a3
      omega
    refine ⟨by rw [hp1]; exact lim_lb _, by rw [hp1]; dsimp only; omega, by rw [ht1]; exact lim_lb _, by rw [ht1]; exact lt, by rw [hp2]; exact lim_lb _, by rw [hp2]; dsimp only; omega, fun hz => ?_⟩
    rw [hz, ht1, hp2, ← hr]
    dsimp only
    unfold fromN
    rw [if_pos h, lv_lim, lv_lim, Bool.bne_false, ratioN_sign]
  clear hr
  refine callsA_of hG hm Tryd.func14 (by kernel_rfl) ?_
  intro E hE lp hl
  cbv
  (first | (apply E_pcallX hE (c_decMay neg m tens hm_ hl_ ht0 ht1); (case hm => rfl); (case hle => (repeat' (first | exact u_nil | apply u_cons | apply u2_agg | exact u2_int | exact u1_int | exact u2_bool | exact u1_bool | exact u2_sli | exact u1_sli | exact u2_s0 | exact u1_s0))); all_goals (first | (intro y hy; cbv) | (assumption))) | (apply E_callX hE (c_decMay neg m tens hm_ hl_ ht0 ht1); (case hf => rfl); (case hc => (cbv <;> trivial)); (case hle => (repeat' (first | exact u_nil | apply u_cons | apply u2_agg | exact u2_int | exact u1_int | exact u2_bool | exact u1_bool | exact u2_sli | exact u1_sli | exact u2_s0 | exact u1_s0))); all_goals (first | (intro y hy; cbv) | (assumption))))
  refine E_br hE (fun g => ?_) (fun g => ?_) <;> cbv
  · have g : decMayB neg m tens = false := by rw [← hy]; subst hE; cases y; rfl; exact absurd g (by decide)
    rw [← bad g]; exact ⟨rfl, rfl, rfl, rfl, trivial⟩
  have g : decMayB neg m tens = true := by rw [← hy]; subst hE; cases y; exact absurd g (by decide); rfl
  obtain ⟨b1, b2, b3, F⟩ := good g
  clear bad good hy
  have wn : E.bin .sub .i64 0 tens = -tens := by subst hE; show IntKind.i64.wrap (0 - tens) = _; rw [wi64_in (by omega) (by omega)]; omega
  refine E_br hE (fun c1 => ?_) (fun c1 => ?_) <;> cbv
  · have ex : (0 : Int).toNat = tens.toNat := by subst hE; have := gtr_t c1; show (0 : Int).toNat = tens.toNat; omega
    (first | (apply E_pcallX hE (c_qPower 0 ?_ ?_); (case hm => rfl); (case hle => (repeat' (first | exact u_nil | apply u_cons | apply u2_agg | exact u2_int | exact u1_int | exact u2_bool | exact u1_bool | exact u2_sli | exact u1_sli | exact u2_s0 | exact u1_s0))); all_goals (first | (intro p1 hp1; cbv) | (first | decide | exact ht0 | exact b3))) | (apply E_callX hE (c_qPower 0 ?_ ?_); (case hf => rfl); (case hc => (cbv <;> trivial)); (case hle => (repeat' (first | exact u_nil | apply u_cons | apply u2_agg | exact u2_int | exact u1_int | exact u2_bool | exact u1_bool | exact u2_sli | exact u1_sli | exact u2_s0 | exact u1_s0))); all_goals (first | (intro p1 hp1; cbv) | (first | decide | exact ht0 | exact b3))))
    have F1 := fun t1 y p2 z h1 h2 h3 => F 0 y p1 t1 p2 z hp1 ex h1 h2 h3
    have q1 := F1 _ (-tens) _ Num.zero rfl rfl rfl
    apply E_pcallX hE (c_wMul2 neg m p1.1 p1.2 hm_ q1.1 b1 q1.2.1)
    case hm => rfl
    case hle => exact ⟨u2_slc', trivial⟩
    intro t1 ht1
    cbv
    refine E_br hE (fun c2 => ?_) (fun c2 => ?_) <;> cbv
    · have ey : (0 : Int).toNat = (-tens).toNat := by rw [wn] at c2; subst hE; have := gtr_t c2; show (0 : Int).toNat = (-tens).toNat; omega
      (first | (apply E_pcallX hE (c_qPower 0 ?_ ?_); (case hm => rfl); (case hle => (repeat' (first | exact u_nil | apply u_cons | apply u2_agg | exact u2_int | exact u1_int | exact u2_bool | exact u1_bool | exact u2_sli | exact u1_sli | exact u2_s0 | exact u1_s0))); all_goals (first | (intro p2 hp2; cbv) | (first | decide | (rw [wn]; omega)))) | (apply E_callX hE (c_qPower 0 ?_ ?_); (case hf => rfl); (case hc => (cbv <;> trivial)); (case hle => (repeat' (first | exact u_nil | apply u_cons | apply u2_agg | exact u2_int | exact u1_int | exact u2_bool | exact u1_bool | exact u2_sli | exact u1_sli | exact u2_s0 | exact u1_s0))); all_goals (first | (intro p2 hp2; cbv) | (first | decide | (rw [wn]; omega)))))
      have q2 := fun z => F1 t1 0 p2 z ht1 hp2 ey
      have q3 := q2 Num.zero
      (first | (apply E_pcallX hE (c_qRatio t1.1 t1.2 p2.1 p2.2 up q3.2.2.1 q3.2.2.2.2.1 q3.2.2.2.1 q3.2.2.2.2.2.1); (case hm => rfl); (case hle => (repeat' (first | exact u_nil | apply u_cons | apply u2_agg | exact u2_int | exact u1_int | exact u2_bool | exact u1_bool | exact u2_sli | exact u1_sli | exact u2_s0 | exact u1_s0))); all_goals (first | (intro z hz; cbv) | (assumption))) | (apply E_callX hE (c_qRatio t1.1 t1.2 p2.1 p2.2 up q3.2.2.1 q3.2.2.2.2.1 q3.2.2.2.1 q3.2.2.2.2.2.1); (case hf => rfl); (case hc => (cbv <;> trivial)); (case hle => (repeat' (first | exact u_nil | apply u_cons | apply u2_agg | exact u2_int | exact u1_int | exact u2_bool | exact u1_bool | exact u2_sli | exact u1_sli | exact u2_s0 | exact u1_s0))); all_goals (first | (intro z hz; cbv) | (assumption))))
      rw [← (q2 z).2.2.2.2.2.2 hz]; exact ⟨rfl, rfl, rfl, rfl, trivial⟩
    · have ey : ((E.bin .sub .i64 0 tens) : Int).toNat = (-tens).toNat := by rw [wn]
      (first | (apply E_pcallX hE (c_qPower (E.bin .sub .i64 0 tens) ?_ ?_); (case hm => rfl); (case hle => (repeat' (first | exact u_nil | apply u_cons | apply u2_agg | exact u2_int | exact u1_int | exact u2_bool | exact u1_bool | exact u2_sli | exact u1_sli | exact u2_s0 | exact u1_s0))); all_goals (first | (intro p2 hp2; cbv) | (first | decide | (rw [wn]; omega)))) | (apply E_callX hE (c_qPower (E.bin .sub .i64 0 tens) ?_ ?_); (case hf => rfl); (case hc => (cbv <;> trivial)); (case hle => (repeat' (first | exact u_nil | apply u_cons | apply u2_agg | exact u2_int | exact u1_int | exact u2_bool | exact u1_bool | exact u2_sli | exact u1_sli | exact u2_s0 | exact u1_s0))); all_goals (first | (intro p2 hp2; cbv) | (first | decide | (rw [wn]; omega)))))
      have q2 := fun z => F1 t1 (E.bin .sub .i64 0 tens) p2 z ht1 hp2 ey
      have q3 := q2 Num.zero
      (first | (apply E_pcallX hE (c_qRatio t1.1 t1.2 p2.1 p2.2 up q3.2.2.1 q3.2.2.2.2.1 q3.2.2.2.1 q3.2.2.2.2.2.1); (case hm => rfl); (case hle => (repeat' (first | exact u_nil | apply u_cons | apply u2_agg | exact u2_int | exact u1_int | exact u2_bool | exact u1_bool | exact u2_sli | exact u1_sli | exact u2_s0 | exact u1_s0))); all_goals (first | (intro z hz; cbv) | (assumption))) | (apply E_callX hE (c_qRatio t1.1 t1.2 p2.1 p2.2 up q3.2.2.1 q3.2.2.2.2.1 q3.2.2.2.1 q3.2.2.2.2.2.1); (case hf => rfl); (case hc => (cbv <;> trivial)); (case hle => (repeat' (first | exact u_nil | apply u_cons | apply u2_agg | exact u2_int | exact u1_int | exact u2_bool | exact u1_bool | exact u2_sli | exact u1_sli | exact u2_s0 | exact u1_s0))); all_goals (first | (intro z hz; cbv) | (assumption))))
      rw [← (q2 z).2.2.2.2.2.2 hz]; exact ⟨rfl, rfl, rfl, rfl, trivial⟩
  · have ex : (tens : Int).toNat = tens.toNat := rfl
    (first | (apply E_pcallX hE (c_qPower tens ?_ ?_); (case hm => rfl); (case hle => (repeat' (first | exact u_nil | apply u_cons | apply u2_agg | exact u2_int | exact u1_int | exact u2_bool | exact u1_bool | exact u2_sli | exact u1_sli | exact u2_s0 | exact u1_s0))); all_goals (first | (intro p1 hp1; cbv) | (first | decide | exact ht0 | exact b3))) | (apply E_callX hE (c_qPower tens ?_ ?_); (case hf => rfl); (case hc => (cbv <;> trivial)); (case hle => (repeat' (first | exact u_nil | apply u_cons | apply u2_agg | exact u2_int | exact u1_int | exact u2_bool | exact u1_bool | exact u2_sli | exact u1_sli | exact u2_s0 | exact u1_s0))); all_goals (first | (intro p1 hp1; cbv) | (first | decide | exact ht0 | exact b3))))
    have F1 := fun t1 y p2 z h1 h2 h3 => F tens y p1 t1 p2 z hp1 ex h1 h2 h3
    have q1 := F1 _ (-tens) _ Num.zero rfl rfl rfl
    apply E_pcallX hE (c_wMul2 neg m p1.1 p1.2 hm_ q1.1 b1 q1.2.1)
    case hm => rfl
    case hle => exact ⟨u2_slc', trivial⟩
    intro t1 ht1
    cbv
    refine E_br hE (fun c2 => ?_) (fun c2 => ?_) <;> cbv
    · have ey : (0 : Int).toNat = (-tens).toNat := by rw [wn] at c2; subst hE; have := gtr_t c2; show (0 : Int).toNat = (-tens).toNat; omega
      (first | (apply E_pcallX hE (c_qPower 0 ?_ ?_); (case hm => rfl); (case hle => (repeat' (first | exact u_nil | apply u_cons | apply u2_agg | exact u2_int | exact u1_int | exact u2_bool | exact u1_bool | exact u2_sli | exact u1_sli | exact u2_s0 | exact u1_s0))); all_goals (first | (intro p2 hp2; cbv) | (first | decide | (rw [wn]; omega)))) | (apply E_callX hE (c_qPower 0 ?_ ?_); (case hf => rfl); (case hc => (cbv <;> trivial)); (case hle => (repeat' (first | exact u_nil | apply u_cons | apply u2_agg | exact u2_int | exact u1_int | exact u2_bool | exact u1_bool | exact u2_sli | exact u1_sli | exact u2_s0 | exact u1_s0))); all_goals (first | (intro p2 hp2; cbv) | (first | decide | (rw [wn]; omega)))))
      have q2 := fun z => F1 t1 0 p2 z ht1 hp2 ey
      have q3 := q2 Num.zero
      (first | (apply E_pcallX hE (c_qRatio t1.1 t1.2 p2.1 p2.2 up q3.2.2.1 q3.2.2.2.2.1 q3.2.2.2.1 q3.2.2.2.2.2.1); (case hm => rfl); (case hle => (repeat' (first | exact u_nil | apply u_cons | apply u2_agg | exact u2_int | exact u1_int | exact u2_bool | exact u1_bool | exact u2_sli | exact u1_sli | exact u2_s0 | exact u1_s0))); all_goals (first | (intro z hz; cbv) | (assumption))) | (apply E_callX hE (c_qRatio t1.1 t1.2 p2.1 p2.2 up q3.2.2.1 q3.2.2.2.2.1 q3.2.2.2.1 q3.2.2.2.2.2.1); (case hf => rfl); (case hc => (cbv <;> trivial)); (case hle => (repeat' (first | exact u_nil | apply u_cons | apply u2_agg | exact u2_int | exact u1_int | exact u2_bool | exact u1_bool | exact u2_sli | exact u1_sli | exact u2_s0 | exact u1_s0))); all_goals (first | (intro z hz; cbv) | (assumption))))
      rw [← (q2 z).2.2.2.2.2.2 hz]; exact ⟨rfl, rfl, rfl, rfl, trivial⟩
    · have ey : ((E.bin .sub .i64 0 tens) : Int).toNat = (-tens).toNat := by rw [wn]
      (first | (apply E_pcallX hE (c_qPower (E.bin .sub .i64 0 tens) ?_ ?_); (case hm => rfl); (case hle => (repeat' (first | exact u_nil | apply u_cons | apply u2_agg | exact u2_int | exact u1_int | exact u2_bool | exact u1_bool | exact u2_sli | exact u1_sli | exact u2_s0 | exact u1_s0))); all_goals (first | (intro p2 hp2; cbv) | (first | decide | (rw [wn]; omega)))) | (apply E_callX hE (c_qPower (E.bin .sub .i64 0 tens) ?_ ?_); (case hf => rfl); (case hc => (cbv <;> trivial)); (case hle => (repeat' (first | exact u_nil | apply u_cons | apply u2_agg | exact u2_int | exact u1_int | exact u2_bool | exact u1_bool | exact u2_sli | exact u1_sli | exact u2_s0 | exact u1_s0))); all_goals (first | (intro p2 hp2; cbv) | (first | decide | (rw [wn]; omega)))))
      have q2 := fun z => F1 t1 (E.bin .sub .i64 0 tens) p2 z ht1 hp2 ey
      have q3 := q2 Num.zero
      (first | (apply E_pcallX hE (c_qRatio t1.1 t1.2 p2.1 p2.2 up q3.2.2.1 q3.2.2.2.2.1 q3.2.2.2.1 q3.2.2.2.2.2.1); (case hm => rfl); (case hle => (repeat' (first | exact u_nil | apply u_cons | apply u2_agg | exact u2_int | exact u1_int | exact u2_bool | exact u1_bool | exact u2_sli | exact u1_sli | exact u2_s0 | exact u1_s0))); all_goals (first | (intro z hz; cbv) | (assumption))) | (apply E_callX hE (c_qRatio t1.1 t1.2 p2.1 p2.2 up q3.2.2.1 q3.2.2.2.2.1 q3.2.2.2.1 q3.2.2.2.2.2.1); (case hf => rfl); (case hc => (cbv <;> trivial)); (case hle => (repeat' (first | exact u_nil | apply u_cons | apply u2_agg | exact u2_int | exact u1_int | exact u2_bool | exact u1_bool | exact u2_sli | exact u1_sli | exact u2_s0 | exact u1_s0))); all_goals (first | (intro z hz; cbv) | (assumption))))
      rw [← (q2 z).2.2.2.2.2.2 hz]; exact ⟨rfl, rfl, rfl, rfl, trivial⟩

end Go.Proofs.YtmdgeaagaljheaaDoor.Ev

/- Sums and products of numbers: their order, and their opposites. Plain Lean. -/
namespace Go.Proofs.YtmdgeaagaljheaaDoor.Ev
open Go

theorem Num.may_fair {n : Num} (h : n.may = true) : n.fair = n := by unfold Num.fair; rw [if_pos h]
theorem Num.opp_inf (b : Bool) : (Num.inf b).opp = Num.inf (!b) := by cases b <;> decide
theorem Num.fair_inf {a : Num} (oa : a.ok) (k : a.fair.kind = 2) : a.fair = Num.inf a.fair.neg := Num.inf_of a.fair_may (Num.fair_ok oa) k

theorem Num.add_inf {a b : Num} (up : Bool) (ka : a.fair.kind = 2) : Num.add a b up = if b.fair.kind = 2 ∧ a.fair.neg ≠ b.fair.neg then Num.inf (!up) else a.fair := by
  unfold Num.add
  by_cases h : b.fair.kind = 2 ∧ a.fair.neg ≠ b.fair.neg
  · rw [if_pos ⟨ka, h⟩, if_pos h]
  · rw [if_neg (fun k => h k.2), if_neg h, if_pos (.inl ka)]
theorem Num.add_inf2 {a b : Num} (oa : a.ok) (ob : b.ok) (up : Bool) (kb : b.fair.kind = 2) : Num.add a b up = if a.fair.kind = 2 ∧ b.fair.neg ≠ a.fair.neg then Num.inf (!up) else b.fair := by
  unfold Num.add
  by_cases h : a.fair.kind = 2 ∧ b.fair.neg ≠ a.fair.neg
  · rw [if_pos ⟨h.1, kb, fun e => h.2 e.symm⟩, if_pos h]
  · rw [if_neg (fun k => h ⟨k.1, fun e => k.2.2 e.symm⟩), if_neg h]
    by_cases ka : a.fair.kind = 2
    · rw [if_pos (.inl ka), Num.fair_inf oa ka, Num.fair_inf ob kb]
      congr 1
      exact (Classical.not_not.1 (fun e => h ⟨ka, e⟩)).symm
    · rw [if_neg (by rw [kb]; simp [ka]), if_pos (.inl kb)]
theorem Num.add_comm {a b : Num} (oa : a.ok) (ob : b.ok) (up : Bool) : Num.add a b up = Num.add b a up := by
  by_cases ka : a.fair.kind = 2
  · rw [Num.add_inf up ka, Num.add_inf2 ob oa up ka]
  · by_cases kb : b.fair.kind = 2
    · rw [Num.add_inf2 oa ob up kb, Num.add_inf up kb]
    · exact (add_best oa ob ka kb up).uniq (add_best ob oa kb ka up) (by decide) (by decide) (by rw [Int.add_comm])

theorem Num.mul_comm {a b : Num} (oa : a.ok) (ob : b.ok) (up : Bool) : Num.mul a b up = Num.mul b a up := by
  have key : a.fair.kind = 2 ∨ b.fair.kind = 2 → Num.mul a b up = Num.mul b a up := by
    intro h
    unfold Num.mul
    by_cases h0 : a.fair.kind = 0 ∨ b.fair.kind = 0
    · have h0' : b.fair.kind = 0 ∨ a.fair.kind = 0 := h0.symm
      rw [if_pos h0]
      exact (if_pos h0').symm
    · have h0' : ¬ (b.fair.kind = 0 ∨ a.fair.kind = 0) := fun k => h0 k.symm
      rw [if_neg h0, if_pos h]
      refine Eq.trans ?_ (Eq.trans (if_pos h.symm).symm (if_neg h0').symm)
      congr 1
      cases a.fair.neg <;> cases b.fair.neg <;> rfl
  by_cases ka : a.fair.kind = 2
  · exact key (.inl ka)
  · by_cases kb : b.fair.kind = 2
    · exact key (.inr kb)
    · exact (mul_best oa ob ka kb up).uniq (mul_best ob oa kb ka up) (pw_pos 0) (pw_pos 0) (by rw [Int.mul_comm a.fair.val])

theorem Best.opp {r : Num} {up : Bool} {t c : Int} (h : Best r up t c) : Best r.opp (!up) (-t) c := by
  have fr := Num.may_fair h.may
  have vr : r.opp.val = -r.val := by rw [Num.opp_val, fr]
  have inj : ∀ b, r.opp = Num.inf b → r = Num.inf (!b) := by
    intro b e
    have := congrArg Num.opp e
    rw [Num.opp_opp, fr, Num.opp_inf] at this
    exact this
  have back : ∀ s : Num, s.may = true → s.ok → ∀ b, s ≠ Num.inf b → s.opp ≠ Num.inf (!b) := by
    intro s ms os b hs e
    have := congrArg Num.opp e
    rw [Num.opp_opp, Num.may_fair ms, Num.opp_inf, Bool.not_not] at this
    exact hs this
  have vs : ∀ s : Num, s.may = true → s.opp.val = -s.val := fun s ms => by rw [Num.opp_val, Num.may_fair ms]
  refine ⟨Num.opp_may r, Num.opp_ok h.ok, fun hu => ?_, fun hu s ms os hs hle => ?_, fun hu s ms os hs hle => ?_, fun hu => ?_⟩
  · have hu' : up = true := by simpa using hu
    obtain ⟨h1, h2⟩ := h.hi hu'
    refine ⟨fun e => h1 (inj _ e), ?_⟩
    rcases h2 with h2 | h2
    · left; rw [h2, Num.opp_inf]; rfl
    · right; rw [vr, Int.neg_mul]; omega
  · have hu' : up = true := by simpa using hu
    have := h.uopt hu' s.opp (Num.opp_may s) (Num.opp_ok os) (back s ms os false hs) (by rw [vs s ms, Int.neg_mul]; omega)
    rw [vs s ms] at this
    rw [vr]; omega
  · have hu' : up = false := by simpa using hu
    have := h.dopt hu' s.opp (Num.opp_may s) (Num.opp_ok os) (back s ms os true hs) (by rw [vs s ms, Int.neg_mul]; omega)
    rw [vs s ms] at this
    rw [vr]; omega
  · have hu' : up = false := by simpa using hu
    obtain ⟨h1, h2⟩ := h.down hu'
    refine ⟨fun e => h1 (inj _ e), ?_⟩
    rcases h2 with h2 | h2
    · left; rw [h2, Num.opp_inf]; rfl
    · right; rw [vr, Int.neg_mul]; omega

theorem Num.opp_fair (n : Num) : n.opp.fair = n.opp := Num.may_fair (Num.opp_may n)
end Go.Proofs.YtmdgeaagaljheaaDoor.Ev

/- What intervals have together, and the least one that has all of some: plain Lean. -/
namespace Go.Proofs.YtmdgeaagaljheaaDoor.Ev
open Go

/-- those that are not empty, and may be -/
def Iv.goods : List Iv → List Iv
  | [] => []
  | x :: r => if x.fair.empty then goods r else x.fair :: goods r
def Iv.los (l : List Iv) : List Num := (Iv.goods l).map Iv.lo
def Iv.his (l : List Iv) : List Num := (Iv.goods l).map Iv.hi
def Iv.allGood (l : List Iv) : Bool := l.all (fun x => !x.fair.empty)
def Iv.meet (l : List Iv) : Iv := if Iv.allGood l then Iv.make (Num.most (Iv.los l)) (Num.least (Iv.his l)) else Iv.none
def Iv.hull (l : List Iv) : Iv := if (Iv.los l).length = 0 then Iv.none else Iv.make (Num.least (Iv.los l)) (Num.most (Iv.his l))

end Go.Proofs.YtmdgeaagaljheaaDoor.Ev

/- The law of rules, all but roots: plain Lean. -/
namespace Go.Proofs.YtmdgeaagaljheaaDoor.Ev
open Go

theorem Iv.bad_two (a b : Iv) : Iv.anyBad [a, b] = (a.bad || b.bad) := by simp [Iv.anyBad]
theorem Iv.bad_one (a : Iv) : Iv.anyBad [a] = a.bad := by simp [Iv.anyBad]

theorem Num.least_perm {w x y z : Num} (hw : w.ok) (hx : x.ok) (hy : y.ok) (hz : z.ok) : Num.least [w, x, y, z] = Num.least [w, y, x, z] := by
  have s1 := Num.least_spec [w, x, y, z] (by simp; exact ⟨hw, hx, hy, hz⟩)
  have s2 := Num.least_spec [w, y, x, z] (by simp; exact ⟨hw, hy, hx, hz⟩)
  refine Num.val_inj s1.1 s2.1 s1.2.1 s2.2.1 ?_
  have l1 := s1.2.2.1
  have l2 := s2.2.2.1
  have top1 := (Num.val_le s1.1 s1.2.1).2
  have top2 := (Num.val_le s2.1 s2.2.1).2
  apply Int.le_antisymm
  · rcases s2.2.2.2 with e | ⟨v, hv, e⟩
    · rw [e, Num.val_inf]; simpa using top1
    · have := l1 v (by simp at hv ⊢; rcases hv with h | h | h | h <;> simp [h])
      rw [e]; exact this
  · rcases s1.2.2.2 with e | ⟨v, hv, e⟩
    · rw [e, Num.val_inf]; simpa using top2
    · have := l2 v (by simp at hv ⊢; rcases hv with h | h | h | h <;> simp [h])
      rw [e]; exact this
theorem Num.most_perm {w x y z : Num} (hw : w.ok) (hx : x.ok) (hy : y.ok) (hz : z.ok) : Num.most [w, x, y, z] = Num.most [w, y, x, z] := by
  have s1 := Num.most_spec [w, x, y, z] (by simp; exact ⟨hw, hx, hy, hz⟩)
  have s2 := Num.most_spec [w, y, x, z] (by simp; exact ⟨hw, hy, hx, hz⟩)
  refine Num.val_inj s1.1 s2.1 s1.2.1 s2.2.1 ?_
  have l1 := s1.2.2.1
  have l2 := s2.2.2.1
  have top1 := (Num.val_le s1.1 s1.2.1).1
  have top2 := (Num.val_le s2.1 s2.2.1).1
  apply Int.le_antisymm
  · rcases s1.2.2.2 with e | ⟨v, hv, e⟩
    · rw [e, Num.val_inf]; simpa using top2
    · have := l2 v (by simp at hv ⊢; rcases hv with h | h | h | h <;> simp [h])
      rw [e]; exact this
  · rcases s2.2.2.2 with e | ⟨v, hv, e⟩
    · rw [e, Num.val_inf]; simpa using top1
    · have := l1 v (by simp at hv ⊢; rcases hv with h | h | h | h <;> simp [h])
      rw [e]; exact this

theorem Iv.mul_comm {a b : Iv} (ha : a.lo.ok ∧ a.hi.ok) (hb : b.lo.ok ∧ b.hi.ok) : Iv.mul a b = Iv.mul b a := by
  unfold Iv.mul
  rw [Iv.bad_two, Iv.bad_two, Bool.or_comm]
  unfold Iv.corners
  rw [Num.least_perm (Num.mul_ok ha.1 hb.1 _) (Num.mul_ok ha.1 hb.2 _) (Num.mul_ok ha.2 hb.1 _) (Num.mul_ok ha.2 hb.2 _),
    Num.most_perm (Num.mul_ok ha.1 hb.1 _) (Num.mul_ok ha.1 hb.2 _) (Num.mul_ok ha.2 hb.1 _) (Num.mul_ok ha.2 hb.2 _)]
  rw [Num.mul_comm ha.1 hb.1 false, Num.mul_comm ha.2 hb.1 false, Num.mul_comm ha.1 hb.2 false, Num.mul_comm ha.2 hb.2 false,
    Num.mul_comm ha.1 hb.1 true, Num.mul_comm ha.2 hb.1 true, Num.mul_comm ha.1 hb.2 true, Num.mul_comm ha.2 hb.2 true]

theorem Iv.neg_eq (a : Iv) : Iv.neg a = if a.bad = true then Iv.none else Iv.make a.hi.opp a.lo.opp := by
  unfold Iv.neg; rw [Iv.bad_one]

theorem Iv.Real.neg {x : Iv} (h : x.Real) : (Iv.mk false x.hi.opp x.lo.opp).Real := by
  have vl : x.lo.opp.val = -x.lo.val := by rw [Num.opp_val, Num.may_fair h.lom]
  have vh : x.hi.opp.val = -x.hi.val := by rw [Num.opp_val, Num.may_fair h.him]
  have l := h.lt
  have g := h.gt
  have le := h.le
  exact ⟨rfl, Num.opp_may _, Num.opp_may _, Num.opp_ok h.hio, Num.opp_ok h.loo, by show x.hi.opp.val ≤ x.lo.opp.val; omega, by show x.hi.opp.val < _; omega, by show _ < x.lo.opp.val; omega⟩
theorem Iv.neg_real {x : Iv} (h : x.Real) : Iv.neg x = ⟨false, x.hi.opp, x.lo.opp⟩ := by
  rw [Iv.neg_eq, if_neg (by rw [h.good]; decide)]
  have := Iv.make_real (lo := x.hi.opp) (hi := x.lo.opp) (by rw [Num.opp_fair, Num.opp_fair]; exact h.neg)
  rw [this, Num.opp_fair, Num.opp_fair]
theorem Iv.neg_neg {a : Iv} (m : a.may = true) (ha : a.lo.ok ∧ a.hi.ok) : Iv.neg (Iv.neg a) = a := by
  cases he : a.empty with
  | true =>
    have := Iv.empty_may m he
    rw [this]; decide
  | false =>
    have r := Iv.real_of m he ha.1 ha.2
    rw [Iv.neg_real r, Iv.neg_real r.neg]
    show Iv.mk false a.lo.opp.opp a.hi.opp.opp = a
    rw [Num.opp_opp, Num.opp_opp, Num.may_fair r.lom, Num.may_fair r.him]
    cases a; simp_all

end Go.Proofs.YtmdgeaagaljheaaDoor.Ev

/- Squares are within products: plain Lean. -/
namespace Go.Proofs.YtmdgeaagaljheaaDoor.Ev
open Go

end Go.Proofs.YtmdgeaagaljheaaDoor.Ev

/- A square is within the product with itself: plain Lean. -/
namespace Go.Proofs.YtmdgeaagaljheaaDoor.Ev
open Go

end Go.Proofs.YtmdgeaagaljheaaDoor.Ev

/- What the contracts of intervals are told with. -/
namespace Go.Proofs.YtmdgeaagaljheaaDoor.Ev
open Go Go.Proofs
set_option linter.unusedVariables false
set_option linter.unusedSimpArgs false
theorem Iv.fin {t r : Iv} (h : t = r) : t.empty = r.empty ∧ t.lo.kind = r.lo.kind ∧ t.lo.neg = r.lo.neg ∧ t.lo.m = r.lo.m ∧ t.lo.e = r.lo.e ∧ t.hi.kind = r.hi.kind ∧ t.hi.neg = r.hi.neg ∧ t.hi.m = r.hi.m ∧ t.hi.e = r.hi.e ∧ True := by
  subst h; exact ⟨rfl, rfl, rfl, rfl, rfl, rfl, rfl, rfl, rfl, trivial⟩
end Go.Proofs.YtmdgeaagaljheaaDoor.Ev

/- Contracts: the quotient of intervals. Printed by gen.py out of C10.spec. -/
namespace Go.Proofs.YtmdgeaagaljheaaDoor.Ev
open Go Go.Proofs
set_option linter.unusedVariables false
set_option linter.unusedSimpArgs false

end Go.Proofs.YtmdgeaagaljheaaDoor.Ev

/- Contracts: the opposite of an interval, how far from nought, the square. Printed by gen.py out of C11.spec. -/
namespace Go.Proofs.YtmdgeaagaljheaaDoor.Ev
open Go Go.Proofs
set_option linter.unusedVariables false
set_option linter.unusedSimpArgs false

end Go.Proofs.YtmdgeaagaljheaaDoor.Ev

/- Contracts: the chapter's examples. Printed by gen.py out of C12a.spec. -/
namespace Go.Proofs.YtmdgeaagaljheaaDoor.Ev
open Go Go.Proofs
set_option linter.unusedVariables false
set_option linter.unusedSimpArgs false

end Go.Proofs.YtmdgeaagaljheaaDoor.Ev

/- Contracts: the sum and the difference of two words with a carry; these have no body in the program's form: the model answers at once. -/
namespace Go.Proofs.YtmdgeaagaljheaaDoor.Ev
open Go Go.Proofs Go.RowKit
set_option linter.unusedVariables false

end Go.Proofs.YtmdgeaagaljheaaDoor.Ev

/- Contracts: sums. Printed by gen.py out of C14.spec. -/
namespace Go.Proofs.YtmdgeaagaljheaaDoor.Ev
open Go Go.Proofs
set_option linter.unusedVariables false
set_option linter.unusedSimpArgs false

end Go.Proofs.YtmdgeaagaljheaaDoor.Ev

/- Contracts: differences. Printed by gen.py out of C15.spec. -/
namespace Go.Proofs.YtmdgeaagaljheaaDoor.Ev
open Go Go.Proofs
set_option linter.unusedVariables false
set_option linter.unusedSimpArgs false

end Go.Proofs.YtmdgeaagaljheaaDoor.Ev

/- Contracts: the sum of two numbers. Printed by gen.py out of C16.spec. -/
namespace Go.Proofs.YtmdgeaagaljheaaDoor.Ev
open Go Go.Proofs
set_option linter.unusedVariables false
set_option linter.unusedSimpArgs false

end Go.Proofs.YtmdgeaagaljheaaDoor.Ev

/- Contracts: the sum of intervals. -/
namespace Go.Proofs.YtmdgeaagaljheaaDoor.Ev
open Go Go.Proofs
set_option linter.unusedVariables false
set_option linter.unusedSimpArgs false

def addS (l : List Iv) (n : Int) (z : Iv) : Option (Int × Num × Num) → St
  | none => ⟨[(12, .int .i64 (.s 0)), (11, .int .i64 (.s n)), (10, .slc 9 (.s n) (fun i => Iv.cells (l.getD i z))), (4, .ptr 2 4 (.l 0) 0), (3, .ptr 1 4 (.l 0) 0), (2, .ptr 0 9 (.l 0) 0)],
      [.rows true 9 [.bool (.l false), .int .i64 (.l 0), .bool (.l false), .int .u64 (.l 0), .int .i64 (.l 0), .int .i64 (.l 0), .bool (.l false), .int .u64 (.l 0), .int .i64 (.l 0)]
        [[.bool (.l false), .int .i64 (.l 0), .bool (.l false), .int .u64 (.l 0), .int .i64 (.l 0), .int .i64 (.l 0), .bool (.l false), .int .u64 (.l 0), .int .i64 (.l 0)]],
       .rows true 4 [.int .i64 (.l 0), .bool (.l false), .int .u64 (.l 0), .int .i64 (.l 0)] [[.int .i64 (.l 0), .bool (.l false), .int .u64 (.l 0), .int .i64 (.l 0)]],
       .rows true 4 [.int .i64 (.l 0), .bool (.l false), .int .u64 (.l 0), .int .i64 (.l 0)] [[.int .i64 (.l 0), .bool (.l false), .int .u64 (.l 0), .int .i64 (.l 0)]]]⟩
  | some p => ⟨[(12, .int .i64 (.s p.1)), (11, .int .i64 (.s n)), (10, .slc 9 (.s n) (fun i => Iv.cells (l.getD i z))), (4, .ptr 2 4 (.l 0) 0), (3, .ptr 1 4 (.l 0) 0), (2, .ptr 0 9 (.l 0) 0)],
      [.rows true 9 [.bool (.l false), .int .i64 (.l 0), .bool (.l false), .int .u64 (.l 0), .int .i64 (.l 0), .int .i64 (.l 0), .bool (.l false), .int .u64 (.l 0), .int .i64 (.l 0)]
        [[.bool (.l false), .int .i64 (.l 0), .bool (.l false), .int .u64 (.l 0), .int .i64 (.l 0), .int .i64 (.l 0), .bool (.l false), .int .u64 (.l 0), .int .i64 (.l 0)]],
       .rows true 4 [.int .i64 (.l 0), .bool (.l false), .int .u64 (.l 0), .int .i64 (.l 0)] [Num.cells p.2.1],
       .rows true 4 [.int .i64 (.l 0), .bool (.l false), .int .u64 (.l 0), .int .i64 (.l 0)] [Num.cells p.2.2]]⟩
end Go.Proofs.YtmdgeaagaljheaaDoor.Ev

/- Contracts: the difference of intervals. Printed by gen.py out of C18.spec. -/
namespace Go.Proofs.YtmdgeaagaljheaaDoor.Ev
open Go Go.Proofs
set_option linter.unusedVariables false
set_option linter.unusedSimpArgs false
def Iv.sub (a b : Iv) : Iv := Iv.add [a, Iv.neg b]
end Go.Proofs.YtmdgeaagaljheaaDoor.Ev

/- Contracts: the ends of some intervals. -/
namespace Go.Proofs.YtmdgeaagaljheaaDoor.Ev
open Go Go.Proofs
set_option linter.unusedVariables false
set_option linter.unusedSimpArgs false

end Go.Proofs.YtmdgeaagaljheaaDoor.Ev

/- Contracts: what intervals have together, and their hull. -/
namespace Go.Proofs.YtmdgeaagaljheaaDoor.Ev
open Go Go.Proofs
set_option linter.unusedVariables false
set_option linter.unusedSimpArgs false

end Go.Proofs.YtmdgeaagaljheaaDoor.Ev

/- Contracts that tell besides that a result's bits are 64. -/
namespace Go.Proofs.YtmdgeaagaljheaaDoor.Ev
open Go Go.Proofs
set_option linter.unusedVariables false
set_option linter.unusedSimpArgs false
def Iv.ok (x : Iv) : Prop := x.lo.ok ∧ x.hi.ok
theorem Iv.none_ok : Iv.none.ok := ⟨Num.zero_ok, Num.zero_ok⟩
theorem Iv.fair_ok {x : Iv} (h : x.ok) : x.fair.ok := by
  unfold Iv.fair
  split
  · exact h
  · exact Iv.none_ok
end Go.Proofs.YtmdgeaagaljheaaDoor.Ev

/- Contracts: the root of an interval. Printed by gen.py out of C23.spec. -/
namespace Go.Proofs.YtmdgeaagaljheaaDoor.Ev
open Go Go.Proofs
set_option linter.unusedVariables false
set_option linter.unusedSimpArgs false
def Iv.positive : Iv := Iv.make Num.zero (Num.inf false)
def Iv.root (a : Iv) : Iv := if (Iv.meet [a, Iv.positive]).empty then Iv.meet [a, Iv.positive] else Iv.make (Num.root (Iv.meet [a, Iv.positive]).lo false).1 (Num.root (Iv.meet [a, Iv.positive]).hi true).1
theorem nsqrt_word {m k : Nat} (hm : m < 18446744073709551616) (hk : 2 ^ k ≤ 18446744073709551616) : nsqrt (m * 2 ^ k) < 18446744073709551616 := by
  apply sq_lt
  have h1 := (nsqrt_spec (m * 2 ^ k)).1
  have h2 : m * 2 ^ k ≤ m * 18446744073709551616 := Nat.mul_le_mul_left _ hk
  omega
end Go.Proofs.YtmdgeaagaljheaaDoor.Ev

/- The root of a number: plain Lean. -/
namespace Go.Proofs.YtmdgeaagaljheaaDoor.Ev
open Go

theorem sq_le_of {x y : Int} (hy : 0 ≤ y) (h : x * x ≤ y * y) : x ≤ y := by
  rcases Int.lt_or_le y x with h1 | h1
  · exfalso
    have h2 : y * y < x * x := by
      have a1 : y * y ≤ y * x := Int.mul_le_mul_of_nonneg_left (Int.le_of_lt h1) hy
      have a2 : y * x < x * x := Int.mul_lt_mul_of_pos_right h1 (by omega)
      omega
    omega
  · exact h1
theorem sq_lt_of {x y : Int} (hy : 0 ≤ y) (h : x * x < y * y) : x < y := by
  rcases Int.lt_or_le x y with h1 | h1
  · exact h1
  · exfalso
    have a1 : y * y ≤ y * x := Int.mul_le_mul_of_nonneg_left h1 hy
    have a2 : y * x ≤ x * x := Int.mul_le_mul_of_nonneg_right h1 (by omega)
    omega

/-- the square that a root of 64 bits comes from -/
theorem root_scale {m e k : Int} (hk0 : 0 ≤ k) (hk : k ≤ 64) (he : -1048576 ≤ e) (he' : e ≤ 1048576) (hp : (e - k) % 2 = 0) :
    pw ((e - k) / 2) * pw ((e - k) / 2) * 2 ^ k.toNat = pw 0 * pw e := by
  have e1 : pw ((e - k) / 2) * pw ((e - k) / 2) = pw 0 * pw (e - k) := by
    have := pw_mul (e := (e - k) / 2) (f := (e - k) / 2) (by omega) (by omega) (by omega)
    rw [this]; congr 2; omega
  have e2 : pw e = pw (e - k) * 2 ^ k.toNat := by
    have := pw_add (e := e - k) (f := k) (by omega) hk0
    rw [← this]; congr 1; omega
  rw [e1, e2, Int.mul_assoc]

theorem root_range {m : Nat} {k : Nat} (hm : 9223372036854775808 ≤ m) (hm' : m < 18446744073709551616) (hk : k = 64 ∨ k = 63) : 9223372036854775808 ≤ nsqrt (m * 2 ^ k) ∧ nsqrt (m * 2 ^ k) < 18446744073709551616 := by
  refine ⟨?_, nsqrt_word hm' (by rcases hk with rfl | rfl <;> decide)⟩
  have h := (nsqrt_spec (m * 2 ^ k)).2
  have h2 : 9223372036854775808 * 9223372036854775808 ≤ m * 2 ^ k := by
    rcases hk with rfl | rfl
    · have : 9223372036854775808 * 2 ^ 64 ≤ m * 2 ^ 64 := Nat.mul_le_mul_right _ hm
      have : (2 : Nat) ^ 64 = 18446744073709551616 := by decide
      omega
    · have : 9223372036854775808 * 2 ^ 63 ≤ m * 2 ^ 63 := Nat.mul_le_mul_right _ hm
      have : (2 : Nat) ^ 63 = 9223372036854775808 := by decide
      omega
  have := sq_lt (s := 9223372036854775808) (t := nsqrt (m * 2 ^ k) + 1) (by omega)
  omega

/-- what a root is grown from: n pw(e'), of which the square is not above, that of the next one above -/
theorem rootF_form {a : Num} (ha : a.Fin) (up : Bool) : ∃ n e' cut, Num.rootF a up = Num.grow false n e' cut up ∧ 9223372036854775808 ≤ n ∧ n < 18446744073709551616 ∧ -1048576 ≤ e' ∧ e' ≤ 1048575 ∧
    (if cut then n * pw e' * (n * pw e') < a.W * pw 0 else n * pw e' * (n * pw e') = a.W * pw 0) ∧ a.W * pw 0 < (n + 1) * pw e' * ((n + 1) * pw e') := by
  have hlo := ha.lo
  have hhi := ha.hi
  have el := ha.elo
  have eh := ha.ehi
  have hW := ha.W
  have core : ∀ k : Nat, (k = 64 ∨ k = 63) → (a.e - (k : Int)) % 2 = 0 → ∃ n e' cut, Num.grow false (nsqrt (a.m.toNat * 2 ^ k)) ((a.e - (k : Int)) / 2) (!decide (nsqrt (a.m.toNat * 2 ^ k) * nsqrt (a.m.toNat * 2 ^ k) = a.m.toNat * 2 ^ k)) up = Num.grow false n e' cut up ∧
      9223372036854775808 ≤ n ∧ n < 18446744073709551616 ∧ -1048576 ≤ e' ∧ e' ≤ 1048575 ∧ (if cut then n * pw e' * (n * pw e') < a.W * pw 0 else n * pw e' * (n * pw e') = a.W * pw 0) ∧ a.W * pw 0 < (n + 1) * pw e' * ((n + 1) * pw e') := by
    intro k hk hp
    have rg := root_range (m := a.m.toNat) (k := k) (by omega) (by omega) hk
    have sc := root_scale (m := a.m) (e := a.e) (k := k) (by omega) (by omega) el eh hp
    rw [Int.toNat_natCast] at sc
    have sp := nsqrt_spec (a.m.toNat * 2 ^ k)
    generalize hs : nsqrt (a.m.toNat * 2 ^ k) = s at *
    have P0 := pw_pos ((a.e - (k : Int)) / 2)
    obtain ⟨P, hP⟩ : ∃ P, P = pw ((a.e - (k : Int)) / 2) := ⟨_, rfl⟩
    rw [← hP] at sc P0
    have p0 : 0 < P * P := Int.mul_pos P0 P0
    have eT : a.W * pw 0 = ((a.m.toNat * 2 ^ k : Nat) : Int) * (P * P) := by
      rw [hW]
      have em : ((a.m.toNat : Nat) : Int) = a.m := by omega
      have e3 : ((a.m.toNat * 2 ^ k : Nat) : Int) = a.m * 2 ^ k := by push_cast; rw [em]
      rw [e3, Int.mul_assoc a.m, Int.mul_comm (pw a.e), ← sc]
      grind
    refine ⟨s, (a.e - (k : Int)) / 2, _, rfl, by omega, by omega, by omega, by omega, ?_, ?_⟩ <;> rw [← hP]
    · rw [eT]
      have e1 : (s : Int) * P * (s * P) = ((s * s : Nat) : Int) * (P * P) := by push_cast; grind
      rw [e1]
      by_cases h : s * s = a.m.toNat * 2 ^ k
      · rw [h]; simp
      · have hlt : s * s < a.m.toNat * 2 ^ k := by omega
        simp only [h, decide_false, Bool.not_false, if_true]
        exact Int.mul_lt_mul_of_pos_right (by exact_mod_cast hlt) p0
    · rw [eT]
      have e1 : ((s : Int) + 1) * P * ((s + 1) * P) = (((s + 1) * (s + 1) : Nat) : Int) * (P * P) := by push_cast; grind
      rw [e1]
      exact Int.mul_lt_mul_of_pos_right (by exact_mod_cast sp.2) p0
  unfold Num.rootF
  by_cases hp : a.e % 2 = 0
  · rw [if_pos hp]; exact core 64 (.inl rfl) (by omega)
  · rw [if_neg hp]; exact core 63 (.inr rfl) (by omega)
end Go.Proofs.YtmdgeaagaljheaaDoor.Ev

/- The root of a number to either side: sound, and the best. Plain Lean. -/
namespace Go.Proofs.YtmdgeaagaljheaaDoor.Ev
open Go

theorem grow_dn {n e : Int} {cut : Bool} (h : -1048576 ≤ e) (h' : e ≤ 1048575) : Num.grow false n e cut false = ⟨1, false, n, e⟩ := by
  unfold Num.grow Num.bound
  rw [if_neg (by simp), if_neg (by omega), if_neg (by omega)]
theorem grow_upW {n e : Int} {cut : Bool} (hn : 9223372036854775808 ≤ n) (hn' : n < 18446744073709551616) (h : -1048576 ≤ e) (h' : e ≤ 1048575) :
    (Num.grow false n e cut true).Fin ∧ (Num.grow false n e cut true).neg = false ∧ (Num.grow false n e cut true).W = (if cut then n + 1 else n) * pw e := by
  unfold Num.grow Num.bound
  cases cut with
  | false =>
    rw [if_neg (by simp), if_neg (by omega), if_neg (by omega)]
    exact ⟨⟨rfl, hn, hn', h, by show e ≤ _; omega⟩, rfl, rfl⟩
  | true =>
    rw [if_pos (by rfl)]
    by_cases hw : IntKind.u64.wrap (n + 1) = 0
    · rw [if_pos hw]
      rw [wu64] at hw
      have e1 : n = 18446744073709551615 := by omega
      have e2 : IntKind.i64.wrap (e + 1) = e + 1 := by rw [wi64]; omega
      rw [e2, if_neg (by omega), if_neg (by omega)]
      refine ⟨⟨rfl, (by show (9223372036854775808 : Int) ≤ 9223372036854775808; decide), (by show (9223372036854775808 : Int) < 18446744073709551616; decide), by show _ ≤ e + 1; omega, by show e + 1 ≤ _; omega⟩, rfl, ?_⟩
      show 9223372036854775808 * pw (e + 1) = _
      rw [pw_succ (by omega), e1]
      simp only [if_true]
      omega
    · rw [if_neg hw]
      rw [wu64] at hw
      have e1 : IntKind.u64.wrap (n + 1) = n + 1 := by rw [wu64]; omega
      rw [e1, if_neg (by omega), if_neg (by omega)]
      refine ⟨⟨rfl, by show _ ≤ n + 1; omega, by show n + 1 < _; omega, h, by show e ≤ _; omega⟩, rfl, rfl⟩

theorem rootF_dn {a : Num} (ha : a.Fin) : (Num.rootF a false).Fin ∧ (Num.rootF a false).neg = false ∧ (Num.rootF a false).W * (Num.rootF a false).W ≤ a.W * pw 0 ∧
    ∀ s : Num, s.may = true → s.ok → s.kind ≠ 2 → s.W * s.W ≤ a.W * pw 0 → s.W ≤ (Num.rootF a false).W := by
  obtain ⟨n, e, cut, er, h1, h2, h3, h4, h5, h6⟩ := rootF_form ha false
  have eg := grow_dn (n := n) (cut := cut) h3 h4
  have p := pw_pos e
  refine ⟨?_, ?_, ?_, fun s ms os ks hs => ?_⟩
  · rw [er, eg]; exact ⟨rfl, h1, h2, h3, by show e ≤ _; omega⟩
  · rw [er, eg]
  · rw [er, eg]
    show n * pw e * (n * pw e) ≤ _
    split at h5 <;> omega
  · rw [er]
    exact mag_dn h1 h2 (by omega) ms os ks (sq_lt_of (Int.le_of_lt (Int.mul_pos (by omega) p)) (by omega))
theorem rootF_up {a : Num} (ha : a.Fin) : (Num.rootF a true).Fin ∧ (Num.rootF a true).neg = false ∧ a.W * pw 0 ≤ (Num.rootF a true).W * (Num.rootF a true).W ∧
    ∀ s : Num, s.may = true → s.ok → a.W * pw 0 ≤ s.W * s.W → (Num.rootF a true).W ≤ s.W := by
  obtain ⟨n, e, cut, er, h1, h2, h3, h4, h5, h6⟩ := rootF_form ha true
  obtain ⟨g1, g2, g3⟩ := grow_upW (cut := cut) h1 h2 h3 h4
  have p := pw_pos e
  refine ⟨by rw [er]; exact g1, by rw [er]; exact g2, ?_, fun s ms os hs => ?_⟩
  · rw [er, g3]
    cases cut with
    | false => simp at h5 ⊢; omega
    | true => simp at h5 ⊢; omega
  · rw [er]
    have hs0 := W_nn s ms os
    refine mag_up h1 h2 (by omega) (by omega) ms os ?_
    cases cut with
    | false => simp at h5 ⊢; exact sq_le_of hs0 (by omega)
    | true => simp at h5 ⊢; exact sq_lt_of hs0 (by omega)
end Go.Proofs.YtmdgeaagaljheaaDoor.Ev

/- How far from nought an interval is lies within the root of its square: plain Lean. -/
namespace Go.Proofs.YtmdgeaagaljheaaDoor.Ev
open Go

theorem Num.nn_cases {x : Num} (m : x.may = true) (o : x.ok) (h : 0 ≤ x.val) : x = Num.zero ∨ (x.Fin ∧ x.neg = false) ∨ x = Num.inf false := by
  rcases Num.may3 m o with k | k | k
  · exact .inl k
  · refine .inr (.inl ⟨k, ?_⟩)
    cases hn : x.neg with
    | false => rfl
    | true => exfalso; have := k.lt; unfold Num.val at h; rw [hn] at h; simp at h; omega
  · refine .inr (.inr ?_)
    have p := pw_pos 1048640
    rw [k] at h ⊢
    rw [Num.val_inf] at h
    cases hn : x.neg with
    | false => rfl
    | true => exfalso; rw [hn] at h; simp at h; omega

theorem Num.root_fin {x : Num} (h : x.Fin) (hn : x.neg = false) (up : Bool) : (Num.root x up).1 = Num.rootF x up := by
  unfold Num.root
  have e : x.fair = x := Num.may_fair h.may
  rw [e, if_neg (by rw [hn]; simp), if_neg (by rw [h.kind]; simp)]
theorem Num.val_nn {x : Num} (hn : x.neg = false) : x.val = x.W := by unfold Num.val; rw [hn]; rfl

end Go.Proofs.YtmdgeaagaljheaaDoor.Ev

/- Sums grow with their operands: plain Lean. -/
namespace Go.Proofs.YtmdgeaagaljheaaDoor.Ev
open Go

/-- a number is finite, or one of the two others -/
theorem Num.three {a : Num} (oa : a.ok) : (a.fair.kind ≠ 2 ∧ -pw 1048640 < a.fair.val ∧ a.fair.val < pw 1048640) ∨ (a.fair = Num.inf false) ∨ (a.fair = Num.inf true) := by
  by_cases k : a.fair.kind = 2
  · have e := Num.fair_inf oa k
    cases h : a.fair.neg with
    | false => rw [h] at e; exact .inr (.inl e)
    | true => rw [h] at e; exact .inr (.inr e)
  · exact .inl ⟨k, (Num.fin_val a.fair_may (Num.fair_ok oa)).1 k⟩
end Go.Proofs.YtmdgeaagaljheaaDoor.Ev

/- Sums and products grow with their operands: what they rest on. -/

/- Products grow with their operands: plain Lean. -/
namespace Go.Proofs.YtmdgeaagaljheaaDoor.Ev
open Go

end Go.Proofs.YtmdgeaagaljheaaDoor.Ev

/- Quotients grow with what is divided, and shrink with the divisor: plain Lean. -/
namespace Go.Proofs.YtmdgeaagaljheaaDoor.Ev
open Go

theorem Num.div_inf_r {a b : Num} (up : Bool) (h : b.fair.kind = 2) : Num.div a b up = Num.zero := by
  unfold Num.div
  rw [if_neg (by rw [h]; decide), if_pos (.inr h)]
theorem Num.div_inf_l {a b : Num} (up : Bool) (ha : a.fair.kind = 2) (h0 : b.fair.kind ≠ 0) (h2 : b.fair.kind ≠ 2) : Num.div a b up = Num.inf (a.fair.neg != b.fair.neg) := by
  unfold Num.div
  rw [if_neg h0, if_neg (by rintro (k | k); (rw [ha] at k; exact absurd k (by decide)); exact h2 k), if_pos ha]
theorem Num.kind1 {a : Num} (oa : a.ok) (h0 : a.fair.kind ≠ 0) (h2 : a.fair.kind ≠ 2) : a.fair.kind = 1 := (Num.fair_fin oa h0 h2).kind

theorem Num.div_may {a b : Num} (oa : a.ok) (ob : b.ok) (up : Bool) : (Num.div a b up).may = true := by
  by_cases h0 : b.fair.kind = 0
  · unfold Num.div; rw [if_pos h0]; exact Num.inf_may _
  · by_cases h2 : b.fair.kind = 2
    · rw [Num.div_inf_r up h2]; exact Num.zero_may
    · by_cases ha : a.fair.kind = 2
      · rw [Num.div_inf_l up ha h0 h2]; exact Num.inf_may _
      · exact (div_best oa ob ha (Num.kind1 ob h0 h2) up).may

end Go.Proofs.YtmdgeaagaljheaaDoor.Ev

/- Products and sums of whole numbers, and what intervals make of them: plain Lean. -/
namespace Go.Proofs.YtmdgeaagaljheaaDoor.Ev
open Go

theorem min2 (a b : Int) : ∃ m, m ∈ [a, b] ∧ ∀ x ∈ [a, b], m ≤ x := by
  rcases Int.le_total a b with h | h
  · exact ⟨a, by simp, by simp; exact h⟩
  · exact ⟨b, by simp, by simp; exact h⟩
theorem max2 (a b : Int) : ∃ m, m ∈ [a, b] ∧ ∀ x ∈ [a, b], x ≤ m := by
  rcases Int.le_total a b with h | h
  · exact ⟨b, by simp, by simp; exact h⟩
  · exact ⟨a, by simp, by simp; exact h⟩
end Go.Proofs.YtmdgeaagaljheaaDoor.Ev

/- Plain laws of quotients and roots: by one, by itself, turned; the root of a square. -/
namespace Go.Proofs.YtmdgeaagaljheaaDoor.Ev
open Go
set_option linter.unusedVariables false
set_option linter.unusedSimpArgs false

theorem div_one {a : Num} (m : a.may = true) (o : a.ok) (up : Bool) : Num.div a (Num.ofInt 1) up = a := by
  have f1 : (Num.ofInt 1).fair = ⟨1, false, 9223372036854775808, -63⟩ := by decide +kernel
  unfold Num.div
  rw [f1, if_neg (by decide), Num.may_fair m]
  rcases Num.may3 m o with k | k | k
  · rw [k, if_pos (by decide)]
  · rw [if_neg (by rw [k.kind]; decide), if_neg (by rw [k.kind]; decide)]
    unfold Num.divF
    dsimp only
    have lo := k.lo
    have elo := k.elo
    have ehi := k.ehi
    have kk := k.kind
    rw [if_pos lo, Int.mul_ediv_cancel _ (by decide), Int.mul_emod_left, decide_eq_false (by decide), show a.e - -63 - 63 = a.e by omega, grow_plain elo ehi, Bool.bne_false]
    cases a; simp_all
  · rw [k]
    generalize a.neg = s
    cases s <;> rfl

theorem root_sq {n : Int} (h0 : 0 ≤ n) (h1 : n ≤ 1000000000) (up : Bool) : Num.root (Num.ofInt (n * n)) up = (Num.ofInt n, true) := by
  by_cases z : n = 0
  · subst z; cases up <;> decide +kernel
  · have hp : 0 < n := by omega
    have hsq : n * n ≤ 1000000000 * 1000000000 := Int.mul_le_mul h1 h1 h0 (by decide)
    have hsq0 : 0 < n * n := Int.mul_pos hp hp
    obtain ⟨F, W, ng⟩ := ofInt_fin (n := n * n) (by omega) (by omega)
    obtain ⟨G, V, ng2⟩ := ofInt_fin (n := n) (by omega) (by omega)
    have ngf : (Num.ofInt (n * n)).neg = false := by rw [ng]; exact decide_eq_false (by omega)
    have ngg : (Num.ofInt n).neg = false := by rw [ng2]; exact decide_eq_false (by omega)
    have p0 := pw_pos 0
    have e2 : (Num.root (Num.ofInt (n * n)) up).2 = true := by
      unfold Num.root
      rw [Num.may_fair F.may, if_neg (by rw [ngf]; simp), if_neg (by rw [F.kind]; simp)]
    have sqs : (Num.ofInt n).W * (Num.ofInt n).W = (Num.ofInt (n * n)).W * pw 0 := by
      rw [W, V, Int.natAbs_mul, Int.natCast_mul]
      simp only [Int.mul_assoc, Int.mul_comm, Int.mul_left_comm]
    have e1 : (Num.root (Num.ofInt (n * n)) up).1 = Num.ofInt n := by
      rw [Num.root_fin F ngf]
      have wp : 0 ≤ (Num.ofInt n).W := by rw [V]; exact Int.mul_nonneg (Int.natCast_nonneg _) (by omega)
      cases up with
      | false =>
        obtain ⟨r1, r2, r3, r4⟩ := rootF_dn F
        have w1 := r4 _ G.may (Num.ofInt_ok n) (by rw [G.kind]; decide) (by rw [sqs]; exact Int.le_refl _)
        have w2 : (Num.rootF (Num.ofInt (n * n)) false).W ≤ (Num.ofInt n).W := sq_le_of wp (by rw [sqs]; exact r3)
        exact Num.val_inj r1.may G.may ⟨by have := r1.lo; omega, r1.hi⟩ (Num.ofInt_ok n) (by rw [Num.val_nn r2, Num.val_nn ngg]; omega)
      | true =>
        obtain ⟨r1, r2, r3, r4⟩ := rootF_up F
        have w1 := r4 _ G.may (Num.ofInt_ok n) (by rw [sqs]; exact Int.le_refl _)
        have wq : 0 ≤ (Num.rootF (Num.ofInt (n * n)) true).W := by have := r1.lt; omega
        have w2 : (Num.ofInt n).W ≤ (Num.rootF (Num.ofInt (n * n)) true).W := sq_le_of wq (by rw [sqs]; exact r3)
        exact Num.val_inj r1.may G.may ⟨by have := r1.lo; omega, r1.hi⟩ (Num.ofInt_ok n) (by rw [Num.val_nn r2, Num.val_nn ngg]; omega)
    exact Prod.ext e1 e2

end Go.Proofs.YtmdgeaagaljheaaDoor.Ev

/- Contract of the seventh chapter's examples. Printed by gen.py. -/
namespace Go.Proofs.YtmdgeaagaljheaaDoor.Ev
open Go Go.Proofs
set_option linter.unusedVariables false
set_option linter.unusedSimpArgs false

attribute [local irreducible] Lb whN
theorem aw7a : (Num.div (Num.ofInt 1) (Num.ofInt 3) false).kind = 1 := by decide +kernel
theorem aw7b : Num.next (Num.div (Num.ofInt 1) (Num.ofInt 3) false) true = Num.div (Num.ofInt 1) (Num.ofInt 3) true := by decide +kernel
theorem aw7c : Num.root (Num.ofInt 4) true = (Num.ofInt 2, true) := root_sq (n := 2) (by decide) (by decide) true
theorem aw7d : ratioN false (5 * 10 ^ 0) false (10 ^ 1) false = Num.mul (Num.ofInt 1) ⟨1, false, 9223372036854775808, -64⟩ true := by decide +kernel
theorem aw7e : fromN false [5] (-1) false = Num.mul (Num.ofInt 1) ⟨1, false, 9223372036854775808, -64⟩ true := by
  have l5 : lv [(5 : Int)] = 5 := rfl
  have t5 : t10 5 = 0 := t10_stop (by decide)
  have s5 : (decS 5).length = 1 := by
    unfold decS
    rw [if_neg (by decide), digR_pos (by decide), show 5 / 10 = 0 by rfl, digR_zero]; rfl
  have lm5 : (lim 5).length = 1 := by decide +kernel
  have m5 : decMake false 5 (-1) = ((false, lim 5, -1), 0) := by
    unfold decMake
    rw [t5, if_neg (by decide), if_neg (by decide), if_neg]
    · simp
    · simp only [Nat.pow_zero, Nat.div_one, s5, lm5]; decide
  have k : decMayB false [5] (-1) = true := by
    unfold decMayB
    rw [if_neg (by decide), l5, m5]; decide
  unfold fromN
  rw [if_pos k, l5]
  exact aw7d
theorem num_eq_t {E : Env} (hE : E = realE Tryd.prog) (a b : Num) (h : a = b) : E.band (E.cmp .eql a.kind b.kind) (E.band (E.beq a.neg b.neg) (E.band (E.cmp .eql a.m b.m) (E.cmp .eql a.e b.e))) = true := by
  subst hE; subst h
  simp [realE, cmpR]
set_option maxHeartbeats 2000000 in
theorem c_awake07 : ∃ t : Bool, t = true ∧ CallsA Tryd.prog 5 [] (.bool (.s t)) := by
  refine ⟨_, rfl, ?_⟩
  have lb5 : Lb [(5 : Int)] := Lb.cons (by decide) (by decide) Lb.nil
  refine callsA_of hG hm Tryd.func5 (by kernel_rfl) ?_
  intro E hE lp hl'
  have es : E.sub [5] 0 1 = [5] := by subst hE; rfl
  cbv
  (first | (apply E_pcallX hE (c_Of 1 (by decide) (by decide)); (case hm => rfl); (case hle => (repeat' (first | exact u_nil | apply u_cons | apply u2_agg | exact u2_int | exact u1_int | exact u2_bool | exact u1_bool | exact u2_sli | exact u1_sli | exact u2_s0 | exact u1_s0))); all_goals (first | (intro o1 h1; cbv) | (assumption))) | (apply E_callX hE (c_Of 1 (by decide) (by decide)); (case hf => rfl); (case hc => (cbv <;> trivial)); (case hle => (repeat' (first | exact u_nil | apply u_cons | apply u2_agg | exact u2_int | exact u1_int | exact u2_bool | exact u1_bool | exact u2_sli | exact u1_sli | exact u2_s0 | exact u1_s0))); all_goals (first | (intro o1 h1; cbv) | (assumption))))
  (first | (apply E_pcallX hE (c_Of 3 (by decide) (by decide)); (case hm => rfl); (case hle => (repeat' (first | exact u_nil | apply u_cons | apply u2_agg | exact u2_int | exact u1_int | exact u2_bool | exact u1_bool | exact u2_sli | exact u1_sli | exact u2_s0 | exact u1_s0))); all_goals (first | (intro o3 h3; cbv) | (assumption))) | (apply E_callX hE (c_Of 3 (by decide) (by decide)); (case hf => rfl); (case hc => (cbv <;> trivial)); (case hle => (repeat' (first | exact u_nil | apply u_cons | apply u2_agg | exact u2_int | exact u1_int | exact u2_bool | exact u1_bool | exact u2_sli | exact u1_sli | exact u2_s0 | exact u1_s0))); all_goals (first | (intro o3 h3; cbv) | (assumption))))
  have k1 : o1.ok := by rw [h1]; exact Num.ofInt_ok 1
  have k3 : o3.ok := by rw [h3]; exact Num.ofInt_ok 3
  (first | (apply E_pcallX hE (c_quDiv ⟨_, _, _, _⟩ ⟨_, _, _, _⟩ _ ?_ ?_); (case hm => rfl); (case hle => (repeat' (first | exact u_nil | apply u_cons | apply u2_agg | exact u2_int | exact u1_int | exact u2_bool | exact u1_bool | exact u2_sli | exact u1_sli | exact u2_s0 | exact u1_s0))); all_goals (first | (intro lo hlo; cbv) | (first | exact k1 | exact k3))) | (apply E_callX hE (c_quDiv ⟨_, _, _, _⟩ ⟨_, _, _, _⟩ _ ?_ ?_); (case hf => rfl); (case hc => (cbv <;> trivial)); (case hle => (repeat' (first | exact u_nil | apply u_cons | apply u2_agg | exact u2_int | exact u1_int | exact u2_bool | exact u1_bool | exact u2_sli | exact u1_sli | exact u2_s0 | exact u1_s0))); all_goals (first | (intro lo hlo; cbv) | (first | exact k1 | exact k3))))
  (first | (apply E_pcallX hE (c_Of 1 (by decide) (by decide)); (case hm => rfl); (case hle => (repeat' (first | exact u_nil | apply u_cons | apply u2_agg | exact u2_int | exact u1_int | exact u2_bool | exact u1_bool | exact u2_sli | exact u1_sli | exact u2_s0 | exact u1_s0))); all_goals (first | (intro p1 g1; cbv) | (assumption))) | (apply E_callX hE (c_Of 1 (by decide) (by decide)); (case hf => rfl); (case hc => (cbv <;> trivial)); (case hle => (repeat' (first | exact u_nil | apply u_cons | apply u2_agg | exact u2_int | exact u1_int | exact u2_bool | exact u1_bool | exact u2_sli | exact u1_sli | exact u2_s0 | exact u1_s0))); all_goals (first | (intro p1 g1; cbv) | (assumption))))
  (first | (apply E_pcallX hE (c_Of 3 (by decide) (by decide)); (case hm => rfl); (case hle => (repeat' (first | exact u_nil | apply u_cons | apply u2_agg | exact u2_int | exact u1_int | exact u2_bool | exact u1_bool | exact u2_sli | exact u1_sli | exact u2_s0 | exact u1_s0))); all_goals (first | (intro p3 g3; cbv) | (assumption))) | (apply E_callX hE (c_Of 3 (by decide) (by decide)); (case hf => rfl); (case hc => (cbv <;> trivial)); (case hle => (repeat' (first | exact u_nil | apply u_cons | apply u2_agg | exact u2_int | exact u1_int | exact u2_bool | exact u1_bool | exact u2_sli | exact u1_sli | exact u2_s0 | exact u1_s0))); all_goals (first | (intro p3 g3; cbv) | (assumption))))
  have j1 : p1.ok := by rw [g1]; exact Num.ofInt_ok 1
  have j3 : p3.ok := by rw [g3]; exact Num.ofInt_ok 3
  (first | (apply E_pcallX hE (c_quDiv ⟨_, _, _, _⟩ ⟨_, _, _, _⟩ _ ?_ ?_); (case hm => rfl); (case hle => (repeat' (first | exact u_nil | apply u_cons | apply u2_agg | exact u2_int | exact u1_int | exact u2_bool | exact u1_bool | exact u2_sli | exact u1_sli | exact u2_s0 | exact u1_s0))); all_goals (first | (intro hi hhi; cbv) | (first | exact j1 | exact j3))) | (apply E_callX hE (c_quDiv ⟨_, _, _, _⟩ ⟨_, _, _, _⟩ _ ?_ ?_); (case hf => rfl); (case hc => (cbv <;> trivial)); (case hle => (repeat' (first | exact u_nil | apply u_cons | apply u2_agg | exact u2_int | exact u1_int | exact u2_bool | exact u1_bool | exact u2_sli | exact u1_sli | exact u2_s0 | exact u1_s0))); all_goals (first | (intro hi hhi; cbv) | (first | exact j1 | exact j3))))
  (first | (apply E_pcallX hE (c_Of 4 (by decide) (by decide)); (case hm => rfl); (case hle => (repeat' (first | exact u_nil | apply u_cons | apply u2_agg | exact u2_int | exact u1_int | exact u2_bool | exact u1_bool | exact u2_sli | exact u1_sli | exact u2_s0 | exact u1_s0))); all_goals (first | (intro p4 g4; cbv) | (assumption))) | (apply E_callX hE (c_Of 4 (by decide) (by decide)); (case hf => rfl); (case hc => (cbv <;> trivial)); (case hle => (repeat' (first | exact u_nil | apply u_cons | apply u2_agg | exact u2_int | exact u1_int | exact u2_bool | exact u1_bool | exact u2_sli | exact u1_sli | exact u2_s0 | exact u1_s0))); all_goals (first | (intro p4 g4; cbv) | (assumption))))
  have j4 : p4.ok := by rw [g4]; exact Num.ofInt_ok 4
  (first | (apply E_pcallX hE (c_quRoot ⟨_, _, _, _⟩ _ ?_); (case hm => rfl); (case hle => (repeat' (first | exact u_nil | apply u_cons | apply u2_agg | exact u2_int | exact u1_int | exact u2_bool | exact u1_bool | exact u2_sli | exact u1_sli | exact u2_s0 | exact u1_s0))); all_goals (first | (intro rt hrt; cbv) | (exact j4))) | (apply E_callX hE (c_quRoot ⟨_, _, _, _⟩ _ ?_); (case hf => rfl); (case hc => (cbv <;> trivial)); (case hle => (repeat' (first | exact u_nil | apply u_cons | apply u2_agg | exact u2_int | exact u1_int | exact u2_bool | exact u1_bool | exact u2_sli | exact u1_sli | exact u2_s0 | exact u1_s0))); all_goals (first | (intro rt hrt; cbv) | (exact j4))))
  (first | (apply E_pcallX hE (c_quFrom false _ (-1) false ?_ ?_ ?_ ?_); (case hm => rfl); (case hle => (repeat' (first | exact u_nil | apply u_cons | apply u2_agg | exact u2_int | exact u1_int | exact u2_bool | exact u1_bool | exact u2_sli | exact u1_sli | exact u2_s0 | exact u1_s0))); all_goals (first | (intro h hh; cbv) | ((first | (show Lb (E.sub [5] 0 1); rw [es]; exact lb5) | (show (E.sub [5] 0 1).length < 33554432; rw [es]; decide) | decide)))) | (apply E_callX hE (c_quFrom false _ (-1) false ?_ ?_ ?_ ?_); (case hf => rfl); (case hc => (cbv <;> trivial)); (case hle => (repeat' (first | exact u_nil | apply u_cons | apply u2_agg | exact u2_int | exact u1_int | exact u2_bool | exact u1_bool | exact u2_sli | exact u1_sli | exact u2_s0 | exact u1_s0))); all_goals (first | (intro h hh; cbv) | ((first | (show Lb (E.sub [5] 0 1); rw [es]; exact lb5) | (show (E.sub [5] 0 1).length < 33554432; rw [es]; decide) | decide)))))
  have elo : lo = Num.div (Num.ofInt 1) (Num.ofInt 3) false := by have k : lo = Num.div o1 o3 false := hlo; rw [k, h1, h3]
  have ehi : hi = Num.div (Num.ofInt 1) (Num.ofInt 3) true := by have k : hi = Num.div p1 p3 true := hhi; rw [k, g1, g3]
  have ert : rt = (Num.ofInt 2, true) := by have k : rt = Num.root p4 true := hrt; rw [k, g4, aw7c]
  have eh : h = Num.mul (Num.ofInt 1) ⟨1, false, 9223372036854775808, -64⟩ true := by have k : h = fromN false (E.sub [5] 0 1) (-1) false := hh; rw [k, es, aw7e]
  clear hlo hhi hrt hh
  have b1 : E.cmp .eql lo.kind 1 = true := by rw [elo]; subst hE; rw [show (realE Tryd.prog).cmp .eql (Num.div (Num.ofInt 1) (Num.ofInt 3) false).kind 1 = decide ((Num.div (Num.ofInt 1) (Num.ofInt 3) false).kind = 1) from cmp_eql _ _, aw7a]; rfl
  refine E_br_t hE b1 ?_; cbv
  (first | (apply E_pcallX hE (c_Next ⟨_, _, _, _⟩ true); (case hm => rfl); (case hle => (repeat' (first | exact u_nil | apply u_cons | apply u2_agg | exact u2_int | exact u1_int | exact u2_bool | exact u1_bool | exact u2_sli | exact u1_sli | exact u2_s0 | exact u1_s0))); all_goals (first | (intro nx hnx; cbv) | (assumption))) | (apply E_callX hE (c_Next ⟨_, _, _, _⟩ true); (case hf => rfl); (case hc => (cbv <;> trivial)); (case hle => (repeat' (first | exact u_nil | apply u_cons | apply u2_agg | exact u2_int | exact u1_int | exact u2_bool | exact u1_bool | exact u2_sli | exact u1_sli | exact u2_s0 | exact u1_s0))); all_goals (first | (intro nx hnx; cbv) | (assumption))))
  have enx : nx = hi := by have k : nx = Num.next lo true := hnx; rw [k, elo, ehi, aw7b]
  refine E_br_t hE (num_eq_t hE nx hi enx) ?_; cbv
  have b2 : rt.2 = true := by rw [ert]
  refine E_br_t hE b2 ?_; cbv
  (first | (apply E_pcallX hE (c_Of 2 (by decide) (by decide)); (case hm => rfl); (case hle => (repeat' (first | exact u_nil | apply u_cons | apply u2_agg | exact u2_int | exact u1_int | exact u2_bool | exact u1_bool | exact u2_sli | exact u1_sli | exact u2_s0 | exact u1_s0))); all_goals (first | (intro o2 h2; cbv) | (assumption))) | (apply E_callX hE (c_Of 2 (by decide) (by decide)); (case hf => rfl); (case hc => (cbv <;> trivial)); (case hle => (repeat' (first | exact u_nil | apply u_cons | apply u2_agg | exact u2_int | exact u1_int | exact u2_bool | exact u1_bool | exact u2_sli | exact u1_sli | exact u2_s0 | exact u1_s0))); all_goals (first | (intro o2 h2; cbv) | (assumption))))
  have e2 : rt.1 = o2 := by rw [ert, h2]
  refine E_br_t hE (num_eq_t hE rt.1 o2 e2) ?_; cbv
  (first | (apply E_pcallX hE (c_Of 1 (by decide) (by decide)); (case hm => rfl); (case hle => (repeat' (first | exact u_nil | apply u_cons | apply u2_agg | exact u2_int | exact u1_int | exact u2_bool | exact u1_bool | exact u2_sli | exact u1_sli | exact u2_s0 | exact u1_s0))); all_goals (first | (intro q1 r1; cbv) | (assumption))) | (apply E_callX hE (c_Of 1 (by decide) (by decide)); (case hf => rfl); (case hc => (cbv <;> trivial)); (case hle => (repeat' (first | exact u_nil | apply u_cons | apply u2_agg | exact u2_int | exact u1_int | exact u2_bool | exact u1_bool | exact u2_sli | exact u1_sli | exact u2_s0 | exact u1_s0))); all_goals (first | (intro q1 r1; cbv) | (assumption))))
  have kq : q1.ok := by rw [r1]; exact Num.ofInt_ok 1
  (first | (apply E_pcallX hE (c_Half ⟨_, _, _, _⟩ true ?_); (case hm => rfl); (case hle => (repeat' (first | exact u_nil | apply u_cons | apply u2_agg | exact u2_int | exact u1_int | exact u2_bool | exact u1_bool | exact u2_sli | exact u1_sli | exact u2_s0 | exact u1_s0))); all_goals (first | (intro hf hhf; cbv) | (exact kq))) | (apply E_callX hE (c_Half ⟨_, _, _, _⟩ true ?_); (case hf => rfl); (case hc => (cbv <;> trivial)); (case hle => (repeat' (first | exact u_nil | apply u_cons | apply u2_agg | exact u2_int | exact u1_int | exact u2_bool | exact u1_bool | exact u2_sli | exact u1_sli | exact u2_s0 | exact u1_s0))); all_goals (first | (intro hf hhf; cbv) | (exact kq))))
  have e3 : h = hf := by have k : hf = Num.mul q1 ⟨1, false, 9223372036854775808, -64⟩ true := hhf; rw [k, r1, eh]
  exact num_eq_t hE h hf e3

end Go.Proofs.YtmdgeaagaljheaaDoor.Ev

/- The lowest bit of a number, and where it stands: plain Lean. -/
namespace Go.Proofs.YtmdgeaagaljheaaDoor.Ev
open Go
set_option linter.unusedVariables false
set_option linter.unusedSimpArgs false

theorem and_split (a b : Nat) : a &&& b = 2 * (a / 2 &&& b / 2) + a % 2 * (b % 2) := by
  apply Nat.eq_of_testBit_eq
  intro i
  have e : a % 2 * (b % 2) < 2 := by
    rcases Nat.mod_two_eq_zero_or_one a with h | h <;> rcases Nat.mod_two_eq_zero_or_one b with k | k <;> rw [h, k] <;> decide
  cases i with
  | zero =>
    rw [Nat.testBit_and]
    simp only [Nat.testBit_zero]
    have : (2 * (a / 2 &&& b / 2) + a % 2 * (b % 2)) % 2 = a % 2 * (b % 2) := by omega
    rw [this]
    rcases Nat.mod_two_eq_zero_or_one a with h | h <;> rcases Nat.mod_two_eq_zero_or_one b with k | k <;> rw [h, k] <;> decide
  | succ i =>
    rw [Nat.testBit_and, Nat.testBit_succ, Nat.testBit_succ, Nat.testBit_succ]
    have : (2 * (a / 2 &&& b / 2) + a % 2 * (b % 2)) / 2 = a / 2 &&& b / 2 := by omega
    rw [this, Nat.testBit_and]

theorem and_compl (n : Nat) : ∀ y, y < 2 ^ n → y &&& (2 ^ n - 1 - y) = 0 := by
  induction n with
  | zero => intro y h; have : y = 0 := by simpa using h
            subst this; rfl
  | succ n ih =>
    intro y h
    rw [Nat.pow_succ] at h ⊢
    rw [and_split]
    have p := Nat.two_pow_pos n
    have e : (2 ^ n * 2 - 1 - y) / 2 = 2 ^ n - 1 - y / 2 := by omega
    have f : y % 2 * ((2 ^ n * 2 - 1 - y) % 2) = 0 := by
      rcases Nat.mod_two_eq_zero_or_one y with k | k
      · rw [k, Nat.zero_mul]
      · rw [k, Nat.one_mul]; omega
    rw [e, f, ih (y / 2) (by omega)]

/-- a number and its opposite have just the lowest bit -/
theorem low_bit (n : Nat) : ∀ x, 0 < x → x < 2 ^ n → x &&& (2 ^ n - x) = 2 ^ v2 x := by
  induction n with
  | zero => intro x h0 h; have : x = 0 := by simpa using h
            omega
  | succ n ih =>
    intro x h0 h
    rw [Nat.pow_succ] at h ⊢
    have p := Nat.two_pow_pos n
    rw [and_split]
    rcases Nat.mod_two_eq_zero_or_one x with k | k
    · have e : (2 ^ n * 2 - x) / 2 = 2 ^ n - x / 2 := by omega
      rw [e, k, Nat.zero_mul, ih (x / 2) (by omega) (by omega), v2_even h0 k, Nat.pow_succ]
      omega
    · have e : (2 ^ n * 2 - x) / 2 = 2 ^ n - 1 - x / 2 := by omega
      have f : (2 ^ n * 2 - x) % 2 = 1 := by omega
      rw [e, k, f, and_compl n (x / 2) (by omega), v2_odd (by omega)]

def tzT : List Int := [0, 1, 28, 2, 29, 14, 24, 3, 30, 22, 20, 15, 25, 17, 4, 8, 31, 27, 13, 23, 21, 19, 16, 7, 26, 12, 18, 6, 11, 5, 10, 9]
theorem tz_table : ∀ k : Nat, k < 32 → tzT.getD (2 ^ k * 125613361 % 4294967296 / 134217728) 0 = k := by decide +kernel

theorem v2_low {x r : Nat} (h : 0 < x) (hx : x < 4294967296) : v2 (x + 4294967296 * r) = v2 x := by
  suffices H : ∀ (j x r : Nat), 0 < x → x < 2 ^ j → v2 (x + 2 ^ j * r) = v2 x by
    exact H 32 x r h hx
  intro j
  induction j with
  | zero => intro x r h hx; rw [Nat.pow_zero] at hx; omega
  | succ j ih =>
    intro x r h hx
    rw [Nat.pow_succ] at hx ⊢
    have e : (x + 2 ^ j * 2 * r) % 2 = x % 2 := by rw [Nat.mul_right_comm, Nat.add_mul_mod_self_right]
    rcases Nat.mod_two_eq_zero_or_one x with k | k
    · have e2 : (x + 2 ^ j * 2 * r) / 2 = x / 2 + 2 ^ j * r := by rw [Nat.mul_right_comm, Nat.add_mul_div_right _ _ (by decide)]
      rw [v2_even (by omega) (by rw [e]; exact k), e2, ih (x / 2) r (by omega) (by omega), v2_even h k]
    · rw [v2_odd (by rw [e]; omega), v2_odd (by omega)]
theorem v2_shift {r : Nat} (h : 0 < r) (j : Nat) : v2 (2 ^ j * r) = j + v2 r := by
  induction j with
  | zero => simp
  | succ j ih =>
    have p := Nat.two_pow_pos j
    have q : 0 < 2 ^ j * r := Nat.mul_pos p h
    have e : 2 ^ (j + 1) * r = 2 * (2 ^ j * r) := by rw [Nat.pow_succ, Nat.mul_comm (2 ^ j) 2, Nat.mul_assoc]
    rw [e, v2_even (by omega) (by omega), show 2 * (2 ^ j * r) / 2 = 2 ^ j * r by omega, ih]; omega
end Go.Proofs.YtmdgeaagaljheaaDoor.Ev

/- Contracts: where the lowest bit stands; how many noughts there are at the end of limbs. Printed by gen.py. -/
namespace Go.Proofs.YtmdgeaagaljheaaDoor.Ev
open Go Go.Proofs
set_option linter.unusedVariables false
set_option linter.unusedSimpArgs false

attribute [local irreducible] Lb
theorem tz_low {x : Int} (h0 : 0 < x) (h1 : x < 4294967296) : intBinR .and .u32 x (intBinR .sub .u32 0 x) = ((2 ^ v2 x.toNat : Nat) : Int) := by
  obtain ⟨n, rfl⟩ := Int.eq_ofNat_of_zero_le (Int.le_of_lt h0)
  have e : intBinR .sub .u32 0 (n : Int) = ((4294967296 - n : Nat) : Int) := by
    show IntKind.u32.wrap (0 - (n : Int)) = _
    rw [wu32]; omega
  have lb := low_bit 32 n (by omega) (by omega)
  have l2 : v2 n < 32 := v2_lt (by omega) (by omega)
  have p2 : 2 ^ v2 n ≤ 2 ^ 31 := Nat.pow_le_pow_right (by decide) (by omega)
  show IntKind.u32.wrap ((BitVec.ofInt IntKind.u32.bits (n : Int) &&& BitVec.ofInt IntKind.u32.bits (intBinR .sub .u32 0 (n : Int))).toNat : Int) = _
  rw [e]
  have b1 : (BitVec.ofInt IntKind.u32.bits (n : Int)).toNat = n := by
    show (BitVec.ofInt 32 (n : Int)).toNat = n
    rw [BitVec.ofInt_natCast, BitVec.toNat_ofNat]; omega
  have b2 : (BitVec.ofInt IntKind.u32.bits ((4294967296 - n : Nat) : Int)).toNat = 4294967296 - n := by
    show (BitVec.ofInt 32 ((4294967296 - n : Nat) : Int)).toNat = _
    rw [BitVec.ofInt_natCast, BitVec.toNat_ofNat]; omega
  rw [BitVec.toNat_and, b1, b2, show (4294967296 : Nat) = 2 ^ 32 by rfl, lb, wu32, Int.toNat_natCast]
  omega
theorem tz_index {x : Int} (h0 : 0 < x) (h1 : x < 4294967296) (y : Int) (hy : y = intBinR .shr .u32 (intBinR .mul .u32 (intBinR .and .u32 x (intBinR .sub .u32 0 x)) 125613361) 27) :
    0 ≤ y ∧ y < 32 ∧ tzT.getD y.toNat 0 = v2 x.toNat ∧ v2 x.toNat < 32 := by
  have l2 : v2 x.toNat < 32 := v2_lt (by omega) (by omega)
  rw [tz_low h0 h1] at hy
  have e : intBinR .mul .u32 ((2 ^ v2 x.toNat : Nat) : Int) 125613361 = ((2 ^ v2 x.toNat * 125613361 % 4294967296 : Nat) : Int) := by
    show IntKind.u32.wrap (((2 ^ v2 x.toNat : Nat) : Int) * 125613361) = _
    rw [wu32]; omega
  have e2 : y = ((2 ^ v2 x.toNat * 125613361 % 4294967296 / 134217728 : Nat) : Int) := by
    rw [hy, e]
    show Int.fdiv _ (2 ^ (min (27 : Int).toNat 32)) = _
    rw [show (2 : Int) ^ (min (27 : Int).toNat 32) = 134217728 by decide, Int.fdiv_eq_ediv_of_nonneg _ (by decide)]
    omega
  rw [e2]
  have t := tz_table (v2 x.toNat) l2
  refine ⟨by omega, by omega, ?_, l2⟩
  rw [Int.toNat_natCast]; exact t
theorem c_TZ32 (x : Int) (h0 : 0 < x) (h1 : x < 4294967296) : ∃ t : Int, t = v2 x.toNat ∧ CallsA Tryd.prog 62 [.int .u32 (.s x)] (.int .i64 (.s t)) := by
  refine ⟨_, rfl, ?_⟩
  generalize hr : (v2 x.toNat : Int) = r
  have idx := tz_index h0 h1
  have fin : ∀ y, tzT.getD y 0 = v2 x.toNat → IntKind.i64.wrap (tzT.getD y 0) = r := by
    intro y hy
    have := (idx _ rfl).2.2.2
    rw [hy, wi64_id (by omega) (by omega), hr]
  refine callsA_of hG hm Tryd.func62 (by kernel_rfl) ?_
  intro E hE lp hl
  cbv
  refine E_br hE (fun g => ?_) (fun g => ?_) <;> cbv
  · exfalso
    subst hE
    have := eql_t g
    omega
  have ix := idx (E.bin .shr .u32 (E.bin .mul .u32 (E.bin .and .u32 x (E.bin .sub .u32 0 x)) 125613361) 27) (by subst hE; rfl)
  refine E_br hE (fun b1 => ?_) (fun b1 => ?_) <;> cbv
  · refine E_br hE (fun b2 => ?_) (fun b2 => ?_) <;> cbv
    · refine E_nm hE (fun v hv => ?_); cbv
      rw [hv]
      have f := fin _ ix.2.2.1
      subst hE
      exact f
    · exfalso
      subst hE
      exact lss_f b2 ix.2.1
  · exfalso
    subst hE
    exact leq_f b1 ix.1

/-- how many noughts there are at the end: of limbs of which so many are nought -/
theorem trail_step {m : List Int} (h : Lb m) {j : Nat} (hj : j < m.length) : (m.getD j 0 = 0 → lv (m.drop j) = 4294967296 * lv (m.drop (j + 1))) ∧
    (m.getD j 0 ≠ 0 → v2 (lv (m.drop j)) = v2 (m.getD j 0).toNat ∧ 0 < m.getD j 0) := by
  have e : m.drop j = m.getD j 0 :: m.drop (j + 1) := by
    rw [List.drop_eq_getElem_cons hj, List.getD, List.getElem?_eq_getElem hj]; rfl
  have g := h.getD j
  rw [e]
  constructor
  · intro z; simp only [lv]; rw [z]; simp
  · intro z
    simp only [lv]
    exact ⟨v2_low (by omega) (by omega), by omega⟩
theorem c_trailing (m : List Int) (hm_ : Lb m) (hl_ : m.length < 67108864) (h0 : 0 < lv m) : ∃ t : Int, t = v2 (lv m) ∧ CallsA Tryd.prog 42 [.sli .u32 m] (.int .i64 (.s t)) := by
  refine ⟨_, rfl, ?_⟩
  generalize hr : (v2 (lv m) : Int) = r
  obtain ⟨ms, em⟩ : ∃ ms : Int × Int → Nat, ∀ p, ms p = ((m.length : Int) - p.1).toNat := ⟨_, fun _ => rfl⟩
  obtain ⟨ok, eok⟩ : ∃ ok : Int × Int → Prop, ∀ p, ok p ↔ (0 ≤ p.1 ∧ p.1 ≤ m.length ∧ p.2 = 32 * p.1 ∧ 0 < lv (m.drop p.1.toNat) ∧ r = 32 * p.1 + v2 (lv (m.drop p.1.toNat))) := ⟨_, fun _ => Iff.rfl⟩
  have start : ok (0, 0) := (eok _).2 ⟨Int.le_refl _, Int.natCast_nonneg _, rfl, h0, by rw [← hr]; show _ = (32 : Int) * 0 + _; simp⟩
  have bnd : ∀ i n, ok (i, n) → 0 ≤ i ∧ i < m.length := by
    intro i n h
    obtain ⟨k1, k2, k3, k4, k5⟩ := (eok _).1 h
    dsimp only at k1 k2 k3 k4 k5
    refine ⟨k1, ?_⟩
    by_cases z : i.toNat < m.length
    · omega
    · rw [List.drop_eq_nil_of_le (by omega)] at k4; exact absurd k4 (Nat.lt_irrefl 0)
  have next : ∀ i n, ok (i, n) → m.getD i.toNat 0 = 0 → ms (IntKind.i64.wrap (i + 1), IntKind.i64.wrap (n + 32)) < ms (i, n) ∧ ok (IntKind.i64.wrap (i + 1), IntKind.i64.wrap (n + 32)) := by
    intro i n h z
    have b := bnd i n h
    obtain ⟨k1, k2, k3, k4, k5⟩ := (eok _).1 h
    dsimp only at k1 k2 k3 k4 k5
    have st := (trail_step hm_ (j := i.toNat) (by omega)).1 z
    rw [wi64_id (by omega) (by omega), wi64_id (by omega) (by omega)]
    have e : (i + 1).toNat = i.toNat + 1 := by omega
    refine ⟨by rw [em, em]; dsimp only; omega, (eok _).2 ⟨by dsimp only; omega, by dsimp only; omega, by dsimp only; omega, ?_, ?_⟩⟩
    · dsimp only; rw [e]; rw [st] at k4; omega
    · dsimp only
      rw [e]
      rw [st] at k4 k5
      have := v2_shift (r := lv (m.drop (i.toNat + 1))) (by omega) 32
      rw [show (2 : Nat) ^ 32 = 4294967296 by rfl] at this
      omega
  have stop : ∀ i n, ok (i, n) → m.getD i.toNat 0 ≠ 0 → 0 < m.getD i.toNat 0 ∧ m.getD i.toNat 0 < 4294967296 ∧ ∀ t : Int, t = v2 (m.getD i.toNat 0).toNat → IntKind.i64.wrap (n + t) = r := by
    intro i n h z
    have b := bnd i n h
    obtain ⟨k1, k2, k3, k4, k5⟩ := (eok _).1 h
    dsimp only at k1 k2 k3 k4 k5
    have st := (trail_step hm_ (j := i.toNat) (by omega)).2 z
    have g := hm_.getD i.toNat
    have l2 : v2 (m.getD i.toNat 0).toNat < 32 := v2_lt (by omega) (by omega)
    refine ⟨st.2, g.2, fun t ht => ?_⟩
    rw [st.1] at k5
    rw [wi64_id (by omega) (by omega)]; omega
  clear hr h0
  refine callsA_of hG hm Tryd.func42 (by kernel_rfl) ?_
  intro E hE lp hl
  cbv
  refine E_loop hE hG hm hl (fun p : Int × Int => (⟨[(3, .int .i64 (.s p.2)), (6, .sli .u32 m), (7, .int .i64 (.s (E.len m))), (8, .int .i64 (.s p.1))], []⟩ : St)) ms ok ⟨(0, 0), start, stLe rfl ?_⟩ ?_
  · (repeat' (first | exact t_nil | apply t_cons | exact u2_sli | exact u2_int | exact u2_bool | exact u2_ms | exact u2_ptr | exact (rfl : sle2 .s0 .s0)))
  rintro ⟨i, n⟩ hok
  have bd := bnd i n hok
  have nx := next i n hok
  have sp := stop i n hok
  clear bnd next stop start hok
  cbv
  refine E_br hE (fun g => ?_) (fun g => ?_) <;> cbv
  · refine E_br hE (fun b1 => ?_) (fun b1 => ?_) <;> cbv
    · refine E_br hE (fun b2 => ?_) (fun b2 => ?_) <;> cbv
      · refine E_nm hE (fun v hv => ?_); cbv
        have hv : v = m.getD i.toNat 0 := by subst hE; exact hv
        rw [← hv] at nx sp
        refine E_br hE (fun b3 => ?_) (fun b3 => ?_) <;> cbv
        · have z : v ≠ 0 := by subst hE; have q : decide (v ≠ 0) = true := (cmp_neq _ _).symm.trans b3; simpa using q
          have sp := sp z

          (first | (apply E_pcallX hE (c_TZ32 v sp.1 sp.2.1); (case hm => rfl); (case hle => (repeat' (first | exact u_nil | apply u_cons | apply u2_agg | exact u2_int | exact u1_int | exact u2_bool | exact u1_bool | exact u2_sli | exact u1_sli | exact u2_s0 | exact u1_s0))); all_goals (first | (intro t ht; cbv) | (assumption))) | (apply E_callX hE (c_TZ32 v sp.1 sp.2.1); (case hf => rfl); (case hc => (cbv <;> trivial)); (case hle => (repeat' (first | exact u_nil | apply u_cons | apply u2_agg | exact u2_int | exact u1_int | exact u2_bool | exact u1_bool | exact u2_sli | exact u1_sli | exact u2_s0 | exact u1_s0))); all_goals (first | (intro t ht; cbv) | (assumption))))
          refine E_nm hE (fun u hu => ?_); cbv
          rw [hu]
          have f := sp.2.2 t ht
          subst hE
          exact f
        · have z : v = 0 := by subst hE; have q : decide (v ≠ 0) = false := (cmp_neq _ _).symm.trans b3; simpa using q
          have nx := nx z
          refine E_nm hE (fun u hu => ?_); cbv
          have eu : u = IntKind.i64.wrap (n + 32) := by subst hE; exact hu
          refine ⟨(E.bin .add .i64 i 1, u), ?_, ?_, stLe rfl ?_⟩
          · rw [eu]; subst hE; exact nx.1
          · rw [eu]; subst hE; exact nx.2
          · (repeat' (first | exact t_nil | apply t_cons | exact u2_sli | exact u2_int | exact u2_bool | exact u2_ms | exact u2_ptr | exact (rfl : sle2 .s0 .s0)))
      · exfalso
        subst hE
        exact lss_f b2 bd.2
    · exfalso
      subst hE
      exact leq_f b1 bd.1
  · exfalso
    subst hE
    exact lss_f g bd.2

end Go.Proofs.YtmdgeaagaljheaaDoor.Ev

/- Contracts of the reference: limbs cut of their noughts, which of two is less, a limb. Printed by gen.py. -/
namespace Go.Proofs.YtmdgeaagaljheaaDoor.Ev
open Go Go.Proofs
set_option linter.unusedVariables false
set_option linter.unusedSimpArgs false

attribute [local irreducible] Lb
end Go.Proofs.YtmdgeaagaljheaaDoor.Ev

/- Contracts of the reference: a limb, and the sum. Printed by gen.py. -/
namespace Go.Proofs.YtmdgeaagaljheaaDoor.Ev
open Go Go.Proofs
set_option linter.unusedVariables false
set_option linter.unusedSimpArgs false

attribute [local irreducible] Lb
end Go.Proofs.YtmdgeaagaljheaaDoor.Ev

/- Contracts of the reference: which of two is less, the difference. Printed by gen.py. -/
namespace Go.Proofs.YtmdgeaagaljheaaDoor.Ev
open Go Go.Proofs
set_option linter.unusedVariables false
set_option linter.unusedSimpArgs false

attribute [local irreducible] Lb
end Go.Proofs.YtmdgeaagaljheaaDoor.Ev

/- Contracts of the reference: the difference. Printed by gen.py. -/
namespace Go.Proofs.YtmdgeaagaljheaaDoor.Ev
open Go Go.Proofs
set_option linter.unusedVariables false
set_option linter.unusedSimpArgs false

attribute [local irreducible] Lb
end Go.Proofs.YtmdgeaagaljheaaDoor.Ev

/- Contracts of the reference: the product. Printed by gen.py. -/
namespace Go.Proofs.YtmdgeaagaljheaaDoor.Ev
open Go Go.Proofs
set_option linter.unusedVariables false
set_option linter.unusedSimpArgs false

attribute [local irreducible] Lb
end Go.Proofs.YtmdgeaagaljheaaDoor.Ev

/- Contracts of the reference: how many bits, shifted, a bit, a bit more. Printed by gen.py. -/
namespace Go.Proofs.YtmdgeaagaljheaaDoor.Ev
open Go Go.Proofs
set_option linter.unusedVariables false
set_option linter.unusedSimpArgs false

attribute [local irreducible] Lb
end Go.Proofs.YtmdgeaagaljheaaDoor.Ev

/- Contracts of the reference: a bit, a bit more. Printed by gen.py. -/
namespace Go.Proofs.YtmdgeaagaljheaaDoor.Ev
open Go Go.Proofs
set_option linter.unusedVariables false
set_option linter.unusedSimpArgs false

attribute [local irreducible] Lb
end Go.Proofs.YtmdgeaagaljheaaDoor.Ev

/- Contracts of the reference: the quotient, bit by bit. Printed by gen.py. -/
namespace Go.Proofs.YtmdgeaagaljheaaDoor.Ev
open Go Go.Proofs
set_option linter.unusedVariables false
set_option linter.unusedSimpArgs false

attribute [local irreducible] Lb
end Go.Proofs.YtmdgeaagaljheaaDoor.Ev

/- Contracts of the reference: shifted down. Printed by gen.py. -/
namespace Go.Proofs.YtmdgeaagaljheaaDoor.Ev
open Go Go.Proofs
set_option linter.unusedVariables false
set_option linter.unusedSimpArgs false

attribute [local irreducible] Lb
end Go.Proofs.YtmdgeaagaljheaaDoor.Ev

/- Contracts of the reference: whole numbers. Printed by gen.py. -/
namespace Go.Proofs.YtmdgeaagaljheaaDoor.Ev
open Go Go.Proofs
set_option linter.unusedVariables false
set_option linter.unusedSimpArgs false

attribute [local irreducible] Lb
end Go.Proofs.YtmdgeaagaljheaaDoor.Ev

/- Contracts of the reference: numbers times powers of two. Printed by gen.py. -/
namespace Go.Proofs.YtmdgeaagaljheaaDoor.Ev
open Go Go.Proofs
set_option linter.unusedVariables false
set_option linter.unusedSimpArgs false

attribute [local irreducible] Lb
end Go.Proofs.YtmdgeaagaljheaaDoor.Ev

/- Contracts of the reference: numbers. Printed by gen.py out of R12.spec. -/
namespace Go.Proofs.YtmdgeaagaljheaaDoor.Ev
open Go Go.Proofs
set_option linter.unusedVariables false
set_option linter.unusedSimpArgs false
end Go.Proofs.YtmdgeaagaljheaaDoor.Ev

/- Contracts of the reference: limbs, a word, exact numbers. Printed by gen.py. -/
namespace Go.Proofs.YtmdgeaagaljheaaDoor.Ev
open Go Go.Proofs
set_option linter.unusedVariables false
set_option linter.unusedSimpArgs false

attribute [local irreducible] Lb
end Go.Proofs.YtmdgeaagaljheaaDoor.Ev

/- Contracts of the reference: exact numbers, and rounding. Printed by gen.py. -/
namespace Go.Proofs.YtmdgeaagaljheaaDoor.Ev
open Go Go.Proofs
set_option linter.unusedVariables false
set_option linter.unusedSimpArgs false

attribute [local irreducible] Lb
theorem rlimbs_lb {m : Int} (h0 : 0 ≤ m) (h1 : m < 18446744073709551616) : Lb [m % 4294967296, m / 4294967296] :=
  Lb.cons (by omega) (by omega) (Lb.cons (by omega) (by omega) Lb.nil)
theorem rlimbs_lv {m : Int} (h0 : 0 ≤ m) : lv [m % 4294967296, m / 4294967296] = m.toNat := by
  simp only [lv]; omega
end Go.Proofs.YtmdgeaagaljheaaDoor.Ev

/- Contracts of dy.Make and num.Exact. Printed by gen.py. -/
namespace Go.Proofs.YtmdgeaagaljheaaDoor.Ev
open Go Go.Proofs
set_option linter.unusedVariables false
set_option linter.unusedSimpArgs false

attribute [local irreducible] Lb
theorem c_within (e : Int) : ∃ t : Bool, t = (decide (-4194304 ≤ e) && decide (e ≤ 4194304)) ∧ CallsA Tryd.prog 41 [.int .i64 (.s e)] (.bool (.s t)) := by
  refine ⟨_, rfl, ?_⟩
  generalize hr : (decide (-4194304 ≤ e) && decide (e ≤ 4194304)) = r
  have z1 : -4194304 ≤ e → decide (e ≤ 4194304) = r := by intro h; rw [← hr, decide_eq_true h]; rfl
  have z2 : ¬ -4194304 ≤ e → false = r := by intro h; rw [← hr, decide_eq_false h]; rfl
  clear hr
  refine callsA_of hG hm Tryd.func41 (by kernel_rfl) ?_
  intro E hE lp hl
  cbv
  refine E_br hE (fun g => ?_) (fun g => ?_) <;> cbv
  · subst hE
    exact (cmp_leq _ _).trans (z1 (geq_t g))
  · subst hE
    exact z2 (geq_f g)
set_option maxHeartbeats 1000000 in
theorem c_dyMake (neg : Bool) (m : List Int) (e : Int) (hm_ : Lb m) (hl_ : m.length < 67108864) (he0 : -9223372036854775808 ≤ e) (he1 : e < 9223372036854775808) :
    ∃ t : Bool × List Int × Int, t = dyL (dyMake neg (lv m) e) ∧ CallsA Tryd.prog 17 [.agg [.bool (.s neg), .sli .u32 m], .int .i64 (.s e)] (.agg [.bool (.s t.1), .sli .u32 t.2.1, .int .i64 (.s t.2.2)]) := by
  refine ⟨_, rfl, ?_⟩
  generalize hr : dyL (dyMake neg (lv m) e) = r
  have vb : 0 < lv m → v2 (lv m) < 32 * 67108864 := by
    intro h
    have l := lv_lt hm_
    rw [show (4294967296 : Nat) = 2 ^ 32 by rfl, ← Nat.pow_mul] at l
    have := v2_lt h l
    omega
  have bad0 : (lv m = 0 ∨ ¬ (-4194304 ≤ e ∧ e ≤ 4194304)) → (false, [], 0) = r := by
    intro h; rw [← hr]; unfold dyMake; rw [if_pos (by omega)]; rfl
  have bad1 : lv m ≠ 0 → (-4194304 ≤ e ∧ e ≤ 4194304) → 4194304 < e + v2 (lv m) → (false, [], 0) = r := by
    intro h g k; rw [← hr]; unfold dyMake; rw [if_neg (by omega), if_pos k]; rfl
  have good : lv m ≠ 0 → (-4194304 ≤ e ∧ e ≤ 4194304) → ¬ 4194304 < e + v2 (lv m) → (neg, lim (lv m / 2 ^ v2 (lv m)), e + v2 (lv m)) = r ∧ lv m / 2 ^ v2 (lv m) ≠ 0 := by
    intro h g k
    refine ⟨by rw [← hr]; unfold dyMake; rw [if_neg (by omega), if_neg k]; rfl, ?_⟩
    have := (v2_spec (lv m) (by omega)).2.1
    intro z; rw [z] at this; cases this
  have ls : ∀ x, x = lim (lv m / 2 ^ ((v2 (lv m) : Int)).toNat) → Lb x ∧ x.length ≤ 268435456 := by
    intro x hx
    rw [hx]
    refine ⟨lim_lb _, ?_⟩
    have l := lv_lt hm_
    have d : lv m / 2 ^ ((v2 (lv m) : Int)).toNat ≤ lv m := Nat.div_le_self _ _
    have := lim_length_le (n := lv m / 2 ^ ((v2 (lv m) : Int)).toNat) (k := m.length) (by omega)
    omega
  clear hr
  obtain ⟨V, hV⟩ : ∃ V : Int, V = v2 (lv m) := ⟨_, rfl⟩
  have hVn : V.toNat = v2 (lv m) := by omega
  have vb : 0 < lv m → 0 ≤ V ∧ V < 32 * 67108864 := fun h => by have := vb h; omega
  rw [← hV] at bad1 good ls
  refine callsA_of hG hm Tryd.func17 (by kernel_rfl) ?_
  intro E hE lp hl
  cbv
  (first | (apply E_pcallX hE (c_wSign neg m hm_ hl_); (case hm => rfl); (case hle => (repeat' (first | exact u_nil | apply u_cons | apply u2_agg | exact u2_int | exact u1_int | exact u2_bool | exact u1_bool | exact u2_sli | exact u1_sli | exact u2_s0 | exact u1_s0))); all_goals (first | (intro s hs; cbv) | (assumption))) | (apply E_callX hE (c_wSign neg m hm_ hl_); (case hf => rfl); (case hc => (cbv <;> trivial)); (case hle => (repeat' (first | exact u_nil | apply u_cons | apply u2_agg | exact u2_int | exact u1_int | exact u2_bool | exact u1_bool | exact u2_sli | exact u1_sli | exact u2_s0 | exact u1_s0))); all_goals (first | (intro s hs; cbv) | (assumption))))
  refine E_br hE (fun g => ?_) (fun g => ?_) <;> cbv
  · have z : lv m = 0 := by
      have g : s = 0 := by subst hE; exact eql_t g
      rw [hs] at g
      by_cases h : lv m = 0
      · exact h
      · rw [if_neg h] at g; split at g <;> cases g
    rw [← bad0 (.inl z)]; exact ⟨rfl, rfl, rfl, trivial⟩
  have n0 : lv m ≠ 0 := by
    have g : ¬ s = 0 := by subst hE; exact eql_f g
    intro z; apply g; rw [hs, if_pos z]
  (first | (apply E_pcallX hE (c_within e); (case hm => rfl); (case hle => (repeat' (first | exact u_nil | apply u_cons | apply u2_agg | exact u2_int | exact u1_int | exact u2_bool | exact u1_bool | exact u2_sli | exact u1_sli | exact u2_s0 | exact u1_s0))); all_goals (first | (intro w hw; cbv) | (assumption))) | (apply E_callX hE (c_within e); (case hf => rfl); (case hc => (cbv <;> trivial)); (case hle => (repeat' (first | exact u_nil | apply u_cons | apply u2_agg | exact u2_int | exact u1_int | exact u2_bool | exact u1_bool | exact u2_sli | exact u1_sli | exact u2_s0 | exact u1_s0))); all_goals (first | (intro w hw; cbv) | (assumption))))
  refine E_br hE (fun g2 => ?_) (fun g2 => ?_) <;> cbv
  · have z : ¬ (-4194304 ≤ e ∧ e ≤ 4194304) := by
      have g2 : w = false := by subst hE; cases w; rfl; exact absurd g2 (by decide)
      rw [hw] at g2
      simp only [Bool.and_eq_false_iff, decide_eq_false_iff_not] at g2
      omega
    rw [← bad0 (.inr z)]; exact ⟨rfl, rfl, rfl, trivial⟩
  have r0 : -4194304 ≤ e ∧ e ≤ 4194304 := by
    have g2 : w = true := by subst hE; cases w; exact absurd g2 (by decide); rfl
    rw [hw] at g2
    simp only [Bool.and_eq_true, decide_eq_true_eq] at g2
    exact g2
  have vb := vb (by omega)
  (first | (apply E_pcallX hE (c_trailing m hm_ hl_ ?_); (case hm => rfl); (case hle => (repeat' (first | exact u_nil | apply u_cons | apply u2_agg | exact u2_int | exact u1_int | exact u2_bool | exact u1_bool | exact u2_sli | exact u1_sli | exact u2_s0 | exact u1_s0))); all_goals (first | (intro b hb; cbv) | (omega))) | (apply E_callX hE (c_trailing m hm_ hl_ ?_); (case hf => rfl); (case hc => (cbv <;> trivial)); (case hle => (repeat' (first | exact u_nil | apply u_cons | apply u2_agg | exact u2_int | exact u1_int | exact u2_bool | exact u1_bool | exact u2_sli | exact u1_sli | exact u2_s0 | exact u1_s0))); all_goals (first | (intro b hb; cbv) | (omega))))
  (try (refine E_nm hE (fun v hv => ?_); cbv))
  have ev : v = V := hv.trans (hb.trans hV.symm)
  have ea : E.bin .add .i64 e v = e + V := by
    rw [ev]; subst hE
    show IntKind.i64.wrap (e + V) = _
    exact wi64_in (by omega) (by omega)
  (first | (apply E_pcallX hE (c_within _); (case hm => rfl); (case hle => (repeat' (first | exact u_nil | apply u_cons | apply u2_agg | exact u2_int | exact u1_int | exact u2_bool | exact u1_bool | exact u2_sli | exact u1_sli | exact u2_s0 | exact u1_s0))); all_goals (first | (intro w2 hw2; cbv) | (assumption))) | (apply E_callX hE (c_within _); (case hf => rfl); (case hc => (cbv <;> trivial)); (case hle => (repeat' (first | exact u_nil | apply u_cons | apply u2_agg | exact u2_int | exact u1_int | exact u2_bool | exact u1_bool | exact u2_sli | exact u1_sli | exact u2_s0 | exact u1_s0))); all_goals (first | (intro w2 hw2; cbv) | (assumption))))
  have hw2 : w2 = (decide (-4194304 ≤ e + V) && decide (e + V ≤ 4194304)) := by rw [← ea]; exact hw2
  refine E_br hE (fun g3 => ?_) (fun g3 => ?_) <;> cbv
  · have z : 4194304 < e + V := by
      have g3 : w2 = false := by subst hE; cases w2; rfl; exact absurd g3 (by decide)
      rw [hw2] at g3
      simp only [Bool.and_eq_false_iff, decide_eq_false_iff_not] at g3
      omega
    rw [← bad1 n0 r0 z]; exact ⟨rfl, rfl, rfl, trivial⟩
  have z : ¬ 4194304 < e + V := by
    have g3 : w2 = true := by subst hE; cases w2; exact absurd g3 (by decide); rfl
    rw [hw2] at g3
    simp only [Bool.and_eq_true, decide_eq_true_eq] at g3
    omega
  obtain ⟨gd, gn⟩ := good n0 r0 z
  (first | (apply E_pcallX hE (c_natShr m v hm_ hl_); (case hm => rfl); (case hle => (repeat' (first | exact u_nil | apply u_cons | apply u2_agg | exact u2_int | exact u1_int | exact u2_bool | exact u1_bool | exact u2_sli | exact u1_sli | exact u2_s0 | exact u1_s0))); all_goals (first | (intro x hx; cbv) | (assumption))) | (apply E_callX hE (c_natShr m v hm_ hl_); (case hf => rfl); (case hc => (cbv <;> trivial)); (case hle => (repeat' (first | exact u_nil | apply u_cons | apply u2_agg | exact u2_int | exact u1_int | exact u2_bool | exact u1_bool | exact u2_sli | exact u1_sli | exact u2_s0 | exact u1_s0))); all_goals (first | (intro x hx; cbv) | (assumption))))
  have hx : x = lim (lv m / 2 ^ v.toNat) := hx
  rw [ev] at hx
  have xb := ls x hx
  (first | (apply E_pcallX hE (c_wMake neg x xb.1 xb.2); (case hm => rfl); (case hle => (repeat' (first | exact u_nil | apply u_cons | apply u2_agg | exact u2_int | exact u1_int | exact u2_bool | exact u1_bool | exact u2_sli | exact u1_sli | exact u2_s0 | exact u1_s0))); all_goals (first | (intro y hy; cbv) | (assumption))) | (apply E_callX hE (c_wMake neg x xb.1 xb.2); (case hf => rfl); (case hc => (cbv <;> trivial)); (case hle => (repeat' (first | exact u_nil | apply u_cons | apply u2_agg | exact u2_int | exact u1_int | exact u2_bool | exact u1_bool | exact u2_sli | exact u1_sli | exact u2_s0 | exact u1_s0))); all_goals (first | (intro y hy; cbv) | (assumption))))
  rw [hVn] at hx
  have hy : y = (neg, lim (lv m / 2 ^ v2 (lv m))) := by
    have k : y = (neg && decide (lv x ≠ 0), lim (lv x)) := hy
    rw [k, hx, lv_lim, decide_eq_true gn, Bool.and_true]
  rw [← gd]
  exact ⟨by rw [hy], by rw [hy], ea, trivial⟩

theorem lim2 {m : Int} (h0 : 0 ≤ m) (h1 : m < 18446744073709551616) : Lb [m % 4294967296, m / 4294967296] ∧ lv [m % 4294967296, m / 4294967296] = m.toNat := ⟨rlimbs_lb h0 h1, rlimbs_lv h0⟩
set_option maxHeartbeats 1000000 in
theorem c_Exact (n : Num) (ho : n.ok) : ∃ t : (Bool × List Int × Int) × Bool, t = (dyL n.exact.1, n.exact.2) ∧ CallsA Tryd.prog 6 [n.av] (.tup [.agg [.bool (.s t.1.1), .sli .u32 t.1.2.1, .int .i64 (.s t.1.2.2)], .bool (.s t.2)]) := by
  refine ⟨_, rfl, ?_⟩
  generalize hr : (dyL n.exact.1, n.exact.2) = r
  have bad : (n.may = false ∨ n.kind = 2) → ((false, [], 0), false) = r := by intro h; rw [← hr]; unfold Num.exact; rw [if_pos h]; rfl
  have fin : ¬ (n.may = false ∨ n.kind = 2) → -1048576 ≤ n.e ∧ n.e ≤ 1048576 ∧ ∀ x : Bool × List Int, x = (n.neg && decide (n.m.toNat ≠ 0), lim n.m.toNat) → ∀ t, t = dyL (dyMake x.1 (lv x.2) n.e) → (t, true) = r := by
    intro h
    have mm : n.may = true := by cases q : n.may; exact absurd (.inl q) h; rfl
    rcases Num.may3 mm ho with k | k | k
    · rw [k]
      refine ⟨by decide, by decide, fun x hx t ht => ?_⟩
      rw [ht, hx, ← hr, k]; rfl
    · refine ⟨k.elo, k.ehi, fun x hx t ht => ?_⟩
      have lo := k.lo
      rw [ht, hx, ← hr]
      unfold Num.exact
      rw [if_neg h, if_neg (by rw [k.kind]; decide), decide_eq_true (by omega), Bool.and_true, lv_lim]
    · exfalso; apply h; right; rw [k]; rfl
  have L := lim2 ho.1 ho.2
  have shr : intBinR .shr .u64 n.m 32 = n.m / 4294967296 := by
    show Int.fdiv n.m (2 ^ (min (32 : Int).toNat 64)) = _
    rw [show (2 : Int) ^ (min (32 : Int).toNat 64) = 4294967296 by decide, Int.fdiv_eq_ediv_of_nonneg _ (by decide)]
  have c1 : IntKind.u32.wrap n.m = n.m % 4294967296 := wu32 _
  have c2 : IntKind.u32.wrap (n.m / 4294967296) = n.m / 4294967296 := by rw [wu32]; have := ho.1; have := ho.2; omega
  clear hr
  refine callsA_of hG hm Tryd.func6 (by kernel_rfl) ?_
  intro E hE lp hl
  cbv
  (first | (apply E_pcallX hE (c_May ⟨_, _, _, _⟩); (case hm => rfl); (case hle => (repeat' (first | exact u_nil | apply u_cons | apply u2_agg | exact u2_int | exact u1_int | exact u2_bool | exact u1_bool | exact u2_sli | exact u1_sli | exact u2_s0 | exact u1_s0))); all_goals (first | (intro o ho_; cbv) | (assumption))) | (apply E_callX hE (c_May ⟨_, _, _, _⟩); (case hf => rfl); (case hc => (cbv <;> trivial)); (case hle => (repeat' (first | exact u_nil | apply u_cons | apply u2_agg | exact u2_int | exact u1_int | exact u2_bool | exact u1_bool | exact u2_sli | exact u1_sli | exact u2_s0 | exact u1_s0))); all_goals (first | (intro o ho_; cbv) | (assumption))))
  have ho_ : o = n.may := ho_
  refine E_br hE (fun g1 => ?_) (fun g1 => ?_) <;> cbv
  · rw [← bad (.inl (by rw [← ho_]; subst hE; cases o; rfl; exact absurd g1 (by decide)))]; exact ⟨⟨rfl, rfl, rfl, trivial⟩, rfl, trivial⟩
  have m1 : n.may = true := by rw [← ho_]; subst hE; cases o; exact absurd g1 (by decide); rfl
  refine E_br hE (fun g2 => ?_) (fun g2 => ?_) <;> cbv
  · rw [← bad (.inr (by subst hE; exact eql_t g2))]; exact ⟨⟨rfl, rfl, rfl, trivial⟩, rfl, trivial⟩
  have m2 : ¬ (n.may = false ∨ n.kind = 2) := by
    rintro (z | z)
    · rw [m1] at z; cases z
    · subst hE; exact eql_f g2 z
  obtain ⟨e0, e1, fin⟩ := fin m2
  have el : [E.conv .u32 n.m, E.conv .u32 (E.bin .shr .u64 n.m 32)] = [n.m % 4294967296, n.m / 4294967296] := by
    subst hE
    show [IntKind.u32.wrap n.m, IntKind.u32.wrap (intBinR .shr .u64 n.m 32)] = _
    rw [shr, c1, c2]
  (first | (apply E_pcallX hE (c_wMake n.neg [E.conv .u32 n.m, E.conv .u32 (E.bin .shr .u64 n.m 32)] ?_ ?_); (case hm => rfl); (case hle => (repeat' (first | exact u_nil | apply u_cons | apply u2_agg | exact u2_int | exact u1_int | exact u2_bool | exact u1_bool | exact u2_sli | exact u1_sli | exact u2_s0 | exact u1_s0))); all_goals (first | (intro x hx; cbv) | (first | (rw [el]; exact L.1) | (rw [el]; show 2 ≤ 268435456; decide)))) | (apply E_callX hE (c_wMake n.neg [E.conv .u32 n.m, E.conv .u32 (E.bin .shr .u64 n.m 32)] ?_ ?_); (case hf => rfl); (case hc => (cbv <;> trivial)); (case hle => (repeat' (first | exact u_nil | apply u_cons | apply u2_agg | exact u2_int | exact u1_int | exact u2_bool | exact u1_bool | exact u2_sli | exact u1_sli | exact u2_s0 | exact u1_s0))); all_goals (first | (intro x hx; cbv) | (first | (rw [el]; exact L.1) | (rw [el]; show 2 ≤ 268435456; decide)))))
  have hx : x = (n.neg && decide (n.m.toNat ≠ 0), lim n.m.toNat) := by
    have k : x = (n.neg && decide (lv [E.conv .u32 n.m, E.conv .u32 (E.bin .shr .u64 n.m 32)] ≠ 0), lim (lv [E.conv .u32 n.m, E.conv .u32 (E.bin .shr .u64 n.m 32)])) := hx
    rw [el, L.2] at k; exact k
  have xb : Lb x.2 ∧ x.2.length < 67108864 := by
    rw [hx]
    refine ⟨lim_lb _, ?_⟩
    have := lim_length_le' L.1
    rw [L.2] at this
    exact Nat.lt_of_le_of_lt this (show 2 < 67108864 by decide)
  (first | (apply E_pcallX hE (c_dyMake x.1 x.2 n.e xb.1 xb.2 ?_ ?_); (case hm => rfl); (case hle => (repeat' (first | exact u_nil | apply u_cons | apply u2_agg | exact u2_int | exact u1_int | exact u2_bool | exact u1_bool | exact u2_sli | exact u1_sli | exact u2_s0 | exact u1_s0))); all_goals (first | (intro t ht; cbv) | (first | exact Int.le_trans (by decide) e0 | exact Int.lt_of_le_of_lt e1 (by decide)))) | (apply E_callX hE (c_dyMake x.1 x.2 n.e xb.1 xb.2 ?_ ?_); (case hf => rfl); (case hc => (cbv <;> trivial)); (case hle => (repeat' (first | exact u_nil | apply u_cons | apply u2_agg | exact u2_int | exact u1_int | exact u2_bool | exact u1_bool | exact u2_sli | exact u1_sli | exact u2_s0 | exact u1_s0))); all_goals (first | (intro t ht; cbv) | (first | exact Int.le_trans (by decide) e0 | exact Int.lt_of_le_of_lt e1 (by decide)))))
  rw [← fin x hx t ht]
  exact ⟨⟨rfl, rfl, rfl, trivial⟩, rfl, trivial⟩

end Go.Proofs.YtmdgeaagaljheaaDoor.Ev

/- Contracts of dy.May, fair, Move, Floor: of dyadic numbers as they may be. Printed by gen.py. -/
namespace Go.Proofs.YtmdgeaagaljheaaDoor.Ev
open Go Go.Proofs
set_option linter.unusedVariables false
set_option linter.unusedSimpArgs false

attribute [local irreducible] Lb
/-- a dyadic number, as it may be -/
def DyC (p : Bool × Nat × Int) : Prop := p = (false, 0, 0) ∨ (p.2.1 % 2 = 1 ∧ -4194304 ≤ p.2.2 ∧ p.2.2 ≤ 4194304)
theorem and_one {x : Int} (h0 : 0 ≤ x) (h1 : x < 4294967296) : intBinR .and .u32 x 1 = x % 2 := by
  obtain ⟨n, rfl⟩ := Int.eq_ofNat_of_zero_le h0
  show IntKind.u32.wrap ((BitVec.ofInt IntKind.u32.bits (n : Int) &&& BitVec.ofInt IntKind.u32.bits 1).toNat : Int) = _
  have b1 : (BitVec.ofInt IntKind.u32.bits (n : Int)).toNat = n := by
    show (BitVec.ofInt 32 (n : Int)).toNat = n
    rw [BitVec.ofInt_natCast, BitVec.toNat_ofNat]; omega
  have b2 : (BitVec.ofInt IntKind.u32.bits 1).toNat = 1 := by decide
  rw [BitVec.toNat_and, b1, b2, Nat.and_one_is_mod, wu32]
  omega
theorem lim_top {k : Nat} (h : k ≠ 0) : (lim k).length ≠ 0 ∧ (lim k).getD ((lim k).length - 1) 0 ≠ 0 := by
  have ne : lim k ≠ [] := fun z => h (lim_eq_nil.1 z)
  exact ⟨fun z => ne (List.length_eq_zero_iff.1 z), (lim_cn k).last ne⟩
theorem lim_low {k : Nat} (h : k % 2 = 1) : (lim k).getD 0 0 % 2 = 1 ∧ 0 < (lim k).length := by
  have n0 : k ≠ 0 := by intro z; rw [z] at h; cases h
  have L := lim_lb k
  have V := lv_lim k
  have N := (lim_top n0).1
  match hq : lim k, L, V, N with
  | [], _, _, N => exact absurd rfl N
  | y :: r, L, V, _ =>
    have hy := L.head
    simp only [lv] at V
    refine ⟨?_, Nat.zero_lt_succ _⟩
    show y % 2 = 1
    omega
theorem c_dyMayT (p : Bool × Nat × Int) (hp : DyC p) (x : Bool × List Int × Int) (hx : x = dyL p) (hl_ : x.2.1.length < 4611686018427387904) : ∃ t : Bool, t = true ∧ CallsA Tryd.prog 47 [.agg [.bool (.s x.1), .sli .u32 x.2.1, .int .i64 (.s x.2.2)]] (.bool (.s t)) := by
  refine ⟨_, rfl, ?_⟩
  have z0 : (x.2.1.length : Int) = 0 → x.1 = false ∧ x.2.2 = 0 := by
    intro h
    rcases hp with hp | hp
    · rw [hx, hp]; exact ⟨rfl, rfl⟩
    · exfalso
      have := (lim_low hp.1).2
      rw [hx] at h
      have h : ((lim p.2.1).length : Int) = 0 := h
      omega
  have z1 : ¬ (x.2.1.length : Int) = 0 → wMayB x.1 x.2.1 = true ∧ x.2.1.getD 0 0 % 2 = 1 ∧ 0 ≤ x.2.1.getD 0 0 ∧ x.2.1.getD 0 0 < 4294967296 ∧ (0 : Int) < x.2.1.length ∧ -4194304 ≤ x.2.2 ∧ x.2.2 ≤ 4194304 := by
    intro h
    rcases hp with hp | hp
    · exfalso; apply h; rw [hx, hp]; rfl
    · have n0 : p.2.1 ≠ 0 := by intro z; rw [z] at hp; cases hp.1
      have l1 := lim_top n0
      have l2 := lim_low hp.1
      have l3 := (lim_lb p.2.1).getD 0
      have e : x.2.1 = lim p.2.1 := by rw [hx]; rfl
      have e2 : x.2.2 = p.2.2 := by rw [hx]; rfl
      rw [e, e2]
      refine ⟨?_, l2.1, l3.1, l3.2, by omega, hp.2.1, hp.2.2⟩
      unfold wMayB
      rw [if_neg l1.1, decide_eq_true l1.2]
  refine callsA_of hG hm Tryd.func47 (by kernel_rfl) ?_
  intro E hE lp hl
  cbv
  refine E_br hE (fun g => ?_) (fun g => ?_) <;> cbv
  · have z := z0 (by subst hE; exact eql_t g)
    have b : E.bnot x.1 = true := by rw [z.1]; subst hE; rfl
    refine E_br_t hE b ?_; cbv
    show E.cmp .eql x.2.2 0 = true
    rw [z.2]; subst hE; rfl
  have z := z1 (by subst hE; exact eql_f g)
  (first | (apply E_pcallX hE (c_wMay x.1 x.2.1 hl_); (case hm => rfl); (case hle => (repeat' (first | exact u_nil | apply u_cons | apply u2_agg | exact u2_int | exact u1_int | exact u2_bool | exact u1_bool | exact u2_sli | exact u1_sli | exact u2_s0 | exact u1_s0))); all_goals (first | (intro w hw; cbv) | (assumption))) | (apply E_callX hE (c_wMay x.1 x.2.1 hl_); (case hf => rfl); (case hc => (cbv <;> trivial)); (case hle => (repeat' (first | exact u_nil | apply u_cons | apply u2_agg | exact u2_int | exact u1_int | exact u2_bool | exact u1_bool | exact u2_sli | exact u1_sli | exact u2_s0 | exact u1_s0))); all_goals (first | (intro w hw; cbv) | (assumption))))
  have w1 : w = true := hw.trans z.1
  refine E_br_t hE w1 ?_; cbv
  refine E_br hE (fun b2 => ?_) (fun b2 => ?_) <;> cbv
  · have e : E.cmp .eql (E.bin .and .u32 (E.get x.2.1 0) 1) 1 = true := by
      subst hE
      show decide (intBinR .and .u32 (x.2.1.getD 0 0) 1 = 1) = true
      rw [and_one z.2.2.1 z.2.2.2.1, z.2.1]; rfl
    refine E_br_t hE e ?_; cbv
    (first | (apply E_pcallX hE (c_within _); (case hm => rfl); (case hle => (repeat' (first | exact u_nil | apply u_cons | apply u2_agg | exact u2_int | exact u1_int | exact u2_bool | exact u1_bool | exact u2_sli | exact u1_sli | exact u2_s0 | exact u1_s0))); all_goals (first | (intro v hv; cbv) | (assumption))) | (apply E_callX hE (c_within _); (case hf => rfl); (case hc => (cbv <;> trivial)); (case hle => (repeat' (first | exact u_nil | apply u_cons | apply u2_agg | exact u2_int | exact u1_int | exact u2_bool | exact u1_bool | exact u2_sli | exact u1_sli | exact u2_s0 | exact u1_s0))); all_goals (first | (intro v hv; cbv) | (assumption))))
    rw [hv]
    show (decide (-4194304 ≤ x.2.2) && decide (x.2.2 ≤ 4194304)) = true
    rw [decide_eq_true z.2.2.2.2.2.1, decide_eq_true z.2.2.2.2.2.2]; rfl
  · exfalso
    subst hE
    exact lss_f b2 z.2.2.2.2.1
theorem c_dyFair (p : Bool × Nat × Int) (hp : DyC p) (x : Bool × List Int × Int) (hx : x = dyL p) (hl_ : x.2.1.length < 4611686018427387904) : ∃ t : Bool × List Int × Int, t = x ∧ CallsA Tryd.prog 26 [.agg [.bool (.s x.1), .sli .u32 x.2.1, .int .i64 (.s x.2.2)]] (.agg [.bool (.s t.1), .sli .u32 t.2.1, .int .i64 (.s t.2.2)]) := by
  refine ⟨_, rfl, ?_⟩
  refine callsA_of hG hm Tryd.func26 (by kernel_rfl) ?_
  intro E hE lp hl
  cbv
  (first | (apply E_pcallX hE (c_dyMayT p hp x hx hl_); (case hm => rfl); (case hle => (repeat' (first | exact u_nil | apply u_cons | apply u2_agg | exact u2_int | exact u1_int | exact u2_bool | exact u1_bool | exact u2_sli | exact u1_sli | exact u2_s0 | exact u1_s0))); all_goals (first | (intro w hw; cbv) | (assumption))) | (apply E_callX hE (c_dyMayT p hp x hx hl_); (case hf => rfl); (case hc => (cbv <;> trivial)); (case hle => (repeat' (first | exact u_nil | apply u_cons | apply u2_agg | exact u2_int | exact u1_int | exact u2_bool | exact u1_bool | exact u2_sli | exact u1_sli | exact u2_s0 | exact u1_s0))); all_goals (first | (intro w hw; cbv) | (assumption))))
  refine E_br_t hE hw ?_; cbv
theorem shl_len {k L n : Nat} (h : (lim k).length ≤ L) : (lim (k * 2 ^ n)).length ≤ L + (n / 32 + 1) := by
  refine lim_length_le ?_
  have a := lv_lt (lim_lb k)
  rw [lv_lim] at a
  have b : 2 ^ n ≤ 4294967296 ^ (n / 32 + 1) := by
    rw [show (4294967296 : Nat) = 2 ^ 32 by rfl, ← Nat.pow_mul]
    exact Nat.pow_le_pow_right (by decide) (by omega)
  have c : 4294967296 ^ (lim k).length ≤ 4294967296 ^ L := Nat.pow_le_pow_right (by decide) h
  rw [Nat.pow_add]
  exact Nat.mul_lt_mul_of_lt_of_le' (Nat.lt_of_lt_of_le a c) b (Nat.two_pow_pos n)
end Go.Proofs.YtmdgeaagaljheaaDoor.Ev

/- Fixed numbers: what a number times 2^192, rounded down, is: plain Lean. -/
namespace Go.Proofs.YtmdgeaagaljheaaDoor.Ev
open Go
set_option linter.unusedVariables false
set_option linter.unusedSimpArgs false

end Go.Proofs.YtmdgeaagaljheaaDoor.Ev

/- Exact sums, differences and products of dyadic numbers, by their values: plain Lean. -/
namespace Go.Proofs.YtmdgeaagaljheaaDoor.Ev
open Go
set_option linter.unusedVariables false
set_option linter.unusedSimpArgs false

/-- a dyadic number of a value, its bits between two places -/
structure DyV (B : Nat) (p : Bool × Nat × Int) (t : Int) : Prop where
  odd : p = (false, 0, 0) ∨ p.2.1 % 2 = 1
  lo : -(B : Int) ≤ p.2.2
  hi : p.2.2 + blen (p.2.1 : Int) ≤ B
  val : dyv p = t

theorem DyV.c {B : Nat} {p : Bool × Nat × Int} {t : Int} (h : DyV B p t) (hB : B ≤ 4000000) : DyC p := by
  have lo := h.lo
  have hi := h.hi
  have b := blen_nonneg (p.2.1 : Int)
  rcases h.odd with k | k
  · exact .inl k
  · exact .inr ⟨k, by omega, by omega⟩
theorem lim_blen (k : Nat) : (lim k).length ≤ (blen (k : Int)).toNat / 32 + 1 := by
  refine lim_length_le ?_
  have a := blen_lt (n := k)
  have b : 2 ^ (blen (k : Int)).toNat ≤ 4294967296 ^ ((blen (k : Int)).toNat / 32 + 1) := by
    rw [show (4294967296 : Nat) = 2 ^ 32 by rfl, ← Nat.pow_mul]
    exact Nat.pow_le_pow_right (by decide) (by omega)
  omega
theorem DyV.len {B : Nat} {p : Bool × Nat × Int} {t : Int} (h : DyV B p t) (hB : B ≤ 4000000) : (dyL p).2.1.length ≤ 250001 := by
  have lo := h.lo
  have hi := h.hi
  have b := lim_blen p.2.1
  show (lim p.2.1).length ≤ _
  omega
theorem DyV.mono {A B : Nat} {p : Bool × Nat × Int} {t : Int} (h : DyV A p t) (hB : A ≤ B) : DyV B p t :=
  ⟨h.odd, by have := h.lo; omega, by have := h.hi; omega, h.val⟩
theorem DyV.of {p : Bool × Nat × Int} {t : Int} (h : Dy p t) : DyV 1048704 p t := by
  refine ⟨h.odd, by have := h.lo; omega, ?_, h.val⟩
  have hi := h.hi
  have lt := h.lt
  have := blen_le (x := (p.2.1 : Int)) 64 (by have : (p.2.1 : Int) < 18446744073709551616 := by omega
                                              exact this)
  show p.2.2 + blen (p.2.1 : Int) ≤ 1048704
  omega
/-- a whole number times a power of two -/
def dyZ (z : Int) (e : Int) : Bool × Nat × Int := dyMake (decide (z < 0)) z.natAbs e
theorem dyZ_val {B : Nat} {z e : Int} (hB : B ≤ 4000000) (he : -(B : Int) ≤ e) (hz : (z.natAbs : Int) < 2 ^ (B - e).toNat) (heB : e ≤ B) : DyV B (dyZ z e) (z * pw e) := by
  by_cases h : z = 0
  · subst h
    have : dyZ 0 e = (false, 0, 0) := by unfold dyZ; exact dyMake_zero _ _
    rw [this]
    exact ⟨.inl rfl, by show -(B : Int) ≤ 0; omega, by show (0 : Int) + blen 0 ≤ B; rw [blen_zero]; omega, by simp [dyv]⟩
  · have bl := blen_le _ hz
    have v := v2_blen (k := z.natAbs) (by omega)
    have d := dyMake_val (ng := decide (z < 0)) (k := z.natAbs) (e := e) (by omega) (by omega) (by omega)
    obtain ⟨d1, d2, d3, d4, d5, d6⟩ := d
    refine ⟨.inr d1, by unfold dyZ; omega, by unfold dyZ; omega, ?_⟩
    unfold dyv dyZ
    rw [d2, d5]
    split
    · rename_i g
      have g : z < 0 := of_decide_eq_true g
      rw [← Int.neg_mul]; congr 1; omega
    · rename_i g
      have g : ¬ z < 0 := fun k => g (decide_eq_true k)
      congr 1; omega
/-- the sum of two -/
def dySum (p q : Bool × Nat × Int) : Bool × Nat × Int :=
  if p.2.1 = 0 then q else if q.2.1 = 0 then p else if q.2.2 < p.2.2 then dyZ (sv q.1 q.2.1 + sv p.1 (p.2.1 * 2 ^ (p.2.2 - q.2.2).toNat)) q.2.2
    else dyZ (sv p.1 p.2.1 + sv q.1 (q.2.1 * 2 ^ (q.2.2 - p.2.2).toNat)) p.2.2
theorem sv_abs (n : Bool) (k : Nat) : (sv n k).natAbs = k := by unfold sv; split <;> omega
theorem align_val {B : Nat} {p q : Bool × Nat × Int} {t u : Int} (hB : B ≤ 3999999) (hp : DyV B p t) (hq : DyV B q u) (he : p.2.2 ≤ q.2.2) :
    DyV (B + 1) (dyZ (sv p.1 p.2.1 + sv q.1 (q.2.1 * 2 ^ (q.2.2 - p.2.2).toNat)) p.2.2) (t + u) := by
  have plo := hp.lo
  have phi := hp.hi
  have qhi := hq.hi
  have pb := blen_nonneg (p.2.1 : Int)
  have qb := blen_nonneg (q.2.1 : Int)
  have e1 := pw_add (e := p.2.2) (f := q.2.2 - p.2.2) (by omega) (by omega)
  rw [show p.2.2 + (q.2.2 - p.2.2) = q.2.2 by omega] at e1
  have ev : (sv p.1 p.2.1 + sv q.1 (q.2.1 * 2 ^ (q.2.2 - p.2.2).toNat)) * pw p.2.2 = t + u := by
    rw [← hp.val, ← hq.val, dyv_sv, dyv_sv, Int.add_mul]
    congr 1
    rw [e1]
    unfold sv
    split
    · rw [Int.natCast_mul, Int.natCast_pow, Int.neg_mul, Int.neg_mul, Int.mul_assoc, Int.mul_comm (pw p.2.2)]; rfl
    · rw [Int.natCast_mul, Int.natCast_pow, Int.mul_assoc, Int.mul_comm (pw p.2.2)]; rfl
  rw [← ev]
  refine dyZ_val (by omega) (by omega) ?_ (by omega)
  have a := blen_lt (n := p.2.1)
  have b := blen_lt (n := q.2.1)
  obtain ⟨D, hD⟩ : ∃ D : Nat, (B : Int) - p.2.2 = D := ⟨((B : Int) - p.2.2).toNat, by omega⟩
  have a2 : 2 ^ (blen (p.2.1 : Int)).toNat ≤ 2 ^ D := Nat.pow_le_pow_right (by decide) (by omega)
  have b2 : 2 ^ (blen (q.2.1 : Int)).toNat * 2 ^ (q.2.2 - p.2.2).toNat ≤ 2 ^ D := by
    rw [← Nat.pow_add]; exact Nat.pow_le_pow_right (by decide) (by omega)
  have b3 : q.2.1 * 2 ^ (q.2.2 - p.2.2).toNat < 2 ^ D := Nat.lt_of_lt_of_le (Nat.mul_lt_mul_of_pos_right b (Nat.two_pow_pos _)) b2
  have s := Int.natAbs_add_le (sv p.1 p.2.1) (sv q.1 (q.2.1 * 2 ^ (q.2.2 - p.2.2).toNat))
  rw [sv_abs, sv_abs] at s
  have f : (sv p.1 p.2.1 + sv q.1 (q.2.1 * 2 ^ (q.2.2 - p.2.2).toNat)).natAbs < 2 ^ (D + 1) := by rw [Nat.pow_succ]; omega
  have g : (((B + 1 : Nat) : Int) - p.2.2).toNat = D + 1 := by omega
  rw [g]
  have := Int.ofNat_lt.2 f
  rw [Int.natCast_pow] at this
  exact this
theorem DyV.zero {B : Nat} {p : Bool × Nat × Int} {t : Int} (h : DyV B p t) (z : p.2.1 = 0) : t = 0 := by
  rcases h.odd with k | k
  · rw [← h.val, k]; simp [dyv]
  · rw [z] at k; cases k
theorem dySum_val {B : Nat} {p q : Bool × Nat × Int} {t u : Int} (hB : B ≤ 3999999) (hp : DyV B p t) (hq : DyV B q u) : DyV (B + 1) (dySum p q) (t + u) := by
  unfold dySum
  split
  · rename_i z
    rw [hp.zero z, Int.zero_add]
    exact hq.mono (by omega)
  · split
    · rename_i z
      rw [hq.zero z, Int.add_zero]
      exact hp.mono (by omega)
    · split
      · rw [Int.add_comm t u]
        exact align_val hB hq hp (by omega)
      · exact align_val hB hp hq (by omega)
/-- the opposite of one -/
def dyOpp (p : Bool × Nat × Int) : Bool × Nat × Int := (!p.1 && decide (p.2.1 ≠ 0), p.2.1, p.2.2)
theorem dyOpp_val {B : Nat} {p : Bool × Nat × Int} {t : Int} (hp : DyV B p t) : DyV B (dyOpp p) (-t) := by
  refine ⟨?_, hp.lo, hp.hi, ?_⟩
  · rcases hp.odd with k | k
    · left; rw [k]; rfl
    · exact .inr k
  · rw [← hp.val]
    by_cases z : p.2.1 = 0
    · simp [dyv, dyOpp, z]
    · unfold dyv dyOpp
      dsimp only
      rw [decide_eq_true z, Bool.and_true]
      cases p.1 <;> simp
theorem dyMake_self {p : Bool × Nat × Int} (h : DyC p) : dyMake p.1 p.2.1 p.2.2 = p := by
  rcases h with k | k
  · rw [k]; exact dyMake_zero _ _
  · exact dyMake_odd k.1 k.2.1 k.2.2
/-- the sign of one is that of its value -/
theorem dyv_sign {p : Bool × Nat × Int} {B : Nat} {t : Int} (hp : DyV B p t) : (if p.2.1 = 0 then 0 else if p.1 then -1 else 1 : Int) = if t < 0 then -1 else if 0 < t then 1 else 0 := by
  have pe := pw_pos p.2.2
  split
  · rename_i z; rw [hp.zero z]; rfl
  · rename_i z
    have m : 0 < (p.2.1 : Int) * pw p.2.2 := Int.mul_pos (by omega) pe
    have v := hp.val
    unfold dyv at v
    split
    · rename_i g
      rw [if_pos g] at v
      rw [if_pos (by omega)]
    · rename_i g
      rw [if_neg g] at v
      rw [if_neg (by omega), if_pos (by omega)]
/-- the product of two -/
theorem dyProd_val {A B : Nat} {p q : Bool × Nat × Int} {t u : Int} (hA : A + B ≤ 4000000) (hp : DyV A p t) (hq : DyV B q u) :
    ∃ v, DyV (A + B) (dyMake ((p.1 != q.1) && decide (p.2.1 * q.2.1 ≠ 0)) (p.2.1 * q.2.1) (p.2.2 + q.2.2)) v ∧ v * pw 0 = t * u := by
  have plo := hp.lo
  have phi := hp.hi
  have qlo := hq.lo
  have qhi := hq.hi
  have pb := blen_nonneg (p.2.1 : Int)
  have qb := blen_nonneg (q.2.1 : Int)
  refine ⟨sv p.1 p.2.1 * sv q.1 q.2.1 * pw (p.2.2 + q.2.2), ?_, ?_⟩
  · have e : dyMake ((p.1 != q.1) && decide (p.2.1 * q.2.1 ≠ 0)) (p.2.1 * q.2.1) (p.2.2 + q.2.2) = dyZ (sv p.1 p.2.1 * sv q.1 q.2.1) (p.2.2 + q.2.2) := by
      unfold dyZ
      rw [Int.natAbs_mul, sv_abs, sv_abs]
      congr 1
      by_cases z1 : p.2.1 = 0
      · simp [z1, sv]
      · by_cases z2 : q.2.1 = 0
        · simp [z2, sv]
        · have z3 : p.2.1 * q.2.1 ≠ 0 := Nat.mul_ne_zero z1 z2
          have z4 : (0 : Int) < (p.2.1 : Int) * q.2.1 := Int.mul_pos (by omega) (by omega)
          rw [decide_eq_true z3, Bool.and_true]
          unfold sv
          cases p.1 <;> cases q.1 <;> simp [Int.neg_mul, Int.mul_neg] <;> omega
    rw [e]
    refine dyZ_val hA (by omega) ?_ (by omega)
    rw [Int.natAbs_mul, sv_abs, sv_abs]
    have a := blen_lt (n := p.2.1)
    have b := blen_lt (n := q.2.1)
    have c : p.2.1 * q.2.1 < 2 ^ (((A + B : Nat) : Int) - (p.2.2 + q.2.2)).toNat := by
      refine Nat.lt_of_lt_of_le (Nat.mul_lt_mul'' a b) ?_
      rw [← Nat.pow_add]
      exact Nat.pow_le_pow_right (by decide) (by omega)
    have := Int.ofNat_lt.2 c
    rw [Int.natCast_pow] at this
    exact this
  · rw [← hp.val, ← hq.val, dyv_sv, dyv_sv]
    have m := pw_mul (e := p.2.2) (f := q.2.2) (by omega) (by omega) (by omega)
    have e1 : sv p.1 p.2.1 * pw p.2.2 * (sv q.1 q.2.1 * pw q.2.2) = sv p.1 p.2.1 * sv q.1 q.2.1 * (pw p.2.2 * pw q.2.2) := by
      simp only [Int.mul_assoc, Int.mul_comm, Int.mul_left_comm]
    rw [e1, m]
    simp only [Int.mul_assoc, Int.mul_comm, Int.mul_left_comm]
end Go.Proofs.YtmdgeaagaljheaaDoor.Ev

/- Contracts of dy.Neg, Sign, add, Add, Sub, Cmp, Mul: by the values of dyadic numbers. Printed by gen.py. -/
namespace Go.Proofs.YtmdgeaagaljheaaDoor.Ev
open Go Go.Proofs
set_option linter.unusedVariables false
set_option linter.unusedSimpArgs false

attribute [local irreducible] Lb
abbrev DyT := Bool × List Int × Int
theorem c_dyNeg (B : Nat) (hB : B ≤ 4000000) (p : Bool × Nat × Int) (v : Int) (hp : DyV B p v) (x : DyT) (hx : x = dyL p) :
    ∃ t : DyT, t = dyL (dyOpp p) ∧ CallsA Tryd.prog 46 [.agg [.bool (.s x.1), .sli .u32 x.2.1, .int .i64 (.s x.2.2)]] (.agg [.bool (.s t.1), .sli .u32 t.2.1, .int .i64 (.s t.2.2)]) := by
  refine ⟨_, rfl, ?_⟩
  generalize hr : dyL (dyOpp p) = r
  have xl := hp.len hB
  rw [← hx] at xl
  have xl1 : x.2.1.length ≤ 268435456 := by omega
  have x1 : x.1 = p.1 := by rw [hx]; rfl
  have x2 : x.2.1 = lim p.2.1 := by rw [hx]; rfl
  have x3 : x.2.2 = p.2.2 := by rw [hx]; rfl
  have xb : Lb x.2.1 := by rw [x2]; exact lim_lb _
  have C := hp.c hB
  have e0 : -4194304 ≤ p.2.2 ∧ p.2.2 ≤ 4194304 := by rcases C with k | k; rw [k]; exact ⟨by decide, by decide⟩; exact k.2
  have fin : ∀ u : Bool × List Int, u = (!x.1 && decide (lv x.2.1 ≠ 0), lim (lv x.2.1)) → Lb u.2 ∧ u.2.length < 67108864 ∧ dyL (dyMake u.1 (lv u.2) x.2.2) = r := by
    intro u hu
    rw [x1, x2, lv_lim] at hu
    have e : u.2 = lim p.2.1 := by rw [hu]
    rw [e]
    refine ⟨lim_lb _, by rw [← x2]; omega, ?_⟩
    rw [lv_lim, hu, x3, ← hr]
    exact congrArg dyL (dyMake_self ((dyOpp_val hp).c hB))
  refine callsA_of hG hm Tryd.func46 (by kernel_rfl) ?_
  intro E hE lp hl
  cbv
  (first | (apply E_pcallX hE (c_wNeg x.1 x.2.1 xb xl1); (case hm => rfl); (case hle => (repeat' (first | exact u_nil | apply u_cons | apply u2_agg | exact u2_int | exact u1_int | exact u2_bool | exact u1_bool | exact u2_sli | exact u1_sli | exact u2_s0 | exact u1_s0))); all_goals (first | (intro u hu; cbv) | (assumption))) | (apply E_callX hE (c_wNeg x.1 x.2.1 xb xl1); (case hf => rfl); (case hc => (cbv <;> trivial)); (case hle => (repeat' (first | exact u_nil | apply u_cons | apply u2_agg | exact u2_int | exact u1_int | exact u2_bool | exact u1_bool | exact u2_sli | exact u1_sli | exact u2_s0 | exact u1_s0))); all_goals (first | (intro u hu; cbv) | (assumption))))
  have F := fin u hu
  (first | (apply E_pcallX hE (c_dyMake u.1 u.2 x.2.2 F.1 F.2.1 ?_ ?_); (case hm => rfl); (case hle => (repeat' (first | exact u_nil | apply u_cons | apply u2_agg | exact u2_int | exact u1_int | exact u2_bool | exact u1_bool | exact u2_sli | exact u1_sli | exact u2_s0 | exact u1_s0))); all_goals (first | (intro t ht; cbv) | ((rw [x3]; omega)))) | (apply E_callX hE (c_dyMake u.1 u.2 x.2.2 F.1 F.2.1 ?_ ?_); (case hf => rfl); (case hc => (cbv <;> trivial)); (case hle => (repeat' (first | exact u_nil | apply u_cons | apply u2_agg | exact u2_int | exact u1_int | exact u2_bool | exact u1_bool | exact u2_sli | exact u1_sli | exact u2_s0 | exact u1_s0))); all_goals (first | (intro t ht; cbv) | ((rw [x3]; omega)))))
  rw [← F.2.2, ← ht]; exact ⟨rfl, rfl, rfl, trivial⟩
theorem c_dySign (B : Nat) (hB : B ≤ 4000000) (p : Bool × Nat × Int) (v : Int) (hp : DyV B p v) (x : DyT) (hx : x = dyL p) :
    ∃ t : Int, t = (if v < 0 then -1 else if 0 < v then 1 else 0) ∧ CallsA Tryd.prog 24 [.agg [.bool (.s x.1), .sli .u32 x.2.1, .int .i64 (.s x.2.2)]] (.int .i64 (.s t)) := by
  refine ⟨_, rfl, ?_⟩
  generalize hr : (if v < 0 then -1 else if 0 < v then 1 else 0 : Int) = r
  rw [← dyv_sign hp] at hr
  have xl := hp.len hB
  rw [← hx] at xl
  have xl2 : x.2.1.length < 4611686018427387904 := by omega
  have C := hp.c hB
  have x1 : x.1 = p.1 := by rw [hx]; rfl
  have x2 : x.2.1 = lim p.2.1 := by rw [hx]; rfl
  refine callsA_of hG hm Tryd.func24 (by kernel_rfl) ?_
  intro E hE lp hl
  cbv
  (first | (apply E_pcallX hE (c_dyFair p C x hx xl2); (case hm => rfl); (case hle => (repeat' (first | exact u_nil | apply u_cons | apply u2_agg | exact u2_int | exact u1_int | exact u2_bool | exact u1_bool | exact u2_sli | exact u1_sli | exact u2_s0 | exact u1_s0))); all_goals (first | (intro y hy; cbv) | (assumption))) | (apply E_callX hE (c_dyFair p C x hx xl2); (case hf => rfl); (case hc => (cbv <;> trivial)); (case hle => (repeat' (first | exact u_nil | apply u_cons | apply u2_agg | exact u2_int | exact u1_int | exact u2_bool | exact u1_bool | exact u2_sli | exact u1_sli | exact u2_s0 | exact u1_s0))); all_goals (first | (intro y hy; cbv) | (assumption))))
  have yb : Lb y.2.1 ∧ y.2.1.length < 67108864 := by rw [hy]; exact ⟨by rw [x2]; exact lim_lb _, Nat.lt_of_le_of_lt xl (by decide)⟩
  (first | (apply E_pcallX hE (c_wSign y.1 y.2.1 yb.1 yb.2); (case hm => rfl); (case hle => (repeat' (first | exact u_nil | apply u_cons | apply u2_agg | exact u2_int | exact u1_int | exact u2_bool | exact u1_bool | exact u2_sli | exact u1_sli | exact u2_s0 | exact u1_s0))); all_goals (first | (intro s hs; cbv) | (assumption))) | (apply E_callX hE (c_wSign y.1 y.2.1 yb.1 yb.2); (case hf => rfl); (case hc => (cbv <;> trivial)); (case hle => (repeat' (first | exact u_nil | apply u_cons | apply u2_agg | exact u2_int | exact u1_int | exact u2_bool | exact u1_bool | exact u2_sli | exact u1_sli | exact u2_s0 | exact u1_s0))); all_goals (first | (intro s hs; cbv) | (assumption))))
  (try (refine E_nm hE (fun s1 hs1 => ?_); cbv))
  have k : s = r := by
    have k : s = (if lv y.2.1 = 0 then 0 else if y.1 then -1 else 1) := hs
    rw [k, hy, x1, x2, lv_lim, hr]
  first | exact k | exact hs1.trans k
set_option maxHeartbeats 2000000 in
theorem c_dyadd (B : Nat) (hB : B ≤ 3999999) (p q : Bool × Nat × Int) (v w : Int) (hp : DyV B p v) (hq : DyV B q w) (x y : DyT) (hx : x = dyL p) (hy : y = dyL q) :
    ∃ t : DyT, t = dyL (dySum p q) ∧ CallsA Tryd.prog 63 [.agg [.bool (.s x.1), .sli .u32 x.2.1, .int .i64 (.s x.2.2)], .agg [.bool (.s y.1), .sli .u32 y.2.1, .int .i64 (.s y.2.2)]] (.agg [.bool (.s t.1), .sli .u32 t.2.1, .int .i64 (.s t.2.2)]) := by
  refine ⟨_, rfl, ?_⟩
  generalize hr : dyL (dySum p q) = r
  have xl := hp.len (by omega)
  rw [← hx] at xl
  have yl := hq.len (by omega)
  rw [← hy] at yl
  have x1 : x.1 = p.1 := by rw [hx]; rfl
  have x2 : x.2.1 = lim p.2.1 := by rw [hx]; rfl
  have x3 : x.2.2 = p.2.2 := by rw [hx]; rfl
  have y1 : y.1 = q.1 := by rw [hy]; rfl
  have y2 : y.2.1 = lim q.2.1 := by rw [hy]; rfl
  have y3 : y.2.2 = q.2.2 := by rw [hy]; rfl
  have xb : Lb x.2.1 := by rw [x2]; exact lim_lb _
  have yb : Lb y.2.1 := by rw [y2]; exact lim_lb _
  have plo := hp.lo
  have phi := hp.hi
  have qlo := hq.lo
  have qhi := hq.hi
  have pbl := blen_nonneg (p.2.1 : Int)
  have qbl := blen_nonneg (q.2.1 : Int)
  have z1 : (x.2.1.length : Int) = 0 ↔ p.2.1 = 0 := by
    rw [x2]
    exact ⟨fun h => lim_eq_nil.1 (List.length_eq_zero_iff.1 (by omega)), fun h => by rw [h]; rfl⟩
  have z2 : (y.2.1.length : Int) = 0 ↔ q.2.1 = 0 := by
    rw [y2]
    exact ⟨fun h => lim_eq_nil.1 (List.length_eq_zero_iff.1 (by omega)), fun h => by rw [h]; rfl⟩
  have r1 : p.2.1 = 0 → y = r := by intro h; rw [← hr]; unfold dySum; rw [if_pos h, hy]
  have r2 : p.2.1 ≠ 0 → q.2.1 = 0 → x = r := by intro h g; rw [← hr]; unfold dySum; rw [if_neg h, if_pos g, hx]
  have step : ∀ (a b : Bool × Nat × Int) (α β : DyT), α = dyL a → β = dyL b → α.2.1.length ≤ 250001 → β.2.1.length ≤ 250001 → a.2.2 ≤ b.2.2 → b.2.2 - a.2.2 ≤ 8000000 →
      dyL (dyZ (sv a.1 a.2.1 + sv b.1 (b.2.1 * 2 ^ (b.2.2 - a.2.2).toNat)) a.2.2) = r → ∀ u, u = (if b.2.2 - a.2.2 < 1 then lim (lv β.2.1) else if 16777216 < b.2.2 - a.2.2 then [] else lim (lv β.2.1 * 2 ^ (b.2.2 - a.2.2).toNat)) →
      Lb u ∧ u.length < 134217728 ∧ ∀ z : Bool × List Int, z = whN (wv α.1 α.2.1 + wv β.1 u) → Lb z.2 ∧ z.2.length < 67108864 ∧ dyL (dyMake z.1 (lv z.2) a.2.2) = r := by
    intro a b α β hα hβ lα lβ hle hd hr u hu
    have b2 : β.2.1 = lim b.2.1 := by rw [hβ]; rfl
    have hu : u = lim (b.2.1 * 2 ^ (b.2.2 - a.2.2).toNat) := by
      rw [hu, b2, lv_lim]
      split
      · rw [show (b.2.2 - a.2.2).toNat = 0 by omega, Nat.pow_zero, Nat.mul_one]
      · rw [if_neg (by omega)]
    have ul := shl_len (k := b.2.1) (L := 250001) (n := (b.2.2 - a.2.2).toNat) (by rw [← b2]; exact lβ)
    refine ⟨by rw [hu]; exact lim_lb _, by rw [hu]; omega, fun z hz => ?_⟩
    have e : wv α.1 α.2.1 + wv β.1 u = sv a.1 a.2.1 + sv b.1 (b.2.1 * 2 ^ (b.2.2 - a.2.2).toNat) := by
      rw [hu, hα, hβ]
      unfold wv sv dyL
      dsimp only
      rw [lv_lim, lv_lim]
    have zl : (whN (wv α.1 α.2.1 + wv β.1 u)).2.length ≤ 600000 := by
      rw [e]
      refine whN_len ?_
      have a2 : α.2.1 = lim a.2.1 := by rw [hα]; rfl
      have s := Int.natAbs_add_le (sv a.1 a.2.1) (sv b.1 (b.2.1 * 2 ^ (b.2.2 - a.2.2).toNat))
      rw [sv_abs, sv_abs] at s
      have k1 := lv_lt (lim_lb a.2.1)
      have k2 := lv_lt (lim_lb (b.2.1 * 2 ^ (b.2.2 - a.2.2).toNat))
      rw [lv_lim] at k1 k2
      rw [← a2] at k1
      obtain ⟨M, hM⟩ : ∃ M : Nat, M = 599999 := ⟨_, rfl⟩
      have m1 : (4294967296 : Nat) ^ α.2.1.length ≤ 4294967296 ^ M := Nat.pow_le_pow_right (by decide) (by omega)
      have m2 : (4294967296 : Nat) ^ (lim (b.2.1 * 2 ^ (b.2.2 - a.2.2).toNat)).length ≤ 4294967296 ^ M := Nat.pow_le_pow_right (by decide) (by omega)
      rw [show (600000 : Nat) = M + 1 by omega, Nat.pow_succ]
      have : 0 < 4294967296 ^ M := Nat.pow_pos (by decide)
      omega
    refine ⟨by rw [hz]; exact whN_lb _, by rw [hz]; omega, ?_⟩
    rw [hz, e, ← hr]
    unfold dyZ whN
    dsimp only
    rw [lv_lim]
  have sw : p.2.1 ≠ 0 → q.2.1 ≠ 0 → q.2.2 < p.2.2 → dyL (dyZ (sv q.1 q.2.1 + sv p.1 (p.2.1 * 2 ^ (p.2.2 - q.2.2).toNat)) q.2.2) = r := by
    intro h g k; rw [← hr]; unfold dySum; rw [if_neg h, if_neg g, if_pos k]
  have ns : p.2.1 ≠ 0 → q.2.1 ≠ 0 → ¬ q.2.2 < p.2.2 → dyL (dyZ (sv p.1 p.2.1 + sv q.1 (q.2.1 * 2 ^ (q.2.2 - p.2.2).toNat)) p.2.2) = r := by
    intro h g k; rw [← hr]; unfold dySum; rw [if_neg h, if_neg g, if_neg k]
  have S1 := fun h g (k : q.2.2 < p.2.2) => step q p y x hy hx yl xl (by omega) (by omega) (sw h g k)
  have S2 := fun h g (k : ¬ q.2.2 < p.2.2) => step p q x y hx hy xl yl (by omega) (by omega) (ns h g k)
  have xl2 : x.2.1.length < 67108864 := by omega
  have yl2 : y.2.1.length < 67108864 := by omega
  have xl3 : x.2.1.length < 134217728 := by omega
  have yl3 : y.2.1.length < 134217728 := by omega
  have pr : -4194304 ≤ p.2.2 ∧ p.2.2 ≤ 4194304 := by omega
  have qr : -4194304 ≤ q.2.2 ∧ q.2.2 ≤ 4194304 := by omega
  clear step sw ns hr
  refine callsA_of hG hm Tryd.func63 (by kernel_rfl) ?_
  intro E hE lp hl
  cbv
  refine E_br hE (fun g => ?_) (fun g => ?_) <;> cbv
  · rw [← r1 (z1.1 (by subst hE; exact eql_t g))]; exact ⟨rfl, rfl, rfl, trivial⟩
  have n1 : p.2.1 ≠ 0 := fun h => by subst hE; exact eql_f g (z1.2 h)
  refine E_br hE (fun g2 => ?_) (fun g2 => ?_) <;> cbv
  · rw [← r2 n1 (z2.1 (by subst hE; exact eql_t g2))]; exact ⟨rfl, rfl, rfl, trivial⟩
  have n2 : q.2.1 ≠ 0 := fun h => by subst hE; exact eql_f g2 (z2.2 h)
  refine E_br hE (fun g3 => ?_) (fun g3 => ?_) <;> cbv
  · have k : q.2.2 < p.2.2 := by rw [← x3, ← y3]; subst hE; exact gtr_t g3
    have es : E.bin .sub .i64 x.2.2 y.2.2 = p.2.2 - q.2.2 := by rw [x3, y3]; subst hE; show IntKind.i64.wrap (p.2.2 - q.2.2) = _; exact wi64_in (by omega) (by omega)
    (first | (apply E_pcallX hE (c_natShl x.2.1 (E.bin .sub .i64 x.2.2 y.2.2) xb xl2); (case hm => rfl); (case hle => (repeat' (first | exact u_nil | apply u_cons | apply u2_agg | exact u2_int | exact u1_int | exact u2_bool | exact u1_bool | exact u2_sli | exact u1_sli | exact u2_s0 | exact u1_s0))); all_goals (first | (intro u hu; cbv) | (assumption))) | (apply E_callX hE (c_natShl x.2.1 (E.bin .sub .i64 x.2.2 y.2.2) xb xl2); (case hf => rfl); (case hc => (cbv <;> trivial)); (case hle => (repeat' (first | exact u_nil | apply u_cons | apply u2_agg | exact u2_int | exact u1_int | exact u2_bool | exact u1_bool | exact u2_sli | exact u1_sli | exact u2_s0 | exact u1_s0))); all_goals (first | (intro u hu; cbv) | (assumption))))
    rw [es] at hu
    have U := S1 n1 n2 k u hu
    (first | (apply E_pcallX hE (c_wAdd y.1 y.2.1 x.1 u yb U.1 yl3 U.2.1); (case hm => rfl); (case hle => (repeat' (first | exact u_nil | apply u_cons | apply u2_agg | exact u2_int | exact u1_int | exact u2_bool | exact u1_bool | exact u2_sli | exact u1_sli | exact u2_s0 | exact u1_s0))); all_goals (first | (intro z hz; cbv) | (assumption))) | (apply E_callX hE (c_wAdd y.1 y.2.1 x.1 u yb U.1 yl3 U.2.1); (case hf => rfl); (case hc => (cbv <;> trivial)); (case hle => (repeat' (first | exact u_nil | apply u_cons | apply u2_agg | exact u2_int | exact u1_int | exact u2_bool | exact u1_bool | exact u2_sli | exact u1_sli | exact u2_s0 | exact u1_s0))); all_goals (first | (intro z hz; cbv) | (assumption))))
    have Z := U.2.2 z hz
    (first | (apply E_pcallX hE (c_dyMake z.1 z.2 y.2.2 Z.1 Z.2.1 ?_ ?_); (case hm => rfl); (case hle => (repeat' (first | exact u_nil | apply u_cons | apply u2_agg | exact u2_int | exact u1_int | exact u2_bool | exact u1_bool | exact u2_sli | exact u1_sli | exact u2_s0 | exact u1_s0))); all_goals (first | (intro t ht; cbv) | ((rw [y3]; omega)))) | (apply E_callX hE (c_dyMake z.1 z.2 y.2.2 Z.1 Z.2.1 ?_ ?_); (case hf => rfl); (case hc => (cbv <;> trivial)); (case hle => (repeat' (first | exact u_nil | apply u_cons | apply u2_agg | exact u2_int | exact u1_int | exact u2_bool | exact u1_bool | exact u2_sli | exact u1_sli | exact u2_s0 | exact u1_s0))); all_goals (first | (intro t ht; cbv) | ((rw [y3]; omega)))))
    rw [y3] at ht
    rw [← Z.2.2, ← ht]; exact ⟨rfl, rfl, rfl, trivial⟩
  · have k : ¬ q.2.2 < p.2.2 := by rw [← x3, ← y3]; subst hE; exact gtr_f g3
    have es : E.bin .sub .i64 y.2.2 x.2.2 = q.2.2 - p.2.2 := by rw [x3, y3]; subst hE; show IntKind.i64.wrap (q.2.2 - p.2.2) = _; exact wi64_in (by omega) (by omega)
    (first | (apply E_pcallX hE (c_natShl y.2.1 (E.bin .sub .i64 y.2.2 x.2.2) yb yl2); (case hm => rfl); (case hle => (repeat' (first | exact u_nil | apply u_cons | apply u2_agg | exact u2_int | exact u1_int | exact u2_bool | exact u1_bool | exact u2_sli | exact u1_sli | exact u2_s0 | exact u1_s0))); all_goals (first | (intro u hu; cbv) | (assumption))) | (apply E_callX hE (c_natShl y.2.1 (E.bin .sub .i64 y.2.2 x.2.2) yb yl2); (case hf => rfl); (case hc => (cbv <;> trivial)); (case hle => (repeat' (first | exact u_nil | apply u_cons | apply u2_agg | exact u2_int | exact u1_int | exact u2_bool | exact u1_bool | exact u2_sli | exact u1_sli | exact u2_s0 | exact u1_s0))); all_goals (first | (intro u hu; cbv) | (assumption))))
    rw [es] at hu
    have U := S2 n1 n2 k u hu
    (first | (apply E_pcallX hE (c_wAdd x.1 x.2.1 y.1 u xb U.1 xl3 U.2.1); (case hm => rfl); (case hle => (repeat' (first | exact u_nil | apply u_cons | apply u2_agg | exact u2_int | exact u1_int | exact u2_bool | exact u1_bool | exact u2_sli | exact u1_sli | exact u2_s0 | exact u1_s0))); all_goals (first | (intro z hz; cbv) | (assumption))) | (apply E_callX hE (c_wAdd x.1 x.2.1 y.1 u xb U.1 xl3 U.2.1); (case hf => rfl); (case hc => (cbv <;> trivial)); (case hle => (repeat' (first | exact u_nil | apply u_cons | apply u2_agg | exact u2_int | exact u1_int | exact u2_bool | exact u1_bool | exact u2_sli | exact u1_sli | exact u2_s0 | exact u1_s0))); all_goals (first | (intro z hz; cbv) | (assumption))))
    have Z := U.2.2 z hz
    (first | (apply E_pcallX hE (c_dyMake z.1 z.2 x.2.2 Z.1 Z.2.1 ?_ ?_); (case hm => rfl); (case hle => (repeat' (first | exact u_nil | apply u_cons | apply u2_agg | exact u2_int | exact u1_int | exact u2_bool | exact u1_bool | exact u2_sli | exact u1_sli | exact u2_s0 | exact u1_s0))); all_goals (first | (intro t ht; cbv) | ((rw [x3]; omega)))) | (apply E_callX hE (c_dyMake z.1 z.2 x.2.2 Z.1 Z.2.1 ?_ ?_); (case hf => rfl); (case hc => (cbv <;> trivial)); (case hle => (repeat' (first | exact u_nil | apply u_cons | apply u2_agg | exact u2_int | exact u1_int | exact u2_bool | exact u1_bool | exact u2_sli | exact u1_sli | exact u2_s0 | exact u1_s0))); all_goals (first | (intro t ht; cbv) | ((rw [x3]; omega)))))
    rw [x3] at ht
    rw [← Z.2.2, ← ht]; exact ⟨rfl, rfl, rfl, trivial⟩

end Go.Proofs.YtmdgeaagaljheaaDoor.Ev

/- Contracts of dy.Add of two, Sub, Cmp, Mul: by the values of dyadic numbers. Printed by gen.py. -/
namespace Go.Proofs.YtmdgeaagaljheaaDoor.Ev
open Go Go.Proofs
set_option linter.unusedVariables false
set_option linter.unusedSimpArgs false

attribute [local irreducible] Lb
theorem c_dyOwn (x : DyT) (xb : Lb x.2.1) (xl : x.2.1.length < 67108864) (x0 : -9223372036854775808 ≤ x.2.2) (x1 : x.2.2 < 9223372036854775808) :
    ∃ t : DyT, t = dyL (dyMake x.1 (lv x.2.1) x.2.2) ∧ CallsA Tryd.prog 64 [.agg [.bool (.s x.1), .sli .u32 x.2.1, .int .i64 (.s x.2.2)]] (.agg [.bool (.s t.1), .sli .u32 t.2.1, .int .i64 (.s t.2.2)]) := by
  refine ⟨_, rfl, ?_⟩
  generalize hr : dyL (dyMake x.1 (lv x.2.1) x.2.2) = r
  refine callsA_of hG hm Tryd.func64 (by kernel_rfl) ?_
  intro E hE lp hl'
  cbv
  (first | (apply E_pcallX hE (c_dyMake x.1 x.2.1 x.2.2 xb xl x0 x1); (case hm => rfl); (case hle => (repeat' (first | exact u_nil | apply u_cons | apply u2_agg | exact u2_int | exact u1_int | exact u2_bool | exact u1_bool | exact u2_sli | exact u1_sli | exact u2_s0 | exact u1_s0))); all_goals (first | (intro t ht; cbv) | (assumption))) | (apply E_callX hE (c_dyMake x.1 x.2.1 x.2.2 xb xl x0 x1); (case hf => rfl); (case hc => (cbv <;> trivial)); (case hle => (repeat' (first | exact u_nil | apply u_cons | apply u2_agg | exact u2_int | exact u1_int | exact u2_bool | exact u1_bool | exact u2_sli | exact u1_sli | exact u2_s0 | exact u1_s0))); all_goals (first | (intro t ht; cbv) | (assumption))))
  rw [← hr, ← ht]; exact ⟨rfl, rfl, rfl, trivial⟩
theorem dyv0 (B : Nat) : DyV B (false, 0, 0) 0 := ⟨.inl rfl, by show -(B : Int) ≤ 0; omega, by show (0 : Int) + blen 0 ≤ B; rw [blen_zero]; omega, by simp [dyv]⟩
set_option maxHeartbeats 2000000 in
theorem c_dyAdd2 (B : Nat) (hB : B ≤ 3999998) (p q : Bool × Nat × Int) (v w : Int) (hp : DyV B p v) (hq : DyV B q w) (x y : DyT) (hx : x = dyL p) (hy : y = dyL q) :
    ∃ t : DyT, t = dyL (dySum p q) ∧ CallsA Tryd.prog 45 [.slc 3 (.l 2) (fun i => getRow [[.bool (.s x.1), .sli .u32 x.2.1, .int .i64 (.s x.2.2)], [.bool (.s y.1), .sli .u32 y.2.1, .int .i64 (.s y.2.2)]] (Int.ofNat i))] (.agg [.bool (.s t.1), .sli .u32 t.2.1, .int .i64 (.s t.2.2)]) := by
  refine ⟨_, rfl, ?_⟩
  generalize hr : dyL (dySum p q) = r
  have hB1 : B ≤ 3999999 := by omega
  have hB2 : B ≤ 4000000 := by omega
  have xl := hp.len hB2
  rw [← hx] at xl
  have yl := hq.len hB2
  rw [← hy] at yl
  have xl2 : x.2.1.length < 4611686018427387904 := by omega
  have yl2 : y.2.1.length < 4611686018427387904 := by omega
  have Cp := hp.c hB2
  have Cq := hq.c hB2
  have S := dySum_val hB1 hp hq
  have rl := S.len (by omega)
  have Cr := S.c (by omega)
  rw [hr] at rl
  have e1 : dyL (dySum (false, 0, 0) p) = x := by rw [hx]; rfl
  have own : r.2.1.length < 67108864 ∧ Lb r.2.1 ∧ -9223372036854775808 ≤ r.2.2 ∧ r.2.2 < 9223372036854775808 ∧ dyL (dyMake r.1 (lv r.2.1) r.2.2) = r := by
    have e : r.2.2 = (dySum p q).2.2 := by rw [← hr]; rfl
    have b : -4194304 ≤ (dySum p q).2.2 ∧ (dySum p q).2.2 ≤ 4194304 := by rcases Cr with k | k; rw [k]; exact ⟨by decide, by decide⟩; exact k.2
    refine ⟨by omega, by rw [← hr]; exact lim_lb _, by omega, by omega, ?_⟩
    rw [← hr]
    show dyL (dyMake (dySum p q).1 (lv (lim (dySum p q).2.1)) (dySum p q).2.2) = _
    rw [lv_lim, dyMake_self Cr]
  have z0 := dyv0 B
  refine callsA_of hG hm Tryd.func45 (by kernel_rfl) ?_
  intro E hE lp hl'
  cbv
  refine E_rounds hE hG hm hl' 3 ?_
  cbv
  (first | (apply E_pcallX hE (c_dyFair p Cp x hx xl2); (case hm => rfl); (case hle => (repeat' (first | exact u_nil | apply u_cons | apply u2_agg | exact u2_int | exact u1_int | exact u2_bool | exact u1_bool | exact u2_sli | exact u1_sli | exact u2_s0 | exact u1_s0))); all_goals (first | (intro a ha; cbv) | (assumption))) | (apply E_callX hE (c_dyFair p Cp x hx xl2); (case hf => rfl); (case hc => (cbv <;> trivial)); (case hle => (repeat' (first | exact u_nil | apply u_cons | apply u2_agg | exact u2_int | exact u1_int | exact u2_bool | exact u1_bool | exact u2_sli | exact u1_sli | exact u2_s0 | exact u1_s0))); all_goals (first | (intro a ha; cbv) | (assumption))))
  have ha : a = dyL p := ha.trans hx
  (first | (apply E_pcallX hE (c_dyadd B hB1 (false, 0, 0) p 0 v z0 hp (false, [], 0) a rfl ha); (case hm => rfl); (case hle => (repeat' (first | exact u_nil | apply u_cons | apply u2_agg | exact u2_int | exact u1_int | exact u2_bool | exact u1_bool | exact u2_sli | exact u1_sli | exact u2_s0 | exact u1_s0))); all_goals (first | (intro s hs; cbv) | (assumption))) | (apply E_callX hE (c_dyadd B hB1 (false, 0, 0) p 0 v z0 hp (false, [], 0) a rfl ha); (case hf => rfl); (case hc => (cbv <;> trivial)); (case hle => (repeat' (first | exact u_nil | apply u_cons | apply u2_agg | exact u2_int | exact u1_int | exact u2_bool | exact u1_bool | exact u2_sli | exact u1_sli | exact u2_s0 | exact u1_s0))); all_goals (first | (intro s hs; cbv) | (assumption))))
  have hs : s = dyL p := by rw [hs, e1, hx]
  (first | (apply E_pcallX hE (c_dyFair q Cq y hy yl2); (case hm => rfl); (case hle => (repeat' (first | exact u_nil | apply u_cons | apply u2_agg | exact u2_int | exact u1_int | exact u2_bool | exact u1_bool | exact u2_sli | exact u1_sli | exact u2_s0 | exact u1_s0))); all_goals (first | (intro b hb; cbv) | (assumption))) | (apply E_callX hE (c_dyFair q Cq y hy yl2); (case hf => rfl); (case hc => (cbv <;> trivial)); (case hle => (repeat' (first | exact u_nil | apply u_cons | apply u2_agg | exact u2_int | exact u1_int | exact u2_bool | exact u1_bool | exact u2_sli | exact u1_sli | exact u2_s0 | exact u1_s0))); all_goals (first | (intro b hb; cbv) | (assumption))))
  have hb : b = dyL q := hb.trans hy
  (first | (apply E_pcallX hE (c_dyadd B hB1 p q v w hp hq s b hs hb); (case hm => rfl); (case hle => (repeat' (first | exact u_nil | apply u_cons | apply u2_agg | exact u2_int | exact u1_int | exact u2_bool | exact u1_bool | exact u2_sli | exact u1_sli | exact u2_s0 | exact u1_s0))); all_goals (first | (intro u hu; cbv) | (assumption))) | (apply E_callX hE (c_dyadd B hB1 p q v w hp hq s b hs hb); (case hf => rfl); (case hc => (cbv <;> trivial)); (case hle => (repeat' (first | exact u_nil | apply u_cons | apply u2_agg | exact u2_int | exact u1_int | exact u2_bool | exact u1_bool | exact u2_sli | exact u1_sli | exact u2_s0 | exact u1_s0))); all_goals (first | (intro u hu; cbv) | (assumption))))
  have hu : u = r := by rw [hu, hr]
  (first | (apply E_pcallX hE (c_dyOwn u (by rw [hu]; exact own.2.1) (by rw [hu]; exact own.1) (by rw [hu]; exact own.2.2.1) (by rw [hu]; exact own.2.2.2.1)); (case hm => rfl); (case hle => (repeat' (first | exact u_nil | apply u_cons | apply u2_agg | exact u2_int | exact u1_int | exact u2_bool | exact u1_bool | exact u2_sli | exact u1_sli | exact u2_s0 | exact u1_s0))); all_goals (first | (intro t ht; cbv) | (assumption))) | (apply E_callX hE (c_dyOwn u (by rw [hu]; exact own.2.1) (by rw [hu]; exact own.1) (by rw [hu]; exact own.2.2.1) (by rw [hu]; exact own.2.2.2.1)); (case hf => rfl); (case hc => (cbv <;> trivial)); (case hle => (repeat' (first | exact u_nil | apply u_cons | apply u2_agg | exact u2_int | exact u1_int | exact u2_bool | exact u1_bool | exact u2_sli | exact u1_sli | exact u2_s0 | exact u1_s0))); all_goals (first | (intro t ht; cbv) | (assumption))))
  have k : t = r := by
    have k : t = dyL (dyMake u.1 (lv u.2.1) u.2.2) := ht
    rw [k, hu]; exact own.2.2.2.2
  rw [← k]; exact ⟨rfl, rfl, rfl, trivial⟩
set_option maxHeartbeats 1000000 in
theorem c_dySub (B : Nat) (hB : B ≤ 3999998) (p q : Bool × Nat × Int) (v w : Int) (hp : DyV B p v) (hq : DyV B q w) (x y : DyT) (hx : x = dyL p) (hy : y = dyL q) :
    ∃ t : DyT, t = dyL (dySum p (dyOpp q)) ∧ CallsA Tryd.prog 25 [.agg [.bool (.s x.1), .sli .u32 x.2.1, .int .i64 (.s x.2.2)], .agg [.bool (.s y.1), .sli .u32 y.2.1, .int .i64 (.s y.2.2)]] (.agg [.bool (.s t.1), .sli .u32 t.2.1, .int .i64 (.s t.2.2)]) := by
  refine ⟨_, rfl, ?_⟩
  generalize hr : dyL (dySum p (dyOpp q)) = r
  have hB2 : B ≤ 4000000 := by omega
  refine callsA_of hG hm Tryd.func25 (by kernel_rfl) ?_
  intro E hE lp hl'
  cbv
  (first | (apply E_pcallX hE (c_dyNeg B hB2 q w hq y hy); (case hm => rfl); (case hle => (repeat' (first | exact u_nil | apply u_cons | apply u2_agg | exact u2_int | exact u1_int | exact u2_bool | exact u1_bool | exact u2_sli | exact u1_sli | exact u2_s0 | exact u1_s0))); all_goals (first | (intro a ha; cbv) | (assumption))) | (apply E_callX hE (c_dyNeg B hB2 q w hq y hy); (case hf => rfl); (case hc => (cbv <;> trivial)); (case hle => (repeat' (first | exact u_nil | apply u_cons | apply u2_agg | exact u2_int | exact u1_int | exact u2_bool | exact u1_bool | exact u2_sli | exact u1_sli | exact u2_s0 | exact u1_s0))); all_goals (first | (intro a ha; cbv) | (assumption))))
  apply E_pcallX hE (c_dyAdd2 B hB p (dyOpp q) v (-w) hp (dyOpp_val hq) x a hx ha)
  case hm => rfl
  case hle => exact ⟨u2_slc', trivial⟩
  intro t ht
  cbv
  rw [← hr, ← ht]; exact ⟨rfl, rfl, rfl, trivial⟩
theorem c_dyCmp (B : Nat) (hB : B ≤ 3999998) (p q : Bool × Nat × Int) (v w : Int) (hp : DyV B p v) (hq : DyV B q w) (x y : DyT) (hx : x = dyL p) (hy : y = dyL q) :
    ∃ t : Int, t = (if v < w then -1 else if w < v then 1 else 0) ∧ CallsA Tryd.prog 9 [.agg [.bool (.s x.1), .sli .u32 x.2.1, .int .i64 (.s x.2.2)], .agg [.bool (.s y.1), .sli .u32 y.2.1, .int .i64 (.s y.2.2)]] (.int .i64 (.s t)) := by
  refine ⟨_, rfl, ?_⟩
  generalize hr : (if v < w then -1 else if w < v then 1 else 0 : Int) = r
  have S := dySum_val (by omega) hp (dyOpp_val hq)
  have fin : ∀ s : Int, s = (if v + -w < 0 then -1 else if 0 < v + -w then 1 else 0) → s = r := by
    intro s hs
    rw [hs, ← hr]
    by_cases h1 : v < w
    · rw [if_pos h1, if_pos (by omega)]
    · by_cases h2 : w < v
      · rw [if_neg h1, if_pos h2, if_neg (by omega), if_pos (by omega)]
      · rw [if_neg h1, if_neg h2, if_neg (by omega), if_neg (by omega)]
  have hB3 : B + 1 ≤ 4000000 := by omega
  clear hr
  refine callsA_of hG hm Tryd.func9 (by kernel_rfl) ?_
  intro E hE lp hl'
  cbv
  (first | (apply E_pcallX hE (c_dySub B hB p q v w hp hq x y hx hy); (case hm => rfl); (case hle => (repeat' (first | exact u_nil | apply u_cons | apply u2_agg | exact u2_int | exact u1_int | exact u2_bool | exact u1_bool | exact u2_sli | exact u1_sli | exact u2_s0 | exact u1_s0))); all_goals (first | (intro u hu; cbv) | (assumption))) | (apply E_callX hE (c_dySub B hB p q v w hp hq x y hx hy); (case hf => rfl); (case hc => (cbv <;> trivial)); (case hle => (repeat' (first | exact u_nil | apply u_cons | apply u2_agg | exact u2_int | exact u1_int | exact u2_bool | exact u1_bool | exact u2_sli | exact u1_sli | exact u2_s0 | exact u1_s0))); all_goals (first | (intro u hu; cbv) | (assumption))))
  (first | (apply E_pcallX hE (c_dySign (B + 1) hB3 (dySum p (dyOpp q)) (v + -w) S u hu); (case hm => rfl); (case hle => (repeat' (first | exact u_nil | apply u_cons | apply u2_agg | exact u2_int | exact u1_int | exact u2_bool | exact u1_bool | exact u2_sli | exact u1_sli | exact u2_s0 | exact u1_s0))); all_goals (first | (intro s hs; cbv) | (assumption))) | (apply E_callX hE (c_dySign (B + 1) hB3 (dySum p (dyOpp q)) (v + -w) S u hu); (case hf => rfl); (case hc => (cbv <;> trivial)); (case hle => (repeat' (first | exact u_nil | apply u_cons | apply u2_agg | exact u2_int | exact u1_int | exact u2_bool | exact u1_bool | exact u2_sli | exact u1_sli | exact u2_s0 | exact u1_s0))); all_goals (first | (intro s hs; cbv) | (assumption))))
  (try (refine E_nm hE (fun s1 hs1 => ?_); cbv))
  first | exact fin s hs | exact hs1.trans (fin s hs)
set_option maxHeartbeats 1000000 in
theorem c_dyMul (A B : Nat) (hA : A + B ≤ 4000000) (p q : Bool × Nat × Int) (v w : Int) (hp : DyV A p v) (hq : DyV B q w) (x y : DyT) (hx : x = dyL p) (hy : y = dyL q) :
    ∃ t : DyT, t = dyL (dyMake ((p.1 != q.1) && decide (p.2.1 * q.2.1 ≠ 0)) (p.2.1 * q.2.1) (p.2.2 + q.2.2)) ∧ CallsA Tryd.prog 10 [.agg [.bool (.s x.1), .sli .u32 x.2.1, .int .i64 (.s x.2.2)], .agg [.bool (.s y.1), .sli .u32 y.2.1, .int .i64 (.s y.2.2)]] (.agg [.bool (.s t.1), .sli .u32 t.2.1, .int .i64 (.s t.2.2)]) := by
  refine ⟨_, rfl, ?_⟩
  generalize hr : dyL (dyMake ((p.1 != q.1) && decide (p.2.1 * q.2.1 ≠ 0)) (p.2.1 * q.2.1) (p.2.2 + q.2.2)) = r
  have hA1 : A ≤ 4000000 := by omega
  have hB1 : B ≤ 4000000 := by omega
  have xl := hp.len hA1
  rw [← hx] at xl
  have yl := hq.len hB1
  rw [← hy] at yl
  have xl2 : x.2.1.length < 4611686018427387904 := by omega
  have yl2 : y.2.1.length < 4611686018427387904 := by omega
  have Cp := hp.c hA1
  have Cq := hq.c hB1
  have plo := hp.lo
  have phi := hp.hi
  have qlo := hq.lo
  have qhi := hq.hi
  have pbl := blen_nonneg (p.2.1 : Int)
  have qbl := blen_nonneg (q.2.1 : Int)
  have rng : -9223372036854775808 ≤ p.2.2 + q.2.2 ∧ p.2.2 + q.2.2 < 9223372036854775808 := by omega
  have xb : Lb x.2.1 := by rw [hx]; exact lim_lb _
  have yb : Lb y.2.1 := by rw [hy]; exact lim_lb _
  have xl3 : x.2.1.length < 60000000 := by omega
  have yl3 : y.2.1.length < 60000000 := by omega
  have fin : ∀ u : Bool × List Int, u = ((x.1 != y.1) && decide (lv x.2.1 * lv y.2.1 ≠ 0), lim (lv x.2.1 * lv y.2.1)) → Lb u.2 ∧ u.2.length < 67108864 ∧ dyL (dyMake u.1 (lv u.2) (p.2.2 + q.2.2)) = r := by
    intro u hu
    have l := mulLen xb yb
    rw [hu]
    refine ⟨lim_lb _, by dsimp only; omega, ?_⟩
    dsimp only
    rw [lv_lim, ← hr, hx, hy]
    unfold dyL
    dsimp only
    rw [lv_lim, lv_lim]
  have x3 : x.2.2 = p.2.2 := by rw [hx]; rfl
  have y3 : y.2.2 = q.2.2 := by rw [hy]; rfl
  clear hr
  refine callsA_of hG hm Tryd.func10 (by kernel_rfl) ?_
  intro E hE lp hl'
  cbv
  (first | (apply E_pcallX hE (c_dyFair p Cp x hx xl2); (case hm => rfl); (case hle => (repeat' (first | exact u_nil | apply u_cons | apply u2_agg | exact u2_int | exact u1_int | exact u2_bool | exact u1_bool | exact u2_sli | exact u1_sli | exact u2_s0 | exact u1_s0))); all_goals (first | (intro a ha; cbv) | (assumption))) | (apply E_callX hE (c_dyFair p Cp x hx xl2); (case hf => rfl); (case hc => (cbv <;> trivial)); (case hle => (repeat' (first | exact u_nil | apply u_cons | apply u2_agg | exact u2_int | exact u1_int | exact u2_bool | exact u1_bool | exact u2_sli | exact u1_sli | exact u2_s0 | exact u1_s0))); all_goals (first | (intro a ha; cbv) | (assumption))))
  (first | (apply E_pcallX hE (c_dyFair q Cq y hy yl2); (case hm => rfl); (case hle => (repeat' (first | exact u_nil | apply u_cons | apply u2_agg | exact u2_int | exact u1_int | exact u2_bool | exact u1_bool | exact u2_sli | exact u1_sli | exact u2_s0 | exact u1_s0))); all_goals (first | (intro b hb; cbv) | (assumption))) | (apply E_callX hE (c_dyFair q Cq y hy yl2); (case hf => rfl); (case hc => (cbv <;> trivial)); (case hle => (repeat' (first | exact u_nil | apply u_cons | apply u2_agg | exact u2_int | exact u1_int | exact u2_bool | exact u1_bool | exact u2_sli | exact u1_sli | exact u2_s0 | exact u1_s0))); all_goals (first | (intro b hb; cbv) | (assumption))))
  subst ha hb
  apply E_pcallX hE (c_wMul2 a.1 a.2.1 b.1 b.2.1 xb yb xl3 yl3)
  case hm => rfl
  case hle => exact ⟨u2_slc', trivial⟩
  intro u hu
  cbv
  have U := fin u hu
  have es : E.bin .add .i64 a.2.2 b.2.2 = p.2.2 + q.2.2 := by rw [x3, y3]; subst hE; show IntKind.i64.wrap (p.2.2 + q.2.2) = _; exact wi64_in rng.1 rng.2
  (first | (apply E_pcallX hE (c_dyMake u.1 u.2 (E.bin .add .i64 a.2.2 b.2.2) U.1 U.2.1 ?_ ?_); (case hm => rfl); (case hle => (repeat' (first | exact u_nil | apply u_cons | apply u2_agg | exact u2_int | exact u1_int | exact u2_bool | exact u1_bool | exact u2_sli | exact u1_sli | exact u2_s0 | exact u1_s0))); all_goals (first | (intro t ht; cbv) | ((rw [es]; first | exact rng.1 | exact rng.2)))) | (apply E_callX hE (c_dyMake u.1 u.2 (E.bin .add .i64 a.2.2 b.2.2) U.1 U.2.1 ?_ ?_); (case hf => rfl); (case hc => (cbv <;> trivial)); (case hle => (repeat' (first | exact u_nil | apply u_cons | apply u2_agg | exact u2_int | exact u1_int | exact u2_bool | exact u1_bool | exact u2_sli | exact u1_sli | exact u2_s0 | exact u1_s0))); all_goals (first | (intro t ht; cbv) | ((rw [es]; first | exact rng.1 | exact rng.2)))))
  have k : t = r := by
    have k : t = dyL (dyMake u.1 (lv u.2) (E.bin .add .i64 a.2.2 b.2.2)) := ht
    rw [k, es]; exact U.2.2
  rw [← k]; exact ⟨rfl, rfl, rfl, trivial⟩

end Go.Proofs.YtmdgeaagaljheaaDoor.Ev

/- The next number, and what is rounded to both sides: one, or neighbours. Plain Lean. -/
namespace Go.Proofs.YtmdgeaagaljheaaDoor.Ev
open Go
set_option linter.unusedVariables false
set_option linter.unusedSimpArgs false
attribute [local irreducible] pw

theorem pos_cases {z : Num} (m : z.may = true) (o : z.ok) (h : 0 < z.val) : z = Num.inf false ∨ (z.Fin ∧ z.neg = false ∧ z.val = z.m * pw z.e) := by
  rcases Num.may3 m o with k | k | k
  · rw [k, Num.val_zero] at h; omega
  · right
    have w := k.lt.1
    cases q : z.neg
    · refine ⟨k, rfl, ?_⟩; unfold Num.val; rw [q, if_neg (by decide), k.W]
    · unfold Num.val at h; rw [q, if_pos rfl] at h; omega
  · left
    cases q : z.neg
    · rw [q] at k; exact k
    · rw [q] at k; rw [k, Num.val_inf, if_pos rfl] at h; have := pw_pos 1048640; omega
theorem fin_val_pos {m e : Int} (h1 : 9223372036854775808 ≤ m) (h2 : m < 18446744073709551616) (h3 : -1048576 ≤ e) (h4 : e ≤ 1048576) :
    (Num.mk 1 false m e).Fin ∧ (Num.mk 1 false m e).val = m * pw e := by
  have f : (Num.mk 1 false m e).Fin := ⟨rfl, h1, h2, h3, h4⟩
  refine ⟨f, ?_⟩
  show (if false then _ else _) = _; rw [if_neg (by decide), f.W]
theorem next_up {l : Num} (m : l.may = true) (o : l.ok) (k : l.kind ≠ 2) (h0 : 0 ≤ l.val) :
    (Num.next l true).may = true ∧ (Num.next l true).ok ∧ l.val < (Num.next l true).val ∧ ∀ z : Num, z.may = true → z.ok → l.val < z.val → (Num.next l true).val ≤ z.val := by
  rcases Num.may3 m o with c | c | c
  · have e : Num.next l true = ⟨1, false, 9223372036854775808, -1048576⟩ := by rw [c]; decide
    obtain ⟨f, v⟩ := fin_val_pos (m := 9223372036854775808) (e := -1048576) (by decide) (by decide) (by decide) (by decide)
    rw [e, v]
    have p := pw_pos (-1048576)
    refine ⟨f.may, f.ok, by rw [c, Num.val_zero]; omega, fun z mz oz hz => ?_⟩
    rw [c, Num.val_zero] at hz
    rcases pos_cases mz oz hz with q | ⟨q, _, q2⟩
    · rw [q, Num.val_inf, if_neg (by decide)]
      have := f.lt.2; rw [f.W] at this; exact Int.le_of_lt this
    · rw [q2]
      exact Int.le_trans (Int.mul_le_mul_of_nonneg_right q.lo (by omega)) (Int.mul_le_mul_of_nonneg_left (pw_mono (by decide) q.elo) (by have := q.lo; omega))
  · have w := c.lt.1
    have n : l.neg = false := by
      cases q : l.neg
      · rfl
      · unfold Num.val at h0; rw [q, if_pos rfl] at h0; omega
    have lv : l.val = l.m * pw l.e := by unfold Num.val; rw [n, if_neg (by decide), c.W]
    have lo := c.lo
    have hi := c.hi
    have elo := c.elo
    have ehi := c.ehi
    have p := pw_pos l.e
    have e : Num.next l true = Num.grow false l.m l.e true true := by
      unfold Num.next
      rw [Num.fair_of_may m, c.kind, n, if_neg (by decide), if_neg (by decide), if_pos (by decide)]
    by_cases hm : l.m + 1 < 18446744073709551616
    · have e2 : Num.next l true = ⟨1, false, l.m + 1, l.e⟩ := by
        have w1 : IntKind.u64.wrap (l.m + 1) = l.m + 1 := by rw [wu64]; omega
        rw [e]; unfold Num.grow
        rw [if_pos (show (true && true) = true from rfl), w1, if_neg (by omega)]; unfold Num.bound
        rw [if_neg (by omega), if_neg (by omega)]
      obtain ⟨f, v⟩ := fin_val_pos (m := l.m + 1) (e := l.e) (by omega) hm elo ehi
      rw [e2, v, lv]
      refine ⟨f.may, f.ok, Int.mul_lt_mul_of_pos_right (by omega) p, fun z mz oz hz => ?_⟩
      have z0 : 0 < z.val := Int.lt_of_le_of_lt (Int.mul_nonneg (by omega) (Int.le_of_lt p)) hz
      rcases pos_cases mz oz z0 with q | ⟨q, _, q2⟩
      · rw [q, Num.val_inf, if_neg (by decide)]
        have := f.lt.2; rw [f.W] at this; exact Int.le_of_lt this
      · rw [q2] at hz ⊢
        rcases Int.lt_trichotomy z.e l.e with g | g | g
        · have := lex_lt lo q.hi (by have := q.elo; omega) g
          omega
        · rw [g] at hz ⊢
          have := Int.lt_of_mul_lt_mul_right hz (Int.le_of_lt p)
          exact Int.mul_le_mul_of_nonneg_right (by omega) (Int.le_of_lt p)
        · exact Int.le_of_lt (lex_lt q.lo hm (by omega) g)
    · have hm2 : l.m = 18446744073709551615 := by omega
      have w0 : IntKind.u64.wrap (l.m + 1) = 0 := by rw [hm2, wu64]; decide
      have w1 : IntKind.i64.wrap (l.e + 1) = l.e + 1 := by rw [wi64]; omega
      have low : ∀ z : Num, z.Fin → l.m * pw l.e < z.m * pw z.e → l.e < z.e := by
        intro z q hz
        rcases Int.lt_trichotomy z.e l.e with g | g | g
        · have := lex_lt lo q.hi (by have := q.elo; omega) g
          omega
        · rw [g] at hz
          have := Int.lt_of_mul_lt_mul_right hz (Int.le_of_lt p)
          have := q.hi; omega
        · exact g
      by_cases he : l.e + 1 ≤ 1048576
      · have e2 : Num.next l true = ⟨1, false, 9223372036854775808, l.e + 1⟩ := by
          rw [e]; unfold Num.grow
          rw [if_pos (show (true && true) = true from rfl), if_pos w0, w1]; unfold Num.bound
          rw [if_neg (by omega), if_neg (by omega)]; rfl
        obtain ⟨f, v⟩ := fin_val_pos (m := 9223372036854775808) (e := l.e + 1) (by decide) (by decide) (by omega) he
        rw [e2, v, lv]
        refine ⟨f.may, f.ok, by rw [pw_succ (by omega), hm2]; omega, fun z mz oz hz => ?_⟩
        have z0 : 0 < z.val := Int.lt_of_le_of_lt (Int.mul_nonneg (by omega) (Int.le_of_lt p)) hz
        rcases pos_cases mz oz z0 with q | ⟨q, _, q2⟩
        · rw [q, Num.val_inf, if_neg (by decide)]
          have := f.lt.2; rw [f.W] at this; exact Int.le_of_lt this
        · rw [q2] at hz ⊢
          have g := low z q hz
          exact Int.le_trans (Int.mul_le_mul_of_nonneg_right q.lo (Int.le_of_lt (pw_pos _))) (Int.mul_le_mul_of_nonneg_left (pw_mono (by omega) (by omega)) (by have := q.lo; omega))
      · have e2 : Num.next l true = Num.inf false := by
          rw [e]; unfold Num.grow
          rw [if_pos (show (true && true) = true from rfl), if_pos w0, w1]; unfold Num.bound
          rw [if_pos (by omega), if_pos rfl]
        have cl := c.lt.2
        rw [c.W] at cl
        rw [e2, Num.val_inf, if_neg (by decide), lv]
        refine ⟨Num.inf_may _, Num.inf_ok _, cl, fun z mz oz hz => ?_⟩
        have z0 : 0 < z.val := Int.lt_of_le_of_lt (Int.mul_nonneg (by omega) (Int.le_of_lt p)) hz
        rcases pos_cases mz oz z0 with q | ⟨q, _, q2⟩
        · rw [q, Num.val_inf, if_neg (by decide)]; exact Int.le_refl _
        · rw [q2] at hz
          have g := low z q hz
          have := q.ehi
          omega
  · rw [c] at k; exact absurd rfl k
/-- of two that are nearest to both sides: one, or neighbours -/
theorem neighbours {l h : Num} {P Q : Int → Prop} (ml : l.may = true) (ol : l.ok) (kl : l.kind ≠ 2) (l0 : 0 ≤ l.val) (mh : h.may = true) (oh : h.ok) (lh : l.val ≤ h.val)
    (pq : ∀ v, P v ∨ Q v) (dopt : ∀ s : Num, s.may = true → s.ok → s ≠ Num.inf false → 0 ≤ s.val → P s.val → s.val ≤ l.val)
    (uopt : ∀ s : Num, s.may = true → s.ok → s ≠ Num.inf true → 0 ≤ s.val → Q s.val → h.val ≤ s.val) : l = h ∨ Num.next l true = h := by
  rcases Int.lt_or_eq_of_le lh with g | g
  · right
    obtain ⟨n1, n2, n3, n4⟩ := next_up ml ol kl l0
    have a := n4 h mh oh g
    have b : h.val ≤ (Num.next l true).val := by
      by_cases i : Num.next l true = Num.inf false
      · rw [i, Num.val_inf, if_neg (by decide)]; exact (Num.val_le mh oh).2
      · rcases pq (Num.next l true).val with q | q
        · have := dopt _ n1 n2 i (by omega) q; omega
        · refine uopt _ n1 n2 ?_ (by omega) q
          intro z
          rw [z, Num.val_inf, if_pos rfl] at n3
          have := pw_pos 1048640
          omega
    exact Num.val_inj n1 mh n2 oh (Int.le_antisymm a b)
  · exact .inl (Num.val_inj ml mh ol oh g)
end Go.Proofs.YtmdgeaagaljheaaDoor.Ev

/- Contracts: the terms of an inverse tangent. Printed by gen.py. -/
namespace Go.Proofs.YtmdgeaagaljheaaDoor.Ev
open Go Go.Proofs
set_option linter.unusedVariables false
set_option linter.unusedSimpArgs false

attribute [local irreducible] Lb whN piOne
end Go.Proofs.YtmdgeaagaljheaaDoor.Ev

/- A block behind a call, told otherwise. -/
namespace Go.Proofs.YtmdgeaagaljheaaDoor.Ev
open Go Go.RowKit
set_option linter.unusedVariables false
set_option linter.unusedSimpArgs false
variable {P : Program} {G : Nat → TI}

end Go.Proofs.YtmdgeaagaljheaaDoor.Ev

/- Contracts: the two fixed numbers for an inverse tangent. Printed by gen.py. -/
namespace Go.Proofs.YtmdgeaagaljheaaDoor.Ev
open Go Go.Proofs
set_option linter.unusedVariables false
set_option linter.unusedSimpArgs false

attribute [local irreducible] Lb whN piOne
end Go.Proofs.YtmdgeaagaljheaaDoor.Ev

/- Laws: the fixed numbers for inverse tangents, and pi. -/
namespace Go.Proofs.YtmdgeaagaljheaaDoor.Ev
open Go Go.Proofs
set_option linter.unusedVariables false
set_option linter.unusedSimpArgs false
attribute [local irreducible] Lb
end Go.Proofs.YtmdgeaagaljheaaDoor.Ev

/- The ratio of two whole numbers is the best number; a number lies between its fixed number and the next one: plain Lean. -/
namespace Go.Proofs.YtmdgeaagaljheaaDoor.Ev
open Go
set_option linter.unusedVariables false
set_option linter.unusedSimpArgs false

end Go.Proofs.YtmdgeaagaljheaaDoor.Ev

/- A number lies between its fixed number and the next one, and in the interval of both: plain Lean. -/
namespace Go.Proofs.YtmdgeaagaljheaaDoor.Ev
open Go
set_option linter.unusedVariables false
set_option linter.unusedSimpArgs false

end Go.Proofs.YtmdgeaagaljheaaDoor.Ev

/- The laws of quotients and roots, turned back: plain Lean. -/
namespace Go.Proofs.YtmdgeaagaljheaaDoor.Ev
open Go
set_option linter.unusedVariables false
set_option linter.unusedSimpArgs false
attribute [local irreducible] pw

theorem exact2 {n : Num} (m : n.may = true) : (n.exact.2 = true → n.kind ≠ 2) ∧ (n.exact.2 = false → n.kind = 2) := by
  unfold Num.exact
  constructor
  · intro h z
    rw [if_pos (.inr z)] at h; cases h
  · intro h
    split at h
    · rename_i k; rcases k with k | k
      · rw [m] at k; cases k
      · exact k
    · split at h <;> cases h
theorem exact_dv {n : Num} (m : n.may = true) (o : n.ok) (k : n.kind ≠ 2) : DyV 1048704 n.exact.1 n.val := by
  have d := exact_dy (x := n) o (by rw [Num.fair_of_may m]; exact k)
  rw [Num.fair_of_may m] at d
  exact DyV.of d
theorem exact_t {n : Num} (m : n.may = true) (k : n.kind ≠ 2) : n.exact.2 = true := by
  cases q : n.exact.2
  · exact absurd ((exact2 m).2 q) k
  · rfl
theorem exact_may {n : Num} (h : n.exact.2 = true) : n.may = true := by
  cases q : n.may
  · unfold Num.exact at h; rw [if_pos (.inl q)] at h; cases h
  · rfl
/-- two ends: told exactly, and next to each other -/
structure Ends (l h : Num) : Prop where
  dl : DyV 1048704 l.exact.1 l.val
  dh : DyV 1048704 h.exact.1 h.val
  el : l.exact.2 = true
  eh : h.exact.2 = true
  ol : l.ok
  oh : h.ok
  nb : l = h ∨ Num.next l true = h
theorem quot_holds {a b : Num} (oa : a.ok) (ob : b.ok) (ea : a.exact.2 = true) (eb : b.exact.2 = true) (sa : ¬ a.sign < 0) (sb : ¬ b.sign ≤ 0) (a1 : a.e ≤ 1500) (b0 : -1500 ≤ b.e) :
    Ends (Num.div a b false) (Num.div a b true) ∧ DyV 1048704 a.exact.1 a.val ∧ DyV 1048704 b.exact.1 b.val ∧
    (Num.div a b false).val * b.val ≤ a.val * pw 0 ∧ a.val * pw 0 ≤ (Num.div a b true).val * b.val := by
  have ma := exact_may ea
  have mb := exact_may eb
  have ka := (exact2 ma).1 ea
  have kb := (exact2 mb).1 eb
  have a0 : 0 ≤ a.val := by
    rcases Num.sign_of ma oa with k | k | k
    · rw [k.2.1]; exact Int.le_refl 0
    · rw [k.2.1]; exact Int.le_of_lt k.2.2.1
    · exact absurd (by rw [k.1]; decide) sa
  have bF : b.Fin ∧ b.neg = false ∧ b.val = b.W := by
    rcases Num.sign_of mb ob with k | k | k
    · exact absurd (by rw [k.1]; decide) sb
    · refine ⟨?_, k.2.2.2.1, k.2.1⟩
      rcases Num.may3 mb ob with c | c | c
      · have := k.2.2.1; rw [c, Num.zero_W] at this; omega
      · exact c
      · rw [c] at kb; exact absurd rfl kb
    · exact absurd (by rw [k.1]; decide) sb
  obtain ⟨bF, bn, bv⟩ := bF
  have fa := Num.fair_of_may ma
  have fb := Num.fair_of_may mb
  have B := fun up => div_best oa ob (by rw [fa]; exact ka) (by rw [fb]; exact bF.kind) up
  simp only [fa, fb, bn, Bool.false_eq_true, if_false] at B
  have L := B false
  have H := B true
  have c0 := bF.lt.1
  have z0 := pw_pos 0
  have t0 : 0 ≤ a.val * pw 0 := Int.mul_nonneg a0 (Int.le_of_lt z0)
  have l0 : 0 ≤ (Num.div a b false).val := by
    have := L.dopt rfl Num.zero Num.zero_may Num.zero_ok (by decide) (by rw [Num.val_zero]; omega)
    rwa [Num.val_zero] at this
  have lne : Num.div a b false ≠ Num.inf true := by
    intro k; rw [k, Num.val_inf, if_pos rfl] at l0; have := pw_pos 1048640; omega
  have ltop := (Num.ne_inf L.may L.ok).1.1 (L.down rfl).1
  have kl : (Num.div a b false).kind ≠ 2 := (Num.fin_val L.may L.ok).2 ⟨by have := pw_pos 1048640; omega, ltop⟩
  obtain ⟨sF, sv⟩ := fin_val_pos (m := 9223372036854775808) (e := 3010) (by decide) (by decide) (by decide) (by decide)
  have up : a.val ≤ 18446744073709551616 * pw 1500 := by
    rcases Num.may3 ma oa with c | c | c
    · rw [c, Num.val_zero]; have := pw_pos 1500; omega
    · have w : a.val ≤ a.W := by unfold Num.val; have := c.lt.1; split <;> omega
      rw [c.W] at w
      have h1 := Int.mul_le_mul_of_nonneg_left (pw_mono (e := a.e) (f := 1500) (by have := c.elo; omega) a1) (show 0 ≤ a.m by have := c.lo; omega)
      have h2 := Int.mul_le_mul_of_nonneg_right (show a.m ≤ 18446744073709551616 by have := c.hi; omega) (Int.le_of_lt (pw_pos 1500))
      omega
    · rw [c] at ka; exact absurd rfl ka
  have big : a.val * pw 0 ≤ (Num.mk 1 false 9223372036854775808 3010).val * b.W := by
    rw [sv]
    have p1 := pw_mul (e := 3010) (f := -1500) (by decide) (by decide) (by decide)
    have p2 := pw_add (e := 1500) (f := 10) (by decide) (by decide)
    rw [show (3010 : Int) + -1500 = 1510 by decide] at p1
    rw [show (1500 : Int) + 10 = 1510 by decide, show (2 : Int) ^ (10 : Int).toNat = 1024 by decide] at p2
    have h1 : pw (-1500) ≤ b.W := by
      rw [bF.W]
      have := pw_mono (e := -1500) (f := b.e) (by decide) b0
      have h3 := Int.mul_le_mul_of_nonneg_right (show 1 ≤ b.m by have := bF.lo; omega) (Int.le_of_lt (pw_pos b.e))
      omega
    have q := pw_pos 3010
    have h2 := Int.mul_le_mul_of_nonneg_left h1 (show 0 ≤ 9223372036854775808 * pw 3010 by omega)
    refine Int.le_trans ?_ h2
    rw [Int.mul_assoc, p1, p2]
    have h3 := Int.mul_le_mul_of_nonneg_right up (Int.le_of_lt z0)
    refine Int.le_trans h3 ?_
    have h4 : 0 ≤ pw 0 * pw 1500 := Int.mul_nonneg (Int.le_of_lt z0) (Int.le_of_lt (pw_pos _))
    have e1 : 18446744073709551616 * pw 1500 * pw 0 = 18446744073709551616 * (pw 0 * pw 1500) := by rw [Int.mul_assoc, Int.mul_comm (pw 1500)]
    have e2 : 9223372036854775808 * (pw 0 * (pw 1500 * 1024)) = 9223372036854775808 * (pw 0 * pw 1500) * 1024 := by rw [← Int.mul_assoc (pw 0), ← Int.mul_assoc]
    omega
  have hs := H.uopt rfl _ sF.may sF.ok (by decide) big
  have stop := sF.lt.2
  have sW : (Num.mk 1 false 9223372036854775808 3010).val = (Num.mk 1 false 9223372036854775808 3010).W := by rw [sv, sF.W]
  rcases L.down rfl with ⟨_, k | llo⟩
  · exact absurd k lne
  have hne : Num.div a b true ≠ Num.inf false := by
    intro k; rw [k, Num.val_inf, if_neg (by decide)] at hs; omega
  rcases H.hi rfl with ⟨hnt, k | hhi⟩
  · exact absurd k hne
  have lh : (Num.div a b false).val ≤ (Num.div a b true).val := Int.le_of_mul_le_mul_right (Int.le_trans llo hhi) c0
  have kh : (Num.div a b true).kind ≠ 2 := (Num.fin_val H.may H.ok).2 ⟨by have := pw_pos 1048640; omega, by omega⟩
  refine ⟨⟨exact_dv L.may L.ok kl, exact_dv H.may H.ok kh, exact_t L.may kl, exact_t H.may kh, L.ok, H.ok, ?_⟩, exact_dv ma oa ka, exact_dv mb ob kb, by rw [bv]; exact llo, by rw [bv]; exact hhi⟩
  refine neighbours (P := fun v => v * b.W ≤ a.val * pw 0) (Q := fun v => a.val * pw 0 ≤ v * b.W) L.may L.ok kl l0 H.may H.ok lh (fun v => by omega) (fun s ms os i _ h => L.dopt rfl s ms os i h) (fun s ms os i _ h => H.uopt rfl s ms os i h)
theorem sqr_holds {a : Num} (oa : a.ok) (ea : a.exact.2 = true) : DyV 1048704 a.exact.1 a.val ∧ (a.sign < 0 → (Num.root a false).2 = false ∧ (Num.root a true).2 = false) ∧
    (¬ a.sign < 0 → (Num.root a false).2 = true ∧ (Num.root a true).2 = true ∧ Ends (Num.root a false).1 (Num.root a true).1 ∧
      (Num.root a false).1.val * (Num.root a false).1.val ≤ a.val * pw 0 ∧ a.val * pw 0 ≤ (Num.root a true).1.val * (Num.root a true).1.val) := by
  have ma := exact_may ea
  have ka := (exact2 ma).1 ea
  have fa := Num.fair_of_may ma
  refine ⟨exact_dv ma oa ka, fun h => ?_, fun h => ?_⟩
  · rcases Num.sign_of ma oa with k | k | k
    · rw [k.1] at h; exact absurd h (by decide)
    · rw [k.1] at h; exact absurd h (by decide)
    · have n : a.fair.neg = true := by
        unfold Num.sign at h
        split at h
        · exact absurd h (by decide)
        · split at h
          · assumption
          · exact absurd h (by decide)
      have k0 : a.fair.kind ≠ 0 := by
        intro z; unfold Num.sign at h; rw [if_pos z] at h; exact absurd h (by decide)
      unfold Num.root
      simp [n, k0]
  · rcases Num.may3 ma oa with c | c | c
    · have r : ∀ up, Num.root a up = (Num.zero, true) := by intro up; rw [c]; cases up <;> decide
      rw [r, r]
      refine ⟨rfl, rfl, ⟨exact_dv Num.zero_may Num.zero_ok (by decide), exact_dv Num.zero_may Num.zero_ok (by decide), by decide, by decide, Num.zero_ok, Num.zero_ok, .inl rfl⟩, ?_⟩
      rw [c, Num.val_zero]
      simp
    · have n : a.neg = false := by
        cases q : a.neg
        · rfl
        · unfold Num.sign at h; rw [fa, c.kind, q] at h; simp at h
      have r2 : ∀ up, (Num.root a up).2 = true := by intro up; unfold Num.root; rw [fa]; simp [n, c.kind]
      have r1 := Num.root_fin c n
      rw [r2, r2, r1, r1, Num.val_nn n]
      obtain ⟨d1, d2, d3, d4⟩ := rootF_dn c
      obtain ⟨u1, u2, u3, u4⟩ := rootF_up c
      have dl := d1.lt
      have ul := u1.lt
      have kd : (Num.rootF a false).kind ≠ 2 := by rw [d1.kind]; decide
      have ku : (Num.rootF a true).kind ≠ 2 := by rw [u1.kind]; decide
      rw [Num.val_nn d2, Num.val_nn u2]
      refine ⟨rfl, rfl, ⟨exact_dv d1.may d1.ok kd, exact_dv u1.may u1.ok ku, exact_t d1.may kd, exact_t u1.may ku, d1.ok, u1.ok, ?_⟩, d3, u3⟩
      have sW : ∀ s : Num, s.may = true → s.ok → 0 ≤ s.val → s.val = s.W := by
        intro s ms os h0
        rcases Num.nn_cases ms os h0 with k | ⟨_, k⟩ | k
        · rw [k]; rfl
        · exact Num.val_nn k
        · rw [k]; rfl
      refine neighbours (P := fun v => v * v ≤ a.W * pw 0) (Q := fun v => a.W * pw 0 ≤ v * v) d1.may d1.ok kd (by rw [Num.val_nn d2]; omega) u1.may u1.ok ?_ (fun v => by omega) (fun s ms os i h0 h => ?_) (fun s ms os i h0 h => ?_)
      · rw [Num.val_nn d2, Num.val_nn u2]
        exact sq_le_of (by omega) (by omega)
      · rw [sW s ms os h0] at h ⊢
        rw [Num.val_nn d2]
        refine d4 s ms os ?_ h
        intro z
        have e := Num.inf_of ms os z
        cases q : s.neg
        · rw [q] at e; exact i e
        · rw [q] at e; rw [e, Num.val_inf, if_pos rfl] at h0; have := pw_pos 1048640; omega
      · rw [sW s ms os h0] at h ⊢
        rw [Num.val_nn u2]
        exact u4 s ms os h
    · rw [c] at ka; exact absurd rfl ka
end Go.Proofs.YtmdgeaagaljheaaDoor.Ev

/- Contracts of the laws QuotHolds and QuotSquares. Printed by gen.py. -/
namespace Go.Proofs.YtmdgeaagaljheaaDoor.Ev
open Go Go.Proofs
set_option linter.unusedVariables false
set_option linter.unusedSimpArgs false

attribute [local irreducible] Lb
set_option maxHeartbeats 4000000 in
theorem c_QuotHolds (a : Num) (oa : a.ok) (b : Num) (ob : b.ok) : ∃ t : Bool, t = true ∧ CallsA Tryd.prog 3 [a.av, b.av] (.bool (.s t)) := by
  refine ⟨_, rfl, ?_⟩
  have law := quot_holds oa ob
  have z0 := pw_pos 0
  refine callsA_of hG hm Tryd.func3 (by kernel_rfl) ?_
  intro E hE lp hl'
  cbv
  (first | (apply E_pcallX hE (c_awake07); (case hm => rfl); (case hle => (repeat' (first | exact u_nil | apply u_cons | apply u2_agg | exact u2_int | exact u1_int | exact u2_bool | exact u1_bool | exact u2_sli | exact u1_sli | exact u2_s0 | exact u1_s0))); all_goals (first | (intro up hup; cbv) | (assumption))) | (apply E_callX hE (c_awake07); (case hf => rfl); (case hc => (cbv <;> trivial)); (case hle => (repeat' (first | exact u_nil | apply u_cons | apply u2_agg | exact u2_int | exact u1_int | exact u2_bool | exact u1_bool | exact u2_sli | exact u1_sli | exact u2_s0 | exact u1_s0))); all_goals (first | (intro up hup; cbv) | (assumption))))
  (first | (apply E_pcallX hE (c_Exact ⟨_, _, _, _⟩ oa); (case hm => rfl); (case hle => (repeat' (first | exact u_nil | apply u_cons | apply u2_agg | exact u2_int | exact u1_int | exact u2_bool | exact u1_bool | exact u2_sli | exact u1_sli | exact u2_s0 | exact u1_s0))); all_goals (first | (intro x hx; cbv) | (assumption))) | (apply E_callX hE (c_Exact ⟨_, _, _, _⟩ oa); (case hf => rfl); (case hc => (cbv <;> trivial)); (case hle => (repeat' (first | exact u_nil | apply u_cons | apply u2_agg | exact u2_int | exact u1_int | exact u2_bool | exact u1_bool | exact u2_sli | exact u1_sli | exact u2_s0 | exact u1_s0))); all_goals (first | (intro x hx; cbv) | (assumption))))
  have x1 : x.1 = dyL a.exact.1 := by have k : x = (dyL a.exact.1, a.exact.2) := hx; rw [k]
  have x2 : x.2 = a.exact.2 := by have k : x = (dyL a.exact.1, a.exact.2) := hx; rw [k]
  clear hx
  (first | (apply E_pcallX hE (c_Exact ⟨_, _, _, _⟩ ob); (case hm => rfl); (case hle => (repeat' (first | exact u_nil | apply u_cons | apply u2_agg | exact u2_int | exact u1_int | exact u2_bool | exact u1_bool | exact u2_sli | exact u1_sli | exact u2_s0 | exact u1_s0))); all_goals (first | (intro y hy; cbv) | (assumption))) | (apply E_callX hE (c_Exact ⟨_, _, _, _⟩ ob); (case hf => rfl); (case hc => (cbv <;> trivial)); (case hle => (repeat' (first | exact u_nil | apply u_cons | apply u2_agg | exact u2_int | exact u1_int | exact u2_bool | exact u1_bool | exact u2_sli | exact u1_sli | exact u2_s0 | exact u1_s0))); all_goals (first | (intro y hy; cbv) | (assumption))))
  have y1 : y.1 = dyL b.exact.1 := by have k : y = (dyL b.exact.1, b.exact.2) := hy; rw [k]
  have y2 : y.2 = b.exact.2 := by have k : y = (dyL b.exact.1, b.exact.2) := hy; rw [k]
  clear hy
  have b0 : E.bnot up = false := by subst hE; rw [hup]; rfl
  refine E_br_f hE b0 ?_; cbv
  have ff : ∀ t : Bool, E.bnot t = false → t = true := by intro t h; subst hE; cases t; exact absurd h (by decide); rfl
  have fl : ∀ u v : Int, E.cmp .lss u v = false → ¬ u < v := by intro u v h; subst hE; exact of_decide_eq_false h
  have fe : ∀ u v : Int, E.cmp .leq u v = false → ¬ u ≤ v := by intro u v h; subst hE; exact of_decide_eq_false h
  have fg : ∀ u v : Int, E.cmp .gtr u v = false → ¬ u > v := by intro u v h; subst hE; exact of_decide_eq_false h
  refine E_br hE (fun g1 => ?_) (fun g1 => ?_) <;> cbv
  · exact hup
  refine E_br hE (fun g2 => ?_) (fun g2 => ?_) <;> cbv
  · exact hup
  (first | (apply E_pcallX hE (c_Sign ⟨_, _, _, _⟩); (case hm => rfl); (case hle => (repeat' (first | exact u_nil | apply u_cons | apply u2_agg | exact u2_int | exact u1_int | exact u2_bool | exact u1_bool | exact u2_sli | exact u1_sli | exact u2_s0 | exact u1_s0))); all_goals (first | (intro sa hsa; cbv) | (assumption))) | (apply E_callX hE (c_Sign ⟨_, _, _, _⟩); (case hf => rfl); (case hc => (cbv <;> trivial)); (case hle => (repeat' (first | exact u_nil | apply u_cons | apply u2_agg | exact u2_int | exact u1_int | exact u2_bool | exact u1_bool | exact u2_sli | exact u1_sli | exact u2_s0 | exact u1_s0))); all_goals (first | (intro sa hsa; cbv) | (assumption))))
  refine E_br hE (fun g3 => ?_) (fun g3 => ?_) <;> cbv
  · exact hup
  (first | (apply E_pcallX hE (c_Sign ⟨_, _, _, _⟩); (case hm => rfl); (case hle => (repeat' (first | exact u_nil | apply u_cons | apply u2_agg | exact u2_int | exact u1_int | exact u2_bool | exact u1_bool | exact u2_sli | exact u1_sli | exact u2_s0 | exact u1_s0))); all_goals (first | (intro sb hsb; cbv) | (assumption))) | (apply E_callX hE (c_Sign ⟨_, _, _, _⟩); (case hf => rfl); (case hc => (cbv <;> trivial)); (case hle => (repeat' (first | exact u_nil | apply u_cons | apply u2_agg | exact u2_int | exact u1_int | exact u2_bool | exact u1_bool | exact u2_sli | exact u1_sli | exact u2_s0 | exact u1_s0))); all_goals (first | (intro sb hsb; cbv) | (assumption))))
  refine E_br hE (fun g4 => ?_) (fun g4 => ?_) <;> cbv
  · exact hup
  refine E_br hE (fun g5 => ?_) (fun g5 => ?_) <;> cbv
  · exact hup
  refine E_br hE (fun g6 => ?_) (fun g6 => ?_) <;> cbv
  · exact hup
  refine E_br hE (fun g7 => ?_) (fun g7 => ?_) <;> cbv
  · exact hup
  refine E_br hE (fun g8 => ?_) (fun g8 => ?_) <;> cbv
  · exact hup
  have hsa : sa = a.sign := hsa
  have hsb : sb = b.sign := hsb
  have LAW := law (x2.symm.trans (ff _ g1)) (y2.symm.trans (ff _ g2)) (by rw [← hsa]; exact fl _ _ g3) (by rw [← hsb]; exact fe _ _ g4) (by have := fg _ _ g5; omega) (by have := fl _ _ g8; omega)
  clear law
  obtain ⟨⟨dl, dh, el, eh, ol, oh, nb⟩, da, db, LO, HI⟩ := LAW
  have da2 := da.mono (show 1048704 ≤ 2097408 by decide)
  (first | (apply E_pcallX hE (c_quDiv ⟨_, _, _, _⟩ ⟨_, _, _, _⟩ false oa ob); (case hm => rfl); (case hle => (repeat' (first | exact u_nil | apply u_cons | apply u2_agg | exact u2_int | exact u1_int | exact u2_bool | exact u1_bool | exact u2_sli | exact u1_sli | exact u2_s0 | exact u1_s0))); all_goals (first | (intro l hl; cbv) | (assumption))) | (apply E_callX hE (c_quDiv ⟨_, _, _, _⟩ ⟨_, _, _, _⟩ false oa ob); (case hf => rfl); (case hc => (cbv <;> trivial)); (case hle => (repeat' (first | exact u_nil | apply u_cons | apply u2_agg | exact u2_int | exact u1_int | exact u2_bool | exact u1_bool | exact u2_sli | exact u1_sli | exact u2_s0 | exact u1_s0))); all_goals (first | (intro l hl; cbv) | (assumption))))
  have hl : l = Num.div a b false := hl
  rw [← hl] at dl el ol nb LO
  (first | (apply E_pcallX hE (c_quDiv ⟨_, _, _, _⟩ ⟨_, _, _, _⟩ true oa ob); (case hm => rfl); (case hle => (repeat' (first | exact u_nil | apply u_cons | apply u2_agg | exact u2_int | exact u1_int | exact u2_bool | exact u1_bool | exact u2_sli | exact u1_sli | exact u2_s0 | exact u1_s0))); all_goals (first | (intro h hh; cbv) | (assumption))) | (apply E_callX hE (c_quDiv ⟨_, _, _, _⟩ ⟨_, _, _, _⟩ true oa ob); (case hf => rfl); (case hc => (cbv <;> trivial)); (case hle => (repeat' (first | exact u_nil | apply u_cons | apply u2_agg | exact u2_int | exact u1_int | exact u2_bool | exact u1_bool | exact u2_sli | exact u1_sli | exact u2_s0 | exact u1_s0))); all_goals (first | (intro h hh; cbv) | (assumption))))
  have hh : h = Num.div a b true := hh
  rw [← hh] at dh eh oh nb HI
  (first | (apply E_pcallX hE (c_Exact ⟨_, _, _, _⟩ ol); (case hm => rfl); (case hle => (repeat' (first | exact u_nil | apply u_cons | apply u2_agg | exact u2_int | exact u1_int | exact u2_bool | exact u1_bool | exact u2_sli | exact u1_sli | exact u2_s0 | exact u1_s0))); all_goals (first | (intro m hm; cbv) | (assumption))) | (apply E_callX hE (c_Exact ⟨_, _, _, _⟩ ol); (case hf => rfl); (case hc => (cbv <;> trivial)); (case hle => (repeat' (first | exact u_nil | apply u_cons | apply u2_agg | exact u2_int | exact u1_int | exact u2_bool | exact u1_bool | exact u2_sli | exact u1_sli | exact u2_s0 | exact u1_s0))); all_goals (first | (intro m hm; cbv) | (assumption))))
  have m1 : m.1 = dyL l.exact.1 := by have k : m = (dyL l.exact.1, l.exact.2) := hm; rw [k]
  have m2 : m.2 = l.exact.2 := by have k : m = (dyL l.exact.1, l.exact.2) := hm; rw [k]
  clear hm
  (first | (apply E_pcallX hE (c_Exact ⟨_, _, _, _⟩ oh); (case hm => rfl); (case hle => (repeat' (first | exact u_nil | apply u_cons | apply u2_agg | exact u2_int | exact u1_int | exact u2_bool | exact u1_bool | exact u2_sli | exact u1_sli | exact u2_s0 | exact u1_s0))); all_goals (first | (intro n hn; cbv) | (assumption))) | (apply E_callX hE (c_Exact ⟨_, _, _, _⟩ oh); (case hf => rfl); (case hc => (cbv <;> trivial)); (case hle => (repeat' (first | exact u_nil | apply u_cons | apply u2_agg | exact u2_int | exact u1_int | exact u2_bool | exact u1_bool | exact u2_sli | exact u1_sli | exact u2_s0 | exact u1_s0))); all_goals (first | (intro n hn; cbv) | (assumption))))
  have n1 : n.1 = dyL h.exact.1 := by have k : n = (dyL h.exact.1, h.exact.2) := hn; rw [k]
  have n2 : n.2 = h.exact.2 := by have k : n = (dyL h.exact.1, h.exact.2) := hn; rw [k]
  clear hn
  refine E_br_t hE (m2.trans el) ?_; cbv
  refine E_br_t hE (n2.trans eh) ?_; cbv
  (first | (apply E_pcallX hE (c_dyMul 1048704 1048704 (by decide) l.exact.1 b.exact.1 _ _ dl db _ _ m1 y1); (case hm => rfl); (case hle => (repeat' (first | exact u_nil | apply u_cons | apply u2_agg | exact u2_int | exact u1_int | exact u2_bool | exact u1_bool | exact u2_sli | exact u1_sli | exact u2_s0 | exact u1_s0))); all_goals (first | (intro p1 hp1; cbv) | (assumption))) | (apply E_callX hE (c_dyMul 1048704 1048704 (by decide) l.exact.1 b.exact.1 _ _ dl db _ _ m1 y1); (case hf => rfl); (case hc => (cbv <;> trivial)); (case hle => (repeat' (first | exact u_nil | apply u_cons | apply u2_agg | exact u2_int | exact u1_int | exact u2_bool | exact u1_bool | exact u2_sli | exact u1_sli | exact u2_s0 | exact u1_s0))); all_goals (first | (intro p1 hp1; cbv) | (assumption))))
  obtain ⟨v1, P1, e1⟩ := dyProd_val (by decide) dl db
  (first | (apply E_pcallX hE (c_dyCmp 2097408 (by decide) _ a.exact.1 v1 _ P1 da2 p1 x.1 hp1 x1); (case hm => rfl); (case hle => (repeat' (first | exact u_nil | apply u_cons | apply u2_agg | exact u2_int | exact u1_int | exact u2_bool | exact u1_bool | exact u2_sli | exact u1_sli | exact u2_s0 | exact u1_s0))); all_goals (first | (intro c1 hc1; cbv) | (assumption))) | (apply E_callX hE (c_dyCmp 2097408 (by decide) _ a.exact.1 v1 _ P1 da2 p1 x.1 hp1 x1); (case hf => rfl); (case hc => (cbv <;> trivial)); (case hle => (repeat' (first | exact u_nil | apply u_cons | apply u2_agg | exact u2_int | exact u1_int | exact u2_bool | exact u1_bool | exact u2_sli | exact u1_sli | exact u2_s0 | exact u1_s0))); all_goals (first | (intro c1 hc1; cbv) | (assumption))))
  have k1 : E.cmp .leq c1 0 = true := by
    have g : v1 ≤ a.val := Int.le_of_mul_le_mul_right (by rw [e1]; exact LO) z0
    have k : c1 ≤ 0 := by rw [hc1]; split; decide; rw [if_neg (by omega)]; exact Int.le_refl 0
    subst hE; exact decide_eq_true k
  refine E_br_t hE k1 ?_; cbv
  (first | (apply E_pcallX hE (c_dyMul 1048704 1048704 (by decide) h.exact.1 b.exact.1 _ _ dh db _ _ n1 y1); (case hm => rfl); (case hle => (repeat' (first | exact u_nil | apply u_cons | apply u2_agg | exact u2_int | exact u1_int | exact u2_bool | exact u1_bool | exact u2_sli | exact u1_sli | exact u2_s0 | exact u1_s0))); all_goals (first | (intro p2 hp2; cbv) | (assumption))) | (apply E_callX hE (c_dyMul 1048704 1048704 (by decide) h.exact.1 b.exact.1 _ _ dh db _ _ n1 y1); (case hf => rfl); (case hc => (cbv <;> trivial)); (case hle => (repeat' (first | exact u_nil | apply u_cons | apply u2_agg | exact u2_int | exact u1_int | exact u2_bool | exact u1_bool | exact u2_sli | exact u1_sli | exact u2_s0 | exact u1_s0))); all_goals (first | (intro p2 hp2; cbv) | (assumption))))
  obtain ⟨v2, P2, e2⟩ := dyProd_val (by decide) dh db
  (first | (apply E_pcallX hE (c_dyCmp 2097408 (by decide) _ a.exact.1 v2 _ P2 da2 p2 x.1 hp2 x1); (case hm => rfl); (case hle => (repeat' (first | exact u_nil | apply u_cons | apply u2_agg | exact u2_int | exact u1_int | exact u2_bool | exact u1_bool | exact u2_sli | exact u1_sli | exact u2_s0 | exact u1_s0))); all_goals (first | (intro c2 hc2; cbv) | (assumption))) | (apply E_callX hE (c_dyCmp 2097408 (by decide) _ a.exact.1 v2 _ P2 da2 p2 x.1 hp2 x1); (case hf => rfl); (case hc => (cbv <;> trivial)); (case hle => (repeat' (first | exact u_nil | apply u_cons | apply u2_agg | exact u2_int | exact u1_int | exact u2_bool | exact u1_bool | exact u2_sli | exact u1_sli | exact u2_s0 | exact u1_s0))); all_goals (first | (intro c2 hc2; cbv) | (assumption))))
  have k2 : E.cmp .geq c2 0 = true := by
    have g : a.val ≤ v2 := Int.le_of_mul_le_mul_right (by rw [e2]; exact HI) z0
    have k : 0 ≤ c2 := by rw [hc2]; rw [if_neg (by omega)]; split <;> decide
    subst hE; exact decide_eq_true k
  refine E_br_t hE k2 ?_; cbv
  rcases nb with e | e
  · refine E_br_t hE (num_eq_t hE l h e) ?_; cbv
  · refine E_br hE (fun g => ?_) (fun g => ?_) <;> cbv
    (first | (apply E_pcallX hE (c_Next ⟨_, _, _, _⟩ true); (case hm => rfl); (case hle => (repeat' (first | exact u_nil | apply u_cons | apply u2_agg | exact u2_int | exact u1_int | exact u2_bool | exact u1_bool | exact u2_sli | exact u1_sli | exact u2_s0 | exact u1_s0))); all_goals (first | (intro nx hnx; cbv) | (assumption))) | (apply E_callX hE (c_Next ⟨_, _, _, _⟩ true); (case hf => rfl); (case hc => (cbv <;> trivial)); (case hle => (repeat' (first | exact u_nil | apply u_cons | apply u2_agg | exact u2_int | exact u1_int | exact u2_bool | exact u1_bool | exact u2_sli | exact u1_sli | exact u2_s0 | exact u1_s0))); all_goals (first | (intro nx hnx; cbv) | (assumption))))
    have k : nx = h := by have j : nx = Num.next l true := hnx; rw [j]; exact e
    exact num_eq_t hE nx h k

set_option maxHeartbeats 4000000 in
theorem c_QuotSquares (a : Num) (oa : a.ok) : ∃ t : Bool, t = true ∧ CallsA Tryd.prog 4 [a.av] (.bool (.s t)) := by
  refine ⟨_, rfl, ?_⟩
  have law := sqr_holds oa
  have z0 := pw_pos 0
  refine callsA_of hG hm Tryd.func4 (by kernel_rfl) ?_
  intro E hE lp hl'
  cbv
  (first | (apply E_pcallX hE (c_awake07); (case hm => rfl); (case hle => (repeat' (first | exact u_nil | apply u_cons | apply u2_agg | exact u2_int | exact u1_int | exact u2_bool | exact u1_bool | exact u2_sli | exact u1_sli | exact u2_s0 | exact u1_s0))); all_goals (first | (intro up hup; cbv) | (assumption))) | (apply E_callX hE (c_awake07); (case hf => rfl); (case hc => (cbv <;> trivial)); (case hle => (repeat' (first | exact u_nil | apply u_cons | apply u2_agg | exact u2_int | exact u1_int | exact u2_bool | exact u1_bool | exact u2_sli | exact u1_sli | exact u2_s0 | exact u1_s0))); all_goals (first | (intro up hup; cbv) | (assumption))))
  (first | (apply E_pcallX hE (c_Exact ⟨_, _, _, _⟩ oa); (case hm => rfl); (case hle => (repeat' (first | exact u_nil | apply u_cons | apply u2_agg | exact u2_int | exact u1_int | exact u2_bool | exact u1_bool | exact u2_sli | exact u1_sli | exact u2_s0 | exact u1_s0))); all_goals (first | (intro x hx; cbv) | (assumption))) | (apply E_callX hE (c_Exact ⟨_, _, _, _⟩ oa); (case hf => rfl); (case hc => (cbv <;> trivial)); (case hle => (repeat' (first | exact u_nil | apply u_cons | apply u2_agg | exact u2_int | exact u1_int | exact u2_bool | exact u1_bool | exact u2_sli | exact u1_sli | exact u2_s0 | exact u1_s0))); all_goals (first | (intro x hx; cbv) | (assumption))))
  have x1 : x.1 = dyL a.exact.1 := by have k : x = (dyL a.exact.1, a.exact.2) := hx; rw [k]
  have x2 : x.2 = a.exact.2 := by have k : x = (dyL a.exact.1, a.exact.2) := hx; rw [k]
  clear hx
  have b0 : E.bnot up = false := by subst hE; rw [hup]; rfl
  refine E_br_f hE b0 ?_; cbv
  have ff : ∀ t : Bool, E.bnot t = false → t = true := by intro t h; subst hE; cases t; exact absurd h (by decide); rfl
  have f0 : ∀ t : Bool, t = false → E.bnot t = true := by intro t h; subst hE; rw [h]; rfl
  have fl : ∀ u v : Int, E.cmp .lss u v = false → ¬ u < v := by intro u v h; subst hE; exact of_decide_eq_false h
  have ft : ∀ u v : Int, E.cmp .lss u v = true → u < v := by intro u v h; subst hE; exact of_decide_eq_true h
  refine E_br hE (fun g1 => ?_) (fun g1 => ?_) <;> cbv
  · exact hup
  refine E_br hE (fun g2 => ?_) (fun g2 => ?_) <;> cbv
  · exact hup
  refine E_br hE (fun g3 => ?_) (fun g3 => ?_) <;> cbv
  · exact hup
  obtain ⟨da, NEG, POS⟩ := law (x2.symm.trans (ff _ g1))
  clear law
  have da2 := da.mono (show 1048704 ≤ 2097408 by decide)
  (first | (apply E_pcallX hE (c_quRoot ⟨_, _, _, _⟩ false oa); (case hm => rfl); (case hle => (repeat' (first | exact u_nil | apply u_cons | apply u2_agg | exact u2_int | exact u1_int | exact u2_bool | exact u1_bool | exact u2_sli | exact u1_sli | exact u2_s0 | exact u1_s0))); all_goals (first | (intro u hu; cbv) | (assumption))) | (apply E_callX hE (c_quRoot ⟨_, _, _, _⟩ false oa); (case hf => rfl); (case hc => (cbv <;> trivial)); (case hle => (repeat' (first | exact u_nil | apply u_cons | apply u2_agg | exact u2_int | exact u1_int | exact u2_bool | exact u1_bool | exact u2_sli | exact u1_sli | exact u2_s0 | exact u1_s0))); all_goals (first | (intro u hu; cbv) | (assumption))))
  (first | (apply E_pcallX hE (c_quRoot ⟨_, _, _, _⟩ true oa); (case hm => rfl); (case hle => (repeat' (first | exact u_nil | apply u_cons | apply u2_agg | exact u2_int | exact u1_int | exact u2_bool | exact u1_bool | exact u2_sli | exact u1_sli | exact u2_s0 | exact u1_s0))); all_goals (first | (intro w hw; cbv) | (assumption))) | (apply E_callX hE (c_quRoot ⟨_, _, _, _⟩ true oa); (case hf => rfl); (case hc => (cbv <;> trivial)); (case hle => (repeat' (first | exact u_nil | apply u_cons | apply u2_agg | exact u2_int | exact u1_int | exact u2_bool | exact u1_bool | exact u2_sli | exact u1_sli | exact u2_s0 | exact u1_s0))); all_goals (first | (intro w hw; cbv) | (assumption))))
  have hu : u = Num.root a false := hu
  have hw : w = Num.root a true := hw
  rw [← hu, ← hw] at NEG POS
  (first | (apply E_pcallX hE (c_Sign ⟨_, _, _, _⟩); (case hm => rfl); (case hle => (repeat' (first | exact u_nil | apply u_cons | apply u2_agg | exact u2_int | exact u1_int | exact u2_bool | exact u1_bool | exact u2_sli | exact u1_sli | exact u2_s0 | exact u1_s0))); all_goals (first | (intro sa hsa; cbv) | (assumption))) | (apply E_callX hE (c_Sign ⟨_, _, _, _⟩); (case hf => rfl); (case hc => (cbv <;> trivial)); (case hle => (repeat' (first | exact u_nil | apply u_cons | apply u2_agg | exact u2_int | exact u1_int | exact u2_bool | exact u1_bool | exact u2_sli | exact u1_sli | exact u2_s0 | exact u1_s0))); all_goals (first | (intro sa hsa; cbv) | (assumption))))
  have hsa : sa = a.sign := hsa
  refine E_br hE (fun g4 => ?_) (fun g4 => ?_) <;> cbv
  · obtain ⟨n1, n2⟩ := NEG (by rw [← hsa]; exact ft _ _ g4)
    refine E_br_t hE (f0 _ n1) ?_; cbv
    exact f0 _ n2
  obtain ⟨q1, q2, ⟨dl, dh, el, eh, ol, oh, nb⟩, LO, HI⟩ := POS (by rw [← hsa]; exact fl _ _ g4)
  clear NEG POS hu hw
  obtain ⟨l, ul⟩ := u
  obtain ⟨h, wl⟩ := w
  dsimp only at dl dh el eh ol oh nb LO HI q1 q2
  (first | (apply E_pcallX hE (c_Exact ⟨_, _, _, _⟩ ol); (case hm => rfl); (case hle => (repeat' (first | exact u_nil | apply u_cons | apply u2_agg | exact u2_int | exact u1_int | exact u2_bool | exact u1_bool | exact u2_sli | exact u1_sli | exact u2_s0 | exact u1_s0))); all_goals (first | (intro m hm; cbv) | (assumption))) | (apply E_callX hE (c_Exact ⟨_, _, _, _⟩ ol); (case hf => rfl); (case hc => (cbv <;> trivial)); (case hle => (repeat' (first | exact u_nil | apply u_cons | apply u2_agg | exact u2_int | exact u1_int | exact u2_bool | exact u1_bool | exact u2_sli | exact u1_sli | exact u2_s0 | exact u1_s0))); all_goals (first | (intro m hm; cbv) | (assumption))))
  have m1 : m.1 = dyL l.exact.1 := by have k : m = (dyL l.exact.1, l.exact.2) := hm; rw [k]
  have m2 : m.2 = l.exact.2 := by have k : m = (dyL l.exact.1, l.exact.2) := hm; rw [k]
  clear hm
  (first | (apply E_pcallX hE (c_Exact ⟨_, _, _, _⟩ oh); (case hm => rfl); (case hle => (repeat' (first | exact u_nil | apply u_cons | apply u2_agg | exact u2_int | exact u1_int | exact u2_bool | exact u1_bool | exact u2_sli | exact u1_sli | exact u2_s0 | exact u1_s0))); all_goals (first | (intro n hn; cbv) | (assumption))) | (apply E_callX hE (c_Exact ⟨_, _, _, _⟩ oh); (case hf => rfl); (case hc => (cbv <;> trivial)); (case hle => (repeat' (first | exact u_nil | apply u_cons | apply u2_agg | exact u2_int | exact u1_int | exact u2_bool | exact u1_bool | exact u2_sli | exact u1_sli | exact u2_s0 | exact u1_s0))); all_goals (first | (intro n hn; cbv) | (assumption))))
  have n1 : n.1 = dyL h.exact.1 := by have k : n = (dyL h.exact.1, h.exact.2) := hn; rw [k]
  have n2 : n.2 = h.exact.2 := by have k : n = (dyL h.exact.1, h.exact.2) := hn; rw [k]
  clear hn
  refine E_br_t hE q1 ?_; cbv
  refine E_br_t hE q2 ?_; cbv
  refine E_br_t hE (m2.trans el) ?_; cbv
  refine E_br_t hE (n2.trans eh) ?_; cbv
  (first | (apply E_pcallX hE (c_dyMul 1048704 1048704 (by decide) l.exact.1 l.exact.1 _ _ dl dl _ _ m1 m1); (case hm => rfl); (case hle => (repeat' (first | exact u_nil | apply u_cons | apply u2_agg | exact u2_int | exact u1_int | exact u2_bool | exact u1_bool | exact u2_sli | exact u1_sli | exact u2_s0 | exact u1_s0))); all_goals (first | (intro p1 hp1; cbv) | (assumption))) | (apply E_callX hE (c_dyMul 1048704 1048704 (by decide) l.exact.1 l.exact.1 _ _ dl dl _ _ m1 m1); (case hf => rfl); (case hc => (cbv <;> trivial)); (case hle => (repeat' (first | exact u_nil | apply u_cons | apply u2_agg | exact u2_int | exact u1_int | exact u2_bool | exact u1_bool | exact u2_sli | exact u1_sli | exact u2_s0 | exact u1_s0))); all_goals (first | (intro p1 hp1; cbv) | (assumption))))
  obtain ⟨v1, P1, e1⟩ := dyProd_val (by decide) dl dl
  (first | (apply E_pcallX hE (c_dyCmp 2097408 (by decide) _ a.exact.1 v1 _ P1 da2 p1 x.1 hp1 x1); (case hm => rfl); (case hle => (repeat' (first | exact u_nil | apply u_cons | apply u2_agg | exact u2_int | exact u1_int | exact u2_bool | exact u1_bool | exact u2_sli | exact u1_sli | exact u2_s0 | exact u1_s0))); all_goals (first | (intro c1 hc1; cbv) | (assumption))) | (apply E_callX hE (c_dyCmp 2097408 (by decide) _ a.exact.1 v1 _ P1 da2 p1 x.1 hp1 x1); (case hf => rfl); (case hc => (cbv <;> trivial)); (case hle => (repeat' (first | exact u_nil | apply u_cons | apply u2_agg | exact u2_int | exact u1_int | exact u2_bool | exact u1_bool | exact u2_sli | exact u1_sli | exact u2_s0 | exact u1_s0))); all_goals (first | (intro c1 hc1; cbv) | (assumption))))
  have k1 : E.cmp .leq c1 0 = true := by
    have g : v1 ≤ a.val := Int.le_of_mul_le_mul_right (by rw [e1]; exact LO) z0
    have k : c1 ≤ 0 := by rw [hc1]; split; decide; rw [if_neg (by omega)]; exact Int.le_refl 0
    subst hE; exact decide_eq_true k
  refine E_br_t hE k1 ?_; cbv
  (first | (apply E_pcallX hE (c_dyMul 1048704 1048704 (by decide) h.exact.1 h.exact.1 _ _ dh dh _ _ n1 n1); (case hm => rfl); (case hle => (repeat' (first | exact u_nil | apply u_cons | apply u2_agg | exact u2_int | exact u1_int | exact u2_bool | exact u1_bool | exact u2_sli | exact u1_sli | exact u2_s0 | exact u1_s0))); all_goals (first | (intro p2 hp2; cbv) | (assumption))) | (apply E_callX hE (c_dyMul 1048704 1048704 (by decide) h.exact.1 h.exact.1 _ _ dh dh _ _ n1 n1); (case hf => rfl); (case hc => (cbv <;> trivial)); (case hle => (repeat' (first | exact u_nil | apply u_cons | apply u2_agg | exact u2_int | exact u1_int | exact u2_bool | exact u1_bool | exact u2_sli | exact u1_sli | exact u2_s0 | exact u1_s0))); all_goals (first | (intro p2 hp2; cbv) | (assumption))))
  obtain ⟨v2, P2, e2⟩ := dyProd_val (by decide) dh dh
  (first | (apply E_pcallX hE (c_dyCmp 2097408 (by decide) _ a.exact.1 v2 _ P2 da2 p2 x.1 hp2 x1); (case hm => rfl); (case hle => (repeat' (first | exact u_nil | apply u_cons | apply u2_agg | exact u2_int | exact u1_int | exact u2_bool | exact u1_bool | exact u2_sli | exact u1_sli | exact u2_s0 | exact u1_s0))); all_goals (first | (intro c2 hc2; cbv) | (assumption))) | (apply E_callX hE (c_dyCmp 2097408 (by decide) _ a.exact.1 v2 _ P2 da2 p2 x.1 hp2 x1); (case hf => rfl); (case hc => (cbv <;> trivial)); (case hle => (repeat' (first | exact u_nil | apply u_cons | apply u2_agg | exact u2_int | exact u1_int | exact u2_bool | exact u1_bool | exact u2_sli | exact u1_sli | exact u2_s0 | exact u1_s0))); all_goals (first | (intro c2 hc2; cbv) | (assumption))))
  have k2 : E.cmp .geq c2 0 = true := by
    have g : a.val ≤ v2 := Int.le_of_mul_le_mul_right (by rw [e2]; exact HI) z0
    have k : 0 ≤ c2 := by rw [hc2]; rw [if_neg (by omega)]; split <;> decide
    subst hE; exact decide_eq_true k
  refine E_br_t hE k2 ?_; cbv
  rcases nb with e | e
  · refine E_br_t hE (num_eq_t hE l h e) ?_; cbv
  · refine E_br hE (fun g => ?_) (fun g => ?_) <;> cbv
    (first | (apply E_pcallX hE (c_Next ⟨_, _, _, _⟩ true); (case hm => rfl); (case hle => (repeat' (first | exact u_nil | apply u_cons | apply u2_agg | exact u2_int | exact u1_int | exact u2_bool | exact u1_bool | exact u2_sli | exact u1_sli | exact u2_s0 | exact u1_s0))); all_goals (first | (intro nx hnx; cbv) | (assumption))) | (apply E_callX hE (c_Next ⟨_, _, _, _⟩ true); (case hf => rfl); (case hc => (cbv <;> trivial)); (case hle => (repeat' (first | exact u_nil | apply u_cons | apply u2_agg | exact u2_int | exact u1_int | exact u2_bool | exact u1_bool | exact u2_sli | exact u1_sli | exact u2_s0 | exact u1_s0))); all_goals (first | (intro nx hnx; cbv) | (assumption))))
    have k : nx = h := by have j : nx = Num.next l true := hnx; rw [j]; exact e
    exact num_eq_t hE nx h k


end Go.Proofs.YtmdgeaagaljheaaDoor.Ev

/- What an argument that reads as data stands for: numbers and intervals. -/
namespace Go.Proofs.YtmdgeaagaljheaaDoor.Ev
open Go Go.ChangeShapes Go.WideShapes Go.RowKit
set_option linter.unusedVariables false
set_option maxRecDepth 100000

section
variable {H : Type} {enc : TypeId × Value → H} {w : World} {base : Nat} {spare : Nat → Bool} {held : Bool}

theorem wf_u64 {n : Int} (h : (Lit.int .u64 n).wf = true) : 0 ≤ n ∧ n < 18446744073709551616 := by
  simp only [Lit.wf, IntKind.min, IntKind.max, IntKind.signed, IntKind.bits, Bool.and_eq_true] at h
  have := h.1; have := h.2
  simp at *
  omega
theorem wf_i64 {n : Int} (h : (Lit.int .i64 n).wf = true) : -9223372036854775808 ≤ n ∧ n < 9223372036854775808 := by
  simp only [Lit.wf, IntKind.min, IntKind.max, IntKind.signed, IntKind.bits, Bool.and_eq_true] at h
  have := h.1; have := h.2
  simp at *
  omega

/-- a number's fields are of their words -/
def Num.wf (n : Num) : Prop := n.ok ∧ (-9223372036854775808 ≤ n.e ∧ n.e < 9223372036854775808) ∧ (-9223372036854775808 ≤ n.kind ∧ n.kind < 9223372036854775808)
def Num.vals (n : Num) : List Value := [.int .i64 n.kind, .bool n.neg, .int .u64 n.m, .int .i64 n.e]

theorem read_num {fuel : Nat} {cs : List Value} {x : DataW H × List MemPlace} (h : DataW.trod enc Tryd.prog w base spare held fuel 24 cs = some x) : ∃ n : Num, cs = n.vals ∧ n.wf := by
  obtain ⟨xs, m, rfl, _, hl, hxs, hf⟩ := DataW.trod_struct Tryd.underlying24 h
  rw [show Tryd.prog.cellsOf 24 = 4 by kernel_rfl] at hl
  obtain ⟨c0, c1, c2, c3, rfl⟩ : ∃ a b c d, cs = [a, b, c, d] := by
    rcases cs with _ | ⟨a, _ | ⟨b, _ | ⟨c, _ | ⟨d, _ | ⟨e, r⟩⟩⟩⟩⟩ <;> simp at hl
    exact ⟨a, b, c, d, rfl⟩
  have get : ∀ i, i < 4 → ∃ y, xs[i]? = some y := fun i hi => ⟨_, List.getElem?_eq_getElem (by rw [hxs]; exact hi)⟩
  obtain ⟨y0, e0⟩ := get 0 (by omega)
  obtain ⟨y1, e1⟩ := get 1 (by omega)
  obtain ⟨y2, e2⟩ := get 2 (by omega)
  obtain ⟨y3, e3⟩ := get 3 (by omega)
  have z3 : Tryd.prog.cellsOf 3 = 1 := by kernel_rfl
  have z4 : Tryd.prog.cellsOf 4 = 1 := by kernel_rfl
  have z22 : Tryd.prog.cellsOf 22 = 1 := by kernel_rfl
  have h0 : DataW.trod enc Tryd.prog w base spare held m 3 (([c0, c1, c2, c3].drop 0).take (Tryd.prog.cellsOf 3)) = some y0 := (hf 0 _ rfl).trans e0
  have h1 : DataW.trod enc Tryd.prog w base spare held m 4 (([c0, c1, c2, c3].drop 1).take (Tryd.prog.cellsOf 4)) = some y1 := (hf 1 _ rfl).trans e1
  have h2 : DataW.trod enc Tryd.prog w base spare held m 22 (([c0, c1, c2, c3].drop 2).take (Tryd.prog.cellsOf 22)) = some y2 := (hf 2 _ rfl).trans e2
  have h3 : DataW.trod enc Tryd.prog w base spare held m 3 (([c0, c1, c2, c3].drop 3).take (Tryd.prog.cellsOf 3)) = some y3 := (hf 3 _ rfl).trans e3
  rw [z3] at h0 h3
  rw [z4] at h1
  rw [z22] at h2
  obtain ⟨n0, q0, _, w0⟩ := DataW.trod_int Tryd.underlying3 h0
  obtain ⟨n1, q1, _⟩ := DataW.trod_bool Tryd.underlying4 h1
  obtain ⟨n2, q2, _, w2⟩ := DataW.trod_int Tryd.underlying22 h2
  obtain ⟨n3, q3, _, w3⟩ := DataW.trod_int Tryd.underlying3 h3
  refine ⟨⟨n0, n1, n2, n3⟩, ?_, wf_u64 w2, wf_i64 w3, wf_i64 w0⟩
  obtain ⟨rfl⟩ : c0 = _ := (List.cons.inj q0).1
  obtain ⟨rfl⟩ : c1 = _ := (List.cons.inj q1).1
  obtain ⟨rfl⟩ : c2 = _ := (List.cons.inj q2).1
  obtain ⟨rfl⟩ : c3 = _ := (List.cons.inj q3).1
  rfl

def Iv.vals (x : Iv) : List Value := .bool x.empty :: (x.lo.vals ++ x.hi.vals)

theorem ro_num (O : Nat → Prop) (w : World) (n : Num) (ys : Array Value) (h : ys.toList = n.vals) : RoV O w n.av (.agg ys) := by
  obtain ⟨l⟩ := ys
  dsimp only at h
  subst h
  refine .agg _ _ rfl (fun j c hj => ?_)
  match j, hj with
  | 0, hj => simp at hj; subst hj; exact .int _ _ _ rfl
  | 1, hj => simp at hj; subst hj; exact .bool _ _ rfl
  | 2, hj => simp at hj; subst hj; exact .int _ _ _ rfl
  | 3, hj => simp at hj; subst hj; exact .int _ _ _ rfl
  | j + 4, hj => simp at hj

theorem arg_num {r : Reach} {b0 : Nat} {v : Value} {d : DataW H} {ps : List MemPlace} (hval : Value.okWide Tryd.prog w r b0 24 v) (hd : DataW.Trod enc Tryd.prog w base spare held 24 v d ps) :
    ∃ n : Num, n.wf ∧ ∀ O w', RoV O w' n.av v := by
  obtain ⟨cs, rfl, _⟩ := okWide_struct Tryd.underlying24 hval
  obtain ⟨fuel, hf⟩ := hd
  obtain ⟨n, e, hw⟩ := read_num hf
  exact ⟨n, hw, fun O w' => ro_num O w' n cs e⟩
end
end Go.Proofs.YtmdgeaagaljheaaDoor.Ev
