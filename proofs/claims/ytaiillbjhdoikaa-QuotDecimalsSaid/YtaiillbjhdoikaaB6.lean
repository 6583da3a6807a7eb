/- Texts of the proof, joined: S4 Pu20 Pu18 Pu21 Pu22 Pu23 C9h C10 C11 C12a C13 C14 C15 C16 C17 C18 C19 C20 Ok1 C23 Pu24 Pu25 Pu26 Pu28a Pu28 Pu29 Pu30 Pu19 Pu39 S5 S8 Pu45 Br18 D1 R1 R2 R3 R4 R5 R6 R7 R8 R9 R10 R11 R12 R13 R14 D2 D3 Pu40 Pu41 W7 Ev30 W8 Br17 Pu42 Pu47 S9 Rd Rd2 Rd3 -/
import Derived.Test.YtaiillbjhdoikaaB5
import Derived.Laws.Externs
import Derived.ChangeArms
import Derived.ProofKit
import Derived.RowKit
import Derived.Carry
import Derived.ChangeOld
import Derived.DataReads
set_option linter.unusedVariables false
set_option linter.unusedSimpArgs false

/- Contracts: powers of ten, decimal numbers rounded. Printed by gen.py. -/
namespace Go.Proofs.Ytaiillbjhdoikaa.Ev
open Go Go.Proofs
set_option linter.unusedVariables false
set_option linter.unusedSimpArgs false

attribute [local irreducible] Lb whN
def qpS (n : Int) : Int × Bool × List Int → St
  | (i, b, l) => ⟨[(2, .ptr 0 2 (.l 0) 0), (3, .ptr 1 2 (.l 0) 0), (5, .int .i64 (.s n)), (6, .int .i64 (.s i))],
      [.rows true 2 [.bool (.l false), .s0] [[.bool (.l false), .s0]], .rows true 2 [.bool (.l false), .s0] [[.bool (.s b), .sli .u32 l]]]⟩
theorem ten_len {k : Nat} (h : k ≤ 400) : (lim (10 ^ k)).length ≤ 100 := by
  refine lim_length_le ?_
  obtain ⟨a, b, ha, hb, hab⟩ : ∃ a b : Nat, a = 4 ∧ b = 100 ∧ k ≤ a * b := ⟨4, 100, rfl, rfl, h⟩
  have e1 : (10 : Nat) ^ k ≤ 10 ^ (a * b) := Nat.pow_le_pow_right (by decide) hab
  have e2 : (10 : Nat) ^ (a * b) < 4294967296 ^ b := by
    rw [Nat.pow_mul]
    exact Nat.pow_lt_pow_left (by rw [ha]; decide) (by rw [hb]; decide)
  rw [hb] at e2
  rw [hb] at e1
  exact Nat.lt_of_le_of_lt e1 e2
theorem whN_nat4 (k : Nat) : whN (k : Int) = (false, lim k) := by
  unfold whN
  rw [decide_eq_false (by omega), Int.natAbs_natCast]
set_option maxHeartbeats 1000000 in
theorem c_qPower (n : Int) (hn0 : -9223372036854775808 ≤ n) (hn : n ≤ 400) : ∃ t : Bool × List Int, t = whN ((10 ^ n.toNat : Nat) : Int) ∧ CallsA Try.prog 68 [.int .i64 (.s n)] (.agg [.bool (.s t.1), .sli .u32 t.2]) := by
  refine ⟨_, rfl, ?_⟩
  generalize hr : whN ((10 ^ n.toNat : Nat) : Int) = r
  obtain ⟨ms, em⟩ : ∃ ms : Int × Bool × List Int → Nat, ∀ p, ms p = (n - p.1).toNat := ⟨_, fun _ => rfl⟩
  obtain ⟨ok, eok⟩ : ∃ ok : Int × Bool × List Int → Prop, ∀ p, ok p ↔ (0 ≤ p.1 ∧ (0 < p.1 → p.1 ≤ n) ∧ p.2 = whN ((10 ^ p.1.toNat : Nat) : Int)) := ⟨_, fun _ => Iff.rfl⟩
  have start : ∀ x, x = (decide ((1 : Int) < 0), lim (1 : Int).natAbs) → ok (0, x) := by
    intro x hx
    refine (eok _).2 ⟨Int.le_refl _, fun h => absurd h (Int.lt_irrefl 0), ?_⟩
    show x = _
    rw [hx, whN_nat4]; rfl
  have bnd : ∀ i p, ok (i, p) → i < n → Lb p.2 ∧ p.2.length < 60000000 := by
    intro i p h hlt
    obtain ⟨h1, h2, h3⟩ := (eok _).1 h
    dsimp only at h1 h2 h3
    rw [h3, whN_nat4]
    refine ⟨lim_lb _, ?_⟩
    have := ten_len (k := i.toNat) (by omega)
    show (lim (10 ^ i.toNat)).length < 60000000
    omega
  have next : ∀ i p, ok (i, p) → i < n → ∀ u x, u = (decide ((10 : Int) < 0), lim (10 : Int).natAbs) → x = ((p.1 != u.1) && decide (lv p.2 * lv u.2 ≠ 0), lim (lv p.2 * lv u.2)) → ms (IntKind.i64.wrap (i + 1), x) < ms (i, p) ∧ ok (IntKind.i64.wrap (i + 1), x) := by
    intro i p h hlt u x hu hx
    obtain ⟨h1, h2, h3⟩ := (eok _).1 h
    dsimp only at h1 h2 h3
    rw [wi64_in (by omega) (by omega)]
    refine ⟨by rw [em, em]; dsimp only; omega, (eok _).2 ⟨by dsimp only; omega, fun _ => by dsimp only; omega, ?_⟩⟩
    show x = _
    have hu' : u = whN (10 : Int) := by rw [hu]; unfold whN; rfl
    rw [hx, mulN, hu', h3, wv_whN, wv_whN, show (i + 1).toNat = i.toNat + 1 by omega, Nat.pow_succ]
    rfl
  have stop : ∀ i p, ok (i, p) → ¬ i < n → p = r := by
    intro i p h hlt
    obtain ⟨h1, h2, h3⟩ := (eok _).1 h
    dsimp only at h1 h2 h3
    rw [h3, ← hr]
    congr 2
    by_cases z : 0 < i
    · have := h2 z; rw [show i.toNat = n.toNat by omega]
    · rw [show i.toNat = n.toNat by omega]
  have tb : ∀ u : Bool × List Int, u = (decide ((10 : Int) < 0), lim (10 : Int).natAbs) → Lb u.2 ∧ u.2.length < 60000000 := by
    intro u hu
    rw [hu]
    exact ⟨lim_lb (Int.natAbs 10), by decide⟩
  clear hr
  refine callsA_of hG hm Try.func68 (by kernel_rfl) ?_
  intro E hE lp hl
  cbv
  (first | (apply E_pcallX hE (c_wFrom 1 (by decide) (by decide)); (case hm => rfl); (case hle => (repeat' (first | exact u_nil | apply u_cons | apply u2_agg | exact u2_int | exact u1_int | exact u2_bool | exact u1_bool | exact u2_sli | exact u1_sli | exact u2_s0 | exact u1_s0))); all_goals (first | (intro x hx; cbv) | (assumption))) | (apply E_callX hE (c_wFrom 1 (by decide) (by decide)); (case hf => rfl); (case hc => (cbv <;> trivial)); (case hle => (repeat' (first | exact u_nil | apply u_cons | apply u2_agg | exact u2_int | exact u1_int | exact u2_bool | exact u1_bool | exact u2_sli | exact u1_sli | exact u2_s0 | exact u1_s0))); all_goals (first | (intro x hx; cbv) | (assumption))))
  refine E_loop hE hG hm hl (qpS n) ms ok ⟨(0, x), start x hx, stLe rfl ?_⟩ ?_
  · (repeat' (first | exact t_nil | apply t_cons | exact u2_sli | exact u2_int | exact u2_bool | exact (rfl : sle2 (.ptr 0 2 (.l 0) 0) (.ptr 0 2 (.l 0) 0)) | exact (rfl : sle2 (.ptr 1 2 (.l 0) 0) (.ptr 1 2 (.l 0) 0))))
  rintro ⟨i, b, l⟩ hok
  have bd := bnd i (b, l) hok
  have nx := next i (b, l) hok
  have sp := stop i (b, l) hok
  clear bnd next stop start hok hx
  cbv
  refine E_br hE (fun g => ?_) (fun g => ?_) <;> cbv
  · have g' : i < n := by subst hE; exact lss_t g
    have bd := bd g'
    have nx := nx g'
    (first | (apply E_pcallX hE (c_wFrom 10 (by decide) (by decide)); (case hm => rfl); (case hle => (repeat' (first | exact u_nil | apply u_cons | apply u2_agg | exact u2_int | exact u1_int | exact u2_bool | exact u1_bool | exact u2_sli | exact u1_sli | exact u2_s0 | exact u1_s0))); all_goals (first | (intro u hu; cbv) | (assumption))) | (apply E_callX hE (c_wFrom 10 (by decide) (by decide)); (case hf => rfl); (case hc => (cbv <;> trivial)); (case hle => (repeat' (first | exact u_nil | apply u_cons | apply u2_agg | exact u2_int | exact u1_int | exact u2_bool | exact u1_bool | exact u2_sli | exact u1_sli | exact u2_s0 | exact u1_s0))); all_goals (first | (intro u hu; cbv) | (assumption))))
    have ub := tb u hu
    apply E_pcallX hE (c_wMul2 b l u.1 u.2 bd.1 ub.1 bd.2 ub.2)
    case hm => rfl
    case hle => exact ⟨u2_slc', trivial⟩
    intro t ht
    cbv
    have q := nx u t hu ht
    refine ⟨(E.bin .add .i64 i 1, t), ?_, ?_, stLe rfl ?_⟩
    · subst hE; exact q.1
    · subst hE; exact q.2
    · (repeat' (first | exact t_nil | apply t_cons | exact u2_sli | exact u2_int | exact u2_bool | exact (rfl : sle2 (.ptr 0 2 (.l 0) 0) (.ptr 0 2 (.l 0) 0)) | exact (rfl : sle2 (.ptr 1 2 (.l 0) 0) (.ptr 1 2 (.l 0) 0))))
  · have g' : ¬ i < n := by subst hE; exact lss_f g
    have sp := sp g'
    rw [← sp]; exact ⟨rfl, rfl, trivial⟩

/-- a decimal number, rounded -/
def fromN (neg : Bool) (m : List Int) (tens : Int) (up : Bool) : Num :=
  if decMayB neg m tens = true then ratioN neg (lv m * 10 ^ tens.toNat) false (10 ^ (-tens).toNat) up else Num.zero
theorem ratioN_sign (na : Bool) (a : Nat) (nb : Bool) (b : Nat) (up : Bool) : ratioN (na && decide (a ≠ 0)) a nb b up = ratioN na a nb b up := by
  unfold ratioN
  split
  · rfl
  · split
    · rfl
    · rename_i h
      simp [h]
set_option maxHeartbeats 2000000 in
theorem c_quFrom (neg : Bool) (m : List Int) (tens : Int) (up : Bool) (hm_ : Lb m) (hl_ : m.length < 33554432) (ht0 : -9223372036854775808 ≤ tens) (ht1 : tens < 9223372036854775808) :
    ∃ t : Num, t = fromN neg m tens up ∧ CallsA Try.prog 28 [.agg [.bool (.s neg), .sli .u32 m, .int .i64 (.s tens)], .bool (.s up)] t.av := by
  refine ⟨_, rfl, ?_⟩
  generalize hr : fromN neg m tens up = r
  have bad : decMayB neg m tens = false → Num.zero = r := by intro h; rw [← hr]; unfold fromN; rw [if_neg (by rw [h]; decide)]
  have good : decMayB neg m tens = true → m.length < 60000000 ∧ -400 ≤ tens ∧ tens ≤ 400 ∧
      (∀ x y : Int, ∀ p1 t1 p2 : Bool × List Int, ∀ z : Num, p1 = whN ((10 ^ x.toNat : Nat) : Int) → x.toNat = tens.toNat → t1 = ((neg != p1.1) && decide (lv m * lv p1.2 ≠ 0), lim (lv m * lv p1.2)) →
        p2 = whN ((10 ^ y.toNat : Nat) : Int) → y.toNat = (-tens).toNat → Lb p1.2 ∧ p1.2.length < 60000000 ∧ Lb t1.2 ∧ t1.2.length ≤ 100000 ∧ Lb p2.2 ∧ p2.2.length ≤ 100000 ∧ (z = ratioN t1.1 (lv t1.2) p2.1 (lv p2.2) up → z = r)) := by
    intro h
    have k := decMay_ok hm_ h
    refine ⟨by omega, k.2.1, k.2.2.1, fun x y p1 t1 p2 z hp1 hx ht1 hp2 hy => ?_⟩
    rw [hx, whN_nat4] at hp1
    rw [hy, whN_nat4] at hp2
    have l1 := ten_len (k := tens.toNat) (by omega)
    have l2 := ten_len (k := (-tens).toNat) (by omega)
    rw [hp1] at ht1
    dsimp only at ht1
    rw [lv_lim] at ht1
    have lt : (lim (lv m * 10 ^ tens.toNat)).length ≤ 100000 := by
      have a1 := lv_lt hm_
      have a2 := lv_lt (lim_lb (10 ^ tens.toNat))
      rw [lv_lim] at a2
      have a3 : lv m * 10 ^ tens.toNat < 4294967296 ^ (m.length + (lim (10 ^ tens.toNat)).length) := by
        rw [Nat.pow_add]
        exact Nat.mul_lt_mul_of_lt_of_le' a1 (Nat.le_of_lt a2) (Nat.pow_pos (by decide))
      have := lim_length_le a3
      omega
    refine ⟨by rw [hp1]; exact lim_lb _, by rw [hp1]; dsimp only; omega, by rw [ht1]; exact lim_lb _, by rw [ht1]; exact lt, by rw [hp2]; exact lim_lb _, by rw [hp2]; dsimp only; omega, fun hz => ?_⟩
    rw [hz, ht1, hp2, ← hr]
    dsimp only
    unfold fromN
    rw [if_pos h, lv_lim, lv_lim, Bool.bne_false, ratioN_sign]
  clear hr
  refine callsA_of hG hm Try.func28 (by kernel_rfl) ?_
  intro E hE lp hl
  cbv
  (first | (apply E_pcallX hE (c_decMay neg m tens hm_ hl_ ht0 ht1); (case hm => rfl); (case hle => (repeat' (first | exact u_nil | apply u_cons | apply u2_agg | exact u2_int | exact u1_int | exact u2_bool | exact u1_bool | exact u2_sli | exact u1_sli | exact u2_s0 | exact u1_s0))); all_goals (first | (intro y hy; cbv) | (assumption))) | (apply E_callX hE (c_decMay neg m tens hm_ hl_ ht0 ht1); (case hf => rfl); (case hc => (cbv <;> trivial)); (case hle => (repeat' (first | exact u_nil | apply u_cons | apply u2_agg | exact u2_int | exact u1_int | exact u2_bool | exact u1_bool | exact u2_sli | exact u1_sli | exact u2_s0 | exact u1_s0))); all_goals (first | (intro y hy; cbv) | (assumption))))
  refine E_br hE (fun g => ?_) (fun g => ?_) <;> cbv
  · have g : decMayB neg m tens = false := by rw [← hy]; subst hE; cases y; rfl; exact absurd g (by decide)
    rw [← bad g]; exact ⟨rfl, rfl, rfl, rfl, trivial⟩
  have g : decMayB neg m tens = true := by rw [← hy]; subst hE; cases y; exact absurd g (by decide); rfl
  obtain ⟨b1, b2, b3, F⟩ := good g
  clear bad good hy
  have wn : E.bin .sub .i64 0 tens = -tens := by subst hE; show IntKind.i64.wrap (0 - tens) = _; rw [wi64_in (by omega) (by omega)]; omega
  refine E_br hE (fun c1 => ?_) (fun c1 => ?_) <;> cbv
  · have ex : (0 : Int).toNat = tens.toNat := by subst hE; have := gtr_t c1; show (0 : Int).toNat = tens.toNat; omega
    (first | (apply E_pcallX hE (c_qPower 0 ?_ ?_); (case hm => rfl); (case hle => (repeat' (first | exact u_nil | apply u_cons | apply u2_agg | exact u2_int | exact u1_int | exact u2_bool | exact u1_bool | exact u2_sli | exact u1_sli | exact u2_s0 | exact u1_s0))); all_goals (first | (intro p1 hp1; cbv) | (first | decide | exact ht0 | exact b3))) | (apply E_callX hE (c_qPower 0 ?_ ?_); (case hf => rfl); (case hc => (cbv <;> trivial)); (case hle => (repeat' (first | exact u_nil | apply u_cons | apply u2_agg | exact u2_int | exact u1_int | exact u2_bool | exact u1_bool | exact u2_sli | exact u1_sli | exact u2_s0 | exact u1_s0))); all_goals (first | (intro p1 hp1; cbv) | (first | decide | exact ht0 | exact b3))))
    have F1 := fun t1 y p2 z h1 h2 h3 => F 0 y p1 t1 p2 z hp1 ex h1 h2 h3
    have q1 := F1 _ (-tens) _ Num.zero rfl rfl rfl
    apply E_pcallX hE (c_wMul2 neg m p1.1 p1.2 hm_ q1.1 b1 q1.2.1)
    case hm => rfl
    case hle => exact ⟨u2_slc', trivial⟩
    intro t1 ht1
    cbv
    refine E_br hE (fun c2 => ?_) (fun c2 => ?_) <;> cbv
    · have ey : (0 : Int).toNat = (-tens).toNat := by rw [wn] at c2; subst hE; have := gtr_t c2; show (0 : Int).toNat = (-tens).toNat; omega
      (first | (apply E_pcallX hE (c_qPower 0 ?_ ?_); (case hm => rfl); (case hle => (repeat' (first | exact u_nil | apply u_cons | apply u2_agg | exact u2_int | exact u1_int | exact u2_bool | exact u1_bool | exact u2_sli | exact u1_sli | exact u2_s0 | exact u1_s0))); all_goals (first | (intro p2 hp2; cbv) | (first | decide | (rw [wn]; omega)))) | (apply E_callX hE (c_qPower 0 ?_ ?_); (case hf => rfl); (case hc => (cbv <;> trivial)); (case hle => (repeat' (first | exact u_nil | apply u_cons | apply u2_agg | exact u2_int | exact u1_int | exact u2_bool | exact u1_bool | exact u2_sli | exact u1_sli | exact u2_s0 | exact u1_s0))); all_goals (first | (intro p2 hp2; cbv) | (first | decide | (rw [wn]; omega)))))
      have q2 := fun z => F1 t1 0 p2 z ht1 hp2 ey
      have q3 := q2 Num.zero
      (first | (apply E_pcallX hE (c_qRatio t1.1 t1.2 p2.1 p2.2 up q3.2.2.1 q3.2.2.2.2.1 q3.2.2.2.1 q3.2.2.2.2.2.1); (case hm => rfl); (case hle => (repeat' (first | exact u_nil | apply u_cons | apply u2_agg | exact u2_int | exact u1_int | exact u2_bool | exact u1_bool | exact u2_sli | exact u1_sli | exact u2_s0 | exact u1_s0))); all_goals (first | (intro z hz; cbv) | (assumption))) | (apply E_callX hE (c_qRatio t1.1 t1.2 p2.1 p2.2 up q3.2.2.1 q3.2.2.2.2.1 q3.2.2.2.1 q3.2.2.2.2.2.1); (case hf => rfl); (case hc => (cbv <;> trivial)); (case hle => (repeat' (first | exact u_nil | apply u_cons | apply u2_agg | exact u2_int | exact u1_int | exact u2_bool | exact u1_bool | exact u2_sli | exact u1_sli | exact u2_s0 | exact u1_s0))); all_goals (first | (intro z hz; cbv) | (assumption))))
      rw [← (q2 z).2.2.2.2.2.2 hz]; exact ⟨rfl, rfl, rfl, rfl, trivial⟩
    · have ey : ((E.bin .sub .i64 0 tens) : Int).toNat = (-tens).toNat := by rw [wn]
      (first | (apply E_pcallX hE (c_qPower (E.bin .sub .i64 0 tens) ?_ ?_); (case hm => rfl); (case hle => (repeat' (first | exact u_nil | apply u_cons | apply u2_agg | exact u2_int | exact u1_int | exact u2_bool | exact u1_bool | exact u2_sli | exact u1_sli | exact u2_s0 | exact u1_s0))); all_goals (first | (intro p2 hp2; cbv) | (first | decide | (rw [wn]; omega)))) | (apply E_callX hE (c_qPower (E.bin .sub .i64 0 tens) ?_ ?_); (case hf => rfl); (case hc => (cbv <;> trivial)); (case hle => (repeat' (first | exact u_nil | apply u_cons | apply u2_agg | exact u2_int | exact u1_int | exact u2_bool | exact u1_bool | exact u2_sli | exact u1_sli | exact u2_s0 | exact u1_s0))); all_goals (first | (intro p2 hp2; cbv) | (first | decide | (rw [wn]; omega)))))
      have q2 := fun z => F1 t1 (E.bin .sub .i64 0 tens) p2 z ht1 hp2 ey
      have q3 := q2 Num.zero
      (first | (apply E_pcallX hE (c_qRatio t1.1 t1.2 p2.1 p2.2 up q3.2.2.1 q3.2.2.2.2.1 q3.2.2.2.1 q3.2.2.2.2.2.1); (case hm => rfl); (case hle => (repeat' (first | exact u_nil | apply u_cons | apply u2_agg | exact u2_int | exact u1_int | exact u2_bool | exact u1_bool | exact u2_sli | exact u1_sli | exact u2_s0 | exact u1_s0))); all_goals (first | (intro z hz; cbv) | (assumption))) | (apply E_callX hE (c_qRatio t1.1 t1.2 p2.1 p2.2 up q3.2.2.1 q3.2.2.2.2.1 q3.2.2.2.1 q3.2.2.2.2.2.1); (case hf => rfl); (case hc => (cbv <;> trivial)); (case hle => (repeat' (first | exact u_nil | apply u_cons | apply u2_agg | exact u2_int | exact u1_int | exact u2_bool | exact u1_bool | exact u2_sli | exact u1_sli | exact u2_s0 | exact u1_s0))); all_goals (first | (intro z hz; cbv) | (assumption))))
      rw [← (q2 z).2.2.2.2.2.2 hz]; exact ⟨rfl, rfl, rfl, rfl, trivial⟩
  · have ex : (tens : Int).toNat = tens.toNat := rfl
    (first | (apply E_pcallX hE (c_qPower tens ?_ ?_); (case hm => rfl); (case hle => (repeat' (first | exact u_nil | apply u_cons | apply u2_agg | exact u2_int | exact u1_int | exact u2_bool | exact u1_bool | exact u2_sli | exact u1_sli | exact u2_s0 | exact u1_s0))); all_goals (first | (intro p1 hp1; cbv) | (first | decide | exact ht0 | exact b3))) | (apply E_callX hE (c_qPower tens ?_ ?_); (case hf => rfl); (case hc => (cbv <;> trivial)); (case hle => (repeat' (first | exact u_nil | apply u_cons | apply u2_agg | exact u2_int | exact u1_int | exact u2_bool | exact u1_bool | exact u2_sli | exact u1_sli | exact u2_s0 | exact u1_s0))); all_goals (first | (intro p1 hp1; cbv) | (first | decide | exact ht0 | exact b3))))
    have F1 := fun t1 y p2 z h1 h2 h3 => F tens y p1 t1 p2 z hp1 ex h1 h2 h3
    have q1 := F1 _ (-tens) _ Num.zero rfl rfl rfl
    apply E_pcallX hE (c_wMul2 neg m p1.1 p1.2 hm_ q1.1 b1 q1.2.1)
    case hm => rfl
    case hle => exact ⟨u2_slc', trivial⟩
    intro t1 ht1
    cbv
    refine E_br hE (fun c2 => ?_) (fun c2 => ?_) <;> cbv
    · have ey : (0 : Int).toNat = (-tens).toNat := by rw [wn] at c2; subst hE; have := gtr_t c2; show (0 : Int).toNat = (-tens).toNat; omega
      (first | (apply E_pcallX hE (c_qPower 0 ?_ ?_); (case hm => rfl); (case hle => (repeat' (first | exact u_nil | apply u_cons | apply u2_agg | exact u2_int | exact u1_int | exact u2_bool | exact u1_bool | exact u2_sli | exact u1_sli | exact u2_s0 | exact u1_s0))); all_goals (first | (intro p2 hp2; cbv) | (first | decide | (rw [wn]; omega)))) | (apply E_callX hE (c_qPower 0 ?_ ?_); (case hf => rfl); (case hc => (cbv <;> trivial)); (case hle => (repeat' (first | exact u_nil | apply u_cons | apply u2_agg | exact u2_int | exact u1_int | exact u2_bool | exact u1_bool | exact u2_sli | exact u1_sli | exact u2_s0 | exact u1_s0))); all_goals (first | (intro p2 hp2; cbv) | (first | decide | (rw [wn]; omega)))))
      have q2 := fun z => F1 t1 0 p2 z ht1 hp2 ey
      have q3 := q2 Num.zero
      (first | (apply E_pcallX hE (c_qRatio t1.1 t1.2 p2.1 p2.2 up q3.2.2.1 q3.2.2.2.2.1 q3.2.2.2.1 q3.2.2.2.2.2.1); (case hm => rfl); (case hle => (repeat' (first | exact u_nil | apply u_cons | apply u2_agg | exact u2_int | exact u1_int | exact u2_bool | exact u1_bool | exact u2_sli | exact u1_sli | exact u2_s0 | exact u1_s0))); all_goals (first | (intro z hz; cbv) | (assumption))) | (apply E_callX hE (c_qRatio t1.1 t1.2 p2.1 p2.2 up q3.2.2.1 q3.2.2.2.2.1 q3.2.2.2.1 q3.2.2.2.2.2.1); (case hf => rfl); (case hc => (cbv <;> trivial)); (case hle => (repeat' (first | exact u_nil | apply u_cons | apply u2_agg | exact u2_int | exact u1_int | exact u2_bool | exact u1_bool | exact u2_sli | exact u1_sli | exact u2_s0 | exact u1_s0))); all_goals (first | (intro z hz; cbv) | (assumption))))
      rw [← (q2 z).2.2.2.2.2.2 hz]; exact ⟨rfl, rfl, rfl, rfl, trivial⟩
    · have ey : ((E.bin .sub .i64 0 tens) : Int).toNat = (-tens).toNat := by rw [wn]
      (first | (apply E_pcallX hE (c_qPower (E.bin .sub .i64 0 tens) ?_ ?_); (case hm => rfl); (case hle => (repeat' (first | exact u_nil | apply u_cons | apply u2_agg | exact u2_int | exact u1_int | exact u2_bool | exact u1_bool | exact u2_sli | exact u1_sli | exact u2_s0 | exact u1_s0))); all_goals (first | (intro p2 hp2; cbv) | (first | decide | (rw [wn]; omega)))) | (apply E_callX hE (c_qPower (E.bin .sub .i64 0 tens) ?_ ?_); (case hf => rfl); (case hc => (cbv <;> trivial)); (case hle => (repeat' (first | exact u_nil | apply u_cons | apply u2_agg | exact u2_int | exact u1_int | exact u2_bool | exact u1_bool | exact u2_sli | exact u1_sli | exact u2_s0 | exact u1_s0))); all_goals (first | (intro p2 hp2; cbv) | (first | decide | (rw [wn]; omega)))))
      have q2 := fun z => F1 t1 (E.bin .sub .i64 0 tens) p2 z ht1 hp2 ey
      have q3 := q2 Num.zero
      (first | (apply E_pcallX hE (c_qRatio t1.1 t1.2 p2.1 p2.2 up q3.2.2.1 q3.2.2.2.2.1 q3.2.2.2.1 q3.2.2.2.2.2.1); (case hm => rfl); (case hle => (repeat' (first | exact u_nil | apply u_cons | apply u2_agg | exact u2_int | exact u1_int | exact u2_bool | exact u1_bool | exact u2_sli | exact u1_sli | exact u2_s0 | exact u1_s0))); all_goals (first | (intro z hz; cbv) | (assumption))) | (apply E_callX hE (c_qRatio t1.1 t1.2 p2.1 p2.2 up q3.2.2.1 q3.2.2.2.2.1 q3.2.2.2.1 q3.2.2.2.2.2.1); (case hf => rfl); (case hc => (cbv <;> trivial)); (case hle => (repeat' (first | exact u_nil | apply u_cons | apply u2_agg | exact u2_int | exact u1_int | exact u2_bool | exact u1_bool | exact u2_sli | exact u1_sli | exact u2_s0 | exact u1_s0))); all_goals (first | (intro z hz; cbv) | (assumption))))
      rw [← (q2 z).2.2.2.2.2.2 hz]; exact ⟨rfl, rfl, rfl, rfl, trivial⟩

end Go.Proofs.Ytaiillbjhdoikaa.Ev

/- Sums and products of numbers: their order, and their opposites. Plain Lean. -/
namespace Go.Proofs.Ytaiillbjhdoikaa.Ev
open Go

theorem Num.may_fair {n : Num} (h : n.may = true) : n.fair = n := by unfold Num.fair; rw [if_pos h]
theorem Num.opp_inf (b : Bool) : (Num.inf b).opp = Num.inf (!b) := by cases b <;> decide
theorem Num.fair_inf {a : Num} (oa : a.ok) (k : a.fair.kind = 2) : a.fair = Num.inf a.fair.neg := Num.inf_of a.fair_may (Num.fair_ok oa) k

theorem Num.add_inf {a b : Num} (up : Bool) (ka : a.fair.kind = 2) : Num.add a b up = if b.fair.kind = 2 ∧ a.fair.neg ≠ b.fair.neg then Num.inf (!up) else a.fair := by
  unfold Num.add
  by_cases h : b.fair.kind = 2 ∧ a.fair.neg ≠ b.fair.neg
  · rw [if_pos ⟨ka, h⟩, if_pos h]
  · rw [if_neg (fun k => h k.2), if_neg h, if_pos (.inl ka)]
theorem Num.add_inf2 {a b : Num} (oa : a.ok) (ob : b.ok) (up : Bool) (kb : b.fair.kind = 2) : Num.add a b up = if a.fair.kind = 2 ∧ b.fair.neg ≠ a.fair.neg then Num.inf (!up) else b.fair := by
  unfold Num.add
  by_cases h : a.fair.kind = 2 ∧ b.fair.neg ≠ a.fair.neg
  · rw [if_pos ⟨h.1, kb, fun e => h.2 e.symm⟩, if_pos h]
  · rw [if_neg (fun k => h ⟨k.1, fun e => k.2.2 e.symm⟩), if_neg h]
    by_cases ka : a.fair.kind = 2
    · rw [if_pos (.inl ka), Num.fair_inf oa ka, Num.fair_inf ob kb]
      congr 1
      exact (Classical.not_not.1 (fun e => h ⟨ka, e⟩)).symm
    · rw [if_neg (by rw [kb]; simp [ka]), if_pos (.inl kb)]
theorem Num.add_comm {a b : Num} (oa : a.ok) (ob : b.ok) (up : Bool) : Num.add a b up = Num.add b a up := by
  by_cases ka : a.fair.kind = 2
  · rw [Num.add_inf up ka, Num.add_inf2 ob oa up ka]
  · by_cases kb : b.fair.kind = 2
    · rw [Num.add_inf2 oa ob up kb, Num.add_inf up kb]
    · exact (add_best oa ob ka kb up).uniq (add_best ob oa kb ka up) (by decide) (by decide) (by rw [Int.add_comm])

theorem Num.mul_comm {a b : Num} (oa : a.ok) (ob : b.ok) (up : Bool) : Num.mul a b up = Num.mul b a up := by
  have key : a.fair.kind = 2 ∨ b.fair.kind = 2 → Num.mul a b up = Num.mul b a up := by
    intro h
    unfold Num.mul
    by_cases h0 : a.fair.kind = 0 ∨ b.fair.kind = 0
    · have h0' : b.fair.kind = 0 ∨ a.fair.kind = 0 := h0.symm
      rw [if_pos h0]
      exact (if_pos h0').symm
    · have h0' : ¬ (b.fair.kind = 0 ∨ a.fair.kind = 0) := fun k => h0 k.symm
      rw [if_neg h0, if_pos h]
      refine Eq.trans ?_ (Eq.trans (if_pos h.symm).symm (if_neg h0').symm)
      congr 1
      cases a.fair.neg <;> cases b.fair.neg <;> rfl
  by_cases ka : a.fair.kind = 2
  · exact key (.inl ka)
  · by_cases kb : b.fair.kind = 2
    · exact key (.inr kb)
    · exact (mul_best oa ob ka kb up).uniq (mul_best ob oa kb ka up) (pw_pos 0) (pw_pos 0) (by rw [Int.mul_comm a.fair.val])

theorem Best.opp {r : Num} {up : Bool} {t c : Int} (h : Best r up t c) : Best r.opp (!up) (-t) c := by
  have fr := Num.may_fair h.may
  have vr : r.opp.val = -r.val := by rw [Num.opp_val, fr]
  have inj : ∀ b, r.opp = Num.inf b → r = Num.inf (!b) := by
    intro b e
    have := congrArg Num.opp e
    rw [Num.opp_opp, fr, Num.opp_inf] at this
    exact this
  have back : ∀ s : Num, s.may = true → s.ok → ∀ b, s ≠ Num.inf b → s.opp ≠ Num.inf (!b) := by
    intro s ms os b hs e
    have := congrArg Num.opp e
    rw [Num.opp_opp, Num.may_fair ms, Num.opp_inf, Bool.not_not] at this
    exact hs this
  have vs : ∀ s : Num, s.may = true → s.opp.val = -s.val := fun s ms => by rw [Num.opp_val, Num.may_fair ms]
  refine ⟨Num.opp_may r, Num.opp_ok h.ok, fun hu => ?_, fun hu s ms os hs hle => ?_, fun hu s ms os hs hle => ?_, fun hu => ?_⟩
  · have hu' : up = true := by simpa using hu
    obtain ⟨h1, h2⟩ := h.hi hu'
    refine ⟨fun e => h1 (inj _ e), ?_⟩
    rcases h2 with h2 | h2
    · left; rw [h2, Num.opp_inf]; rfl
    · right; rw [vr, Int.neg_mul]; omega
  · have hu' : up = true := by simpa using hu
    have := h.uopt hu' s.opp (Num.opp_may s) (Num.opp_ok os) (back s ms os false hs) (by rw [vs s ms, Int.neg_mul]; omega)
    rw [vs s ms] at this
    rw [vr]; omega
  · have hu' : up = false := by simpa using hu
    have := h.dopt hu' s.opp (Num.opp_may s) (Num.opp_ok os) (back s ms os true hs) (by rw [vs s ms, Int.neg_mul]; omega)
    rw [vs s ms] at this
    rw [vr]; omega
  · have hu' : up = false := by simpa using hu
    obtain ⟨h1, h2⟩ := h.down hu'
    refine ⟨fun e => h1 (inj _ e), ?_⟩
    rcases h2 with h2 | h2
    · left; rw [h2, Num.opp_inf]; rfl
    · right; rw [vr, Int.neg_mul]; omega

theorem Num.opp_fair (n : Num) : n.opp.fair = n.opp := Num.may_fair (Num.opp_may n)
end Go.Proofs.Ytaiillbjhdoikaa.Ev

/- What intervals have together, and the least one that has all of some: plain Lean. -/
namespace Go.Proofs.Ytaiillbjhdoikaa.Ev
open Go

/-- those that are not empty, and may be -/
def Iv.goods : List Iv → List Iv
  | [] => []
  | x :: r => if x.fair.empty then goods r else x.fair :: goods r
def Iv.los (l : List Iv) : List Num := (Iv.goods l).map Iv.lo
def Iv.his (l : List Iv) : List Num := (Iv.goods l).map Iv.hi
def Iv.allGood (l : List Iv) : Bool := l.all (fun x => !x.fair.empty)
def Iv.meet (l : List Iv) : Iv := if Iv.allGood l then Iv.make (Num.most (Iv.los l)) (Num.least (Iv.his l)) else Iv.none
def Iv.hull (l : List Iv) : Iv := if (Iv.los l).length = 0 then Iv.none else Iv.make (Num.least (Iv.los l)) (Num.most (Iv.his l))

end Go.Proofs.Ytaiillbjhdoikaa.Ev

/- The law of rules, all but roots: plain Lean. -/
namespace Go.Proofs.Ytaiillbjhdoikaa.Ev
open Go

theorem Iv.bad_two (a b : Iv) : Iv.anyBad [a, b] = (a.bad || b.bad) := by simp [Iv.anyBad]
theorem Iv.bad_one (a : Iv) : Iv.anyBad [a] = a.bad := by simp [Iv.anyBad]

theorem Num.least_perm {w x y z : Num} (hw : w.ok) (hx : x.ok) (hy : y.ok) (hz : z.ok) : Num.least [w, x, y, z] = Num.least [w, y, x, z] := by
  have s1 := Num.least_spec [w, x, y, z] (by simp; exact ⟨hw, hx, hy, hz⟩)
  have s2 := Num.least_spec [w, y, x, z] (by simp; exact ⟨hw, hy, hx, hz⟩)
  refine Num.val_inj s1.1 s2.1 s1.2.1 s2.2.1 ?_
  have l1 := s1.2.2.1
  have l2 := s2.2.2.1
  have top1 := (Num.val_le s1.1 s1.2.1).2
  have top2 := (Num.val_le s2.1 s2.2.1).2
  apply Int.le_antisymm
  · rcases s2.2.2.2 with e | ⟨v, hv, e⟩
    · rw [e, Num.val_inf]; simpa using top1
    · have := l1 v (by simp at hv ⊢; rcases hv with h | h | h | h <;> simp [h])
      rw [e]; exact this
  · rcases s1.2.2.2 with e | ⟨v, hv, e⟩
    · rw [e, Num.val_inf]; simpa using top2
    · have := l2 v (by simp at hv ⊢; rcases hv with h | h | h | h <;> simp [h])
      rw [e]; exact this
theorem Num.most_perm {w x y z : Num} (hw : w.ok) (hx : x.ok) (hy : y.ok) (hz : z.ok) : Num.most [w, x, y, z] = Num.most [w, y, x, z] := by
  have s1 := Num.most_spec [w, x, y, z] (by simp; exact ⟨hw, hx, hy, hz⟩)
  have s2 := Num.most_spec [w, y, x, z] (by simp; exact ⟨hw, hy, hx, hz⟩)
  refine Num.val_inj s1.1 s2.1 s1.2.1 s2.2.1 ?_
  have l1 := s1.2.2.1
  have l2 := s2.2.2.1
  have top1 := (Num.val_le s1.1 s1.2.1).1
  have top2 := (Num.val_le s2.1 s2.2.1).1
  apply Int.le_antisymm
  · rcases s1.2.2.2 with e | ⟨v, hv, e⟩
    · rw [e, Num.val_inf]; simpa using top2
    · have := l2 v (by simp at hv ⊢; rcases hv with h | h | h | h <;> simp [h])
      rw [e]; exact this
  · rcases s2.2.2.2 with e | ⟨v, hv, e⟩
    · rw [e, Num.val_inf]; simpa using top1
    · have := l1 v (by simp at hv ⊢; rcases hv with h | h | h | h <;> simp [h])
      rw [e]; exact this

theorem Iv.mul_comm {a b : Iv} (ha : a.lo.ok ∧ a.hi.ok) (hb : b.lo.ok ∧ b.hi.ok) : Iv.mul a b = Iv.mul b a := by
  unfold Iv.mul
  rw [Iv.bad_two, Iv.bad_two, Bool.or_comm]
  unfold Iv.corners
  rw [Num.least_perm (Num.mul_ok ha.1 hb.1 _) (Num.mul_ok ha.1 hb.2 _) (Num.mul_ok ha.2 hb.1 _) (Num.mul_ok ha.2 hb.2 _),
    Num.most_perm (Num.mul_ok ha.1 hb.1 _) (Num.mul_ok ha.1 hb.2 _) (Num.mul_ok ha.2 hb.1 _) (Num.mul_ok ha.2 hb.2 _)]
  rw [Num.mul_comm ha.1 hb.1 false, Num.mul_comm ha.2 hb.1 false, Num.mul_comm ha.1 hb.2 false, Num.mul_comm ha.2 hb.2 false,
    Num.mul_comm ha.1 hb.1 true, Num.mul_comm ha.2 hb.1 true, Num.mul_comm ha.1 hb.2 true, Num.mul_comm ha.2 hb.2 true]

theorem Iv.neg_eq (a : Iv) : Iv.neg a = if a.bad = true then Iv.none else Iv.make a.hi.opp a.lo.opp := by
  unfold Iv.neg; rw [Iv.bad_one]

theorem Iv.Real.neg {x : Iv} (h : x.Real) : (Iv.mk false x.hi.opp x.lo.opp).Real := by
  have vl : x.lo.opp.val = -x.lo.val := by rw [Num.opp_val, Num.may_fair h.lom]
  have vh : x.hi.opp.val = -x.hi.val := by rw [Num.opp_val, Num.may_fair h.him]
  have l := h.lt
  have g := h.gt
  have le := h.le
  exact ⟨rfl, Num.opp_may _, Num.opp_may _, Num.opp_ok h.hio, Num.opp_ok h.loo, by show x.hi.opp.val ≤ x.lo.opp.val; omega, by show x.hi.opp.val < _; omega, by show _ < x.lo.opp.val; omega⟩
theorem Iv.neg_real {x : Iv} (h : x.Real) : Iv.neg x = ⟨false, x.hi.opp, x.lo.opp⟩ := by
  rw [Iv.neg_eq, if_neg (by rw [h.good]; decide)]
  have := Iv.make_real (lo := x.hi.opp) (hi := x.lo.opp) (by rw [Num.opp_fair, Num.opp_fair]; exact h.neg)
  rw [this, Num.opp_fair, Num.opp_fair]
theorem Iv.neg_neg {a : Iv} (m : a.may = true) (ha : a.lo.ok ∧ a.hi.ok) : Iv.neg (Iv.neg a) = a := by
  cases he : a.empty with
  | true =>
    have := Iv.empty_may m he
    rw [this]; decide
  | false =>
    have r := Iv.real_of m he ha.1 ha.2
    rw [Iv.neg_real r, Iv.neg_real r.neg]
    show Iv.mk false a.lo.opp.opp a.hi.opp.opp = a
    rw [Num.opp_opp, Num.opp_opp, Num.may_fair r.lom, Num.may_fair r.him]
    cases a; simp_all

end Go.Proofs.Ytaiillbjhdoikaa.Ev

/- Squares are within products: plain Lean. -/
namespace Go.Proofs.Ytaiillbjhdoikaa.Ev
open Go

end Go.Proofs.Ytaiillbjhdoikaa.Ev

/- A square is within the product with itself: plain Lean. -/
namespace Go.Proofs.Ytaiillbjhdoikaa.Ev
open Go

end Go.Proofs.Ytaiillbjhdoikaa.Ev

/- What the contracts of intervals are told with. -/
namespace Go.Proofs.Ytaiillbjhdoikaa.Ev
open Go Go.Proofs
set_option linter.unusedVariables false
set_option linter.unusedSimpArgs false
theorem Iv.fin {t r : Iv} (h : t = r) : t.empty = r.empty ∧ t.lo.kind = r.lo.kind ∧ t.lo.neg = r.lo.neg ∧ t.lo.m = r.lo.m ∧ t.lo.e = r.lo.e ∧ t.hi.kind = r.hi.kind ∧ t.hi.neg = r.hi.neg ∧ t.hi.m = r.hi.m ∧ t.hi.e = r.hi.e ∧ True := by
  subst h; exact ⟨rfl, rfl, rfl, rfl, rfl, rfl, rfl, rfl, rfl, trivial⟩
end Go.Proofs.Ytaiillbjhdoikaa.Ev

/- Contracts: the quotient of intervals. Printed by gen.py out of C10.spec. -/
namespace Go.Proofs.Ytaiillbjhdoikaa.Ev
open Go Go.Proofs
set_option linter.unusedVariables false
set_option linter.unusedSimpArgs false

end Go.Proofs.Ytaiillbjhdoikaa.Ev

/- Contracts: the opposite of an interval, how far from nought, the square. Printed by gen.py out of C11.spec. -/
namespace Go.Proofs.Ytaiillbjhdoikaa.Ev
open Go Go.Proofs
set_option linter.unusedVariables false
set_option linter.unusedSimpArgs false

end Go.Proofs.Ytaiillbjhdoikaa.Ev

/- Contracts: the chapter's examples. Printed by gen.py out of C12a.spec. -/
namespace Go.Proofs.Ytaiillbjhdoikaa.Ev
open Go Go.Proofs
set_option linter.unusedVariables false
set_option linter.unusedSimpArgs false

end Go.Proofs.Ytaiillbjhdoikaa.Ev

/- Contracts: the sum and the difference of two words with a carry; these have no body in the program's form: the model answers at once. -/
namespace Go.Proofs.Ytaiillbjhdoikaa.Ev
open Go Go.Proofs Go.RowKit
set_option linter.unusedVariables false

end Go.Proofs.Ytaiillbjhdoikaa.Ev

/- Contracts: sums. Printed by gen.py out of C14.spec. -/
namespace Go.Proofs.Ytaiillbjhdoikaa.Ev
open Go Go.Proofs
set_option linter.unusedVariables false
set_option linter.unusedSimpArgs false

end Go.Proofs.Ytaiillbjhdoikaa.Ev

/- Contracts: differences. Printed by gen.py out of C15.spec. -/
namespace Go.Proofs.Ytaiillbjhdoikaa.Ev
open Go Go.Proofs
set_option linter.unusedVariables false
set_option linter.unusedSimpArgs false

end Go.Proofs.Ytaiillbjhdoikaa.Ev

/- Contracts: the sum of two numbers. Printed by gen.py out of C16.spec. -/
namespace Go.Proofs.Ytaiillbjhdoikaa.Ev
open Go Go.Proofs
set_option linter.unusedVariables false
set_option linter.unusedSimpArgs false

end Go.Proofs.Ytaiillbjhdoikaa.Ev

/- Contracts: the sum of intervals. -/
namespace Go.Proofs.Ytaiillbjhdoikaa.Ev
open Go Go.Proofs
set_option linter.unusedVariables false
set_option linter.unusedSimpArgs false

def addS (l : List Iv) (n : Int) (z : Iv) : Option (Int × Num × Num) → St
  | none => ⟨[(12, .int .i64 (.s 0)), (11, .int .i64 (.s n)), (10, .slc 9 (.s n) (fun i => Iv.cells (l.getD i z))), (4, .ptr 2 4 (.l 0) 0), (3, .ptr 1 4 (.l 0) 0), (2, .ptr 0 9 (.l 0) 0)],
      [.rows true 9 [.bool (.l false), .int .i64 (.l 0), .bool (.l false), .int .u64 (.l 0), .int .i64 (.l 0), .int .i64 (.l 0), .bool (.l false), .int .u64 (.l 0), .int .i64 (.l 0)]
        [[.bool (.l false), .int .i64 (.l 0), .bool (.l false), .int .u64 (.l 0), .int .i64 (.l 0), .int .i64 (.l 0), .bool (.l false), .int .u64 (.l 0), .int .i64 (.l 0)]],
       .rows true 4 [.int .i64 (.l 0), .bool (.l false), .int .u64 (.l 0), .int .i64 (.l 0)] [[.int .i64 (.l 0), .bool (.l false), .int .u64 (.l 0), .int .i64 (.l 0)]],
       .rows true 4 [.int .i64 (.l 0), .bool (.l false), .int .u64 (.l 0), .int .i64 (.l 0)] [[.int .i64 (.l 0), .bool (.l false), .int .u64 (.l 0), .int .i64 (.l 0)]]]⟩
  | some p => ⟨[(12, .int .i64 (.s p.1)), (11, .int .i64 (.s n)), (10, .slc 9 (.s n) (fun i => Iv.cells (l.getD i z))), (4, .ptr 2 4 (.l 0) 0), (3, .ptr 1 4 (.l 0) 0), (2, .ptr 0 9 (.l 0) 0)],
      [.rows true 9 [.bool (.l false), .int .i64 (.l 0), .bool (.l false), .int .u64 (.l 0), .int .i64 (.l 0), .int .i64 (.l 0), .bool (.l false), .int .u64 (.l 0), .int .i64 (.l 0)]
        [[.bool (.l false), .int .i64 (.l 0), .bool (.l false), .int .u64 (.l 0), .int .i64 (.l 0), .int .i64 (.l 0), .bool (.l false), .int .u64 (.l 0), .int .i64 (.l 0)]],
       .rows true 4 [.int .i64 (.l 0), .bool (.l false), .int .u64 (.l 0), .int .i64 (.l 0)] [Num.cells p.2.1],
       .rows true 4 [.int .i64 (.l 0), .bool (.l false), .int .u64 (.l 0), .int .i64 (.l 0)] [Num.cells p.2.2]]⟩
end Go.Proofs.Ytaiillbjhdoikaa.Ev

/- Contracts: the difference of intervals. Printed by gen.py out of C18.spec. -/
namespace Go.Proofs.Ytaiillbjhdoikaa.Ev
open Go Go.Proofs
set_option linter.unusedVariables false
set_option linter.unusedSimpArgs false
def Iv.sub (a b : Iv) : Iv := Iv.add [a, Iv.neg b]
end Go.Proofs.Ytaiillbjhdoikaa.Ev

/- Contracts: the ends of some intervals. -/
namespace Go.Proofs.Ytaiillbjhdoikaa.Ev
open Go Go.Proofs
set_option linter.unusedVariables false
set_option linter.unusedSimpArgs false

end Go.Proofs.Ytaiillbjhdoikaa.Ev

/- Contracts: what intervals have together, and their hull. -/
namespace Go.Proofs.Ytaiillbjhdoikaa.Ev
open Go Go.Proofs
set_option linter.unusedVariables false
set_option linter.unusedSimpArgs false

end Go.Proofs.Ytaiillbjhdoikaa.Ev

/- Contracts that tell besides that a result's bits are 64. -/
namespace Go.Proofs.Ytaiillbjhdoikaa.Ev
open Go Go.Proofs
set_option linter.unusedVariables false
set_option linter.unusedSimpArgs false
def Iv.ok (x : Iv) : Prop := x.lo.ok ∧ x.hi.ok
theorem Iv.none_ok : Iv.none.ok := ⟨Num.zero_ok, Num.zero_ok⟩
theorem Iv.fair_ok {x : Iv} (h : x.ok) : x.fair.ok := by
  unfold Iv.fair
  split
  · exact h
  · exact Iv.none_ok
end Go.Proofs.Ytaiillbjhdoikaa.Ev

/- Contracts: the root of an interval. Printed by gen.py out of C23.spec. -/
namespace Go.Proofs.Ytaiillbjhdoikaa.Ev
open Go Go.Proofs
set_option linter.unusedVariables false
set_option linter.unusedSimpArgs false
def Iv.positive : Iv := Iv.make Num.zero (Num.inf false)
def Iv.root (a : Iv) : Iv := if (Iv.meet [a, Iv.positive]).empty then Iv.meet [a, Iv.positive] else Iv.make (Num.root (Iv.meet [a, Iv.positive]).lo false).1 (Num.root (Iv.meet [a, Iv.positive]).hi true).1
theorem nsqrt_word {m k : Nat} (hm : m < 18446744073709551616) (hk : 2 ^ k ≤ 18446744073709551616) : nsqrt (m * 2 ^ k) < 18446744073709551616 := by
  apply sq_lt
  have h1 := (nsqrt_spec (m * 2 ^ k)).1
  have h2 : m * 2 ^ k ≤ m * 18446744073709551616 := Nat.mul_le_mul_left _ hk
  omega
end Go.Proofs.Ytaiillbjhdoikaa.Ev

/- The root of a number: plain Lean. -/
namespace Go.Proofs.Ytaiillbjhdoikaa.Ev
open Go

theorem sq_le_of {x y : Int} (hy : 0 ≤ y) (h : x * x ≤ y * y) : x ≤ y := by
  rcases Int.lt_or_le y x with h1 | h1
  · exfalso
    have h2 : y * y < x * x := by
      have a1 : y * y ≤ y * x := Int.mul_le_mul_of_nonneg_left (Int.le_of_lt h1) hy
      have a2 : y * x < x * x := Int.mul_lt_mul_of_pos_right h1 (by omega)
      omega
    omega
  · exact h1
theorem sq_lt_of {x y : Int} (hy : 0 ≤ y) (h : x * x < y * y) : x < y := by
  rcases Int.lt_or_le x y with h1 | h1
  · exact h1
  · exfalso
    have a1 : y * y ≤ y * x := Int.mul_le_mul_of_nonneg_left h1 hy
    have a2 : y * x ≤ x * x := Int.mul_le_mul_of_nonneg_right h1 (by omega)
    omega

/-- the square that a root of 64 bits comes from -/
theorem root_scale {m e k : Int} (hk0 : 0 ≤ k) (hk : k ≤ 64) (he : -1048576 ≤ e) (he' : e ≤ 1048576) (hp : (e - k) % 2 = 0) :
    pw ((e - k) / 2) * pw ((e - k) / 2) * 2 ^ k.toNat = pw 0 * pw e := by
  have e1 : pw ((e - k) / 2) * pw ((e - k) / 2) = pw 0 * pw (e - k) := by
    have := pw_mul (e := (e - k) / 2) (f := (e - k) / 2) (by omega) (by omega) (by omega)
    rw [this]; congr 2; omega
  have e2 : pw e = pw (e - k) * 2 ^ k.toNat := by
    have := pw_add (e := e - k) (f := k) (by omega) hk0
    rw [← this]; congr 1; omega
  rw [e1, e2, Int.mul_assoc]

theorem root_range {m : Nat} {k : Nat} (hm : 9223372036854775808 ≤ m) (hm' : m < 18446744073709551616) (hk : k = 64 ∨ k = 63) : 9223372036854775808 ≤ nsqrt (m * 2 ^ k) ∧ nsqrt (m * 2 ^ k) < 18446744073709551616 := by
  refine ⟨?_, nsqrt_word hm' (by rcases hk with rfl | rfl <;> decide)⟩
  have h := (nsqrt_spec (m * 2 ^ k)).2
  have h2 : 9223372036854775808 * 9223372036854775808 ≤ m * 2 ^ k := by
    rcases hk with rfl | rfl
    · have : 9223372036854775808 * 2 ^ 64 ≤ m * 2 ^ 64 := Nat.mul_le_mul_right _ hm
      have : (2 : Nat) ^ 64 = 18446744073709551616 := by decide
      omega
    · have : 9223372036854775808 * 2 ^ 63 ≤ m * 2 ^ 63 := Nat.mul_le_mul_right _ hm
      have : (2 : Nat) ^ 63 = 9223372036854775808 := by decide
      omega
  have := sq_lt (s := 9223372036854775808) (t := nsqrt (m * 2 ^ k) + 1) (by omega)
  omega

/-- what a root is grown from: n pw(e'), of which the square is not above, that of the next one above -/
theorem rootF_form {a : Num} (ha : a.Fin) (up : Bool) : ∃ n e' cut, Num.rootF a up = Num.grow false n e' cut up ∧ 9223372036854775808 ≤ n ∧ n < 18446744073709551616 ∧ -1048576 ≤ e' ∧ e' ≤ 1048575 ∧
    (if cut then n * pw e' * (n * pw e') < a.W * pw 0 else n * pw e' * (n * pw e') = a.W * pw 0) ∧ a.W * pw 0 < (n + 1) * pw e' * ((n + 1) * pw e') := by
  have hlo := ha.lo
  have hhi := ha.hi
  have el := ha.elo
  have eh := ha.ehi
  have hW := ha.W
  have core : ∀ k : Nat, (k = 64 ∨ k = 63) → (a.e - (k : Int)) % 2 = 0 → ∃ n e' cut, Num.grow false (nsqrt (a.m.toNat * 2 ^ k)) ((a.e - (k : Int)) / 2) (!decide (nsqrt (a.m.toNat * 2 ^ k) * nsqrt (a.m.toNat * 2 ^ k) = a.m.toNat * 2 ^ k)) up = Num.grow false n e' cut up ∧
      9223372036854775808 ≤ n ∧ n < 18446744073709551616 ∧ -1048576 ≤ e' ∧ e' ≤ 1048575 ∧ (if cut then n * pw e' * (n * pw e') < a.W * pw 0 else n * pw e' * (n * pw e') = a.W * pw 0) ∧ a.W * pw 0 < (n + 1) * pw e' * ((n + 1) * pw e') := by
    intro k hk hp
    have rg := root_range (m := a.m.toNat) (k := k) (by omega) (by omega) hk
    have sc := root_scale (m := a.m) (e := a.e) (k := k) (by omega) (by omega) el eh hp
    rw [Int.toNat_natCast] at sc
    have sp := nsqrt_spec (a.m.toNat * 2 ^ k)
    generalize hs : nsqrt (a.m.toNat * 2 ^ k) = s at *
    have P0 := pw_pos ((a.e - (k : Int)) / 2)
    obtain ⟨P, hP⟩ : ∃ P, P = pw ((a.e - (k : Int)) / 2) := ⟨_, rfl⟩
    rw [← hP] at sc P0
    have p0 : 0 < P * P := Int.mul_pos P0 P0
    have eT : a.W * pw 0 = ((a.m.toNat * 2 ^ k : Nat) : Int) * (P * P) := by
      rw [hW]
      have em : ((a.m.toNat : Nat) : Int) = a.m := by omega
      have e3 : ((a.m.toNat * 2 ^ k : Nat) : Int) = a.m * 2 ^ k := by push_cast; rw [em]
      rw [e3, Int.mul_assoc a.m, Int.mul_comm (pw a.e), ← sc]
      grind
    refine ⟨s, (a.e - (k : Int)) / 2, _, rfl, by omega, by omega, by omega, by omega, ?_, ?_⟩ <;> rw [← hP]
    · rw [eT]
      have e1 : (s : Int) * P * (s * P) = ((s * s : Nat) : Int) * (P * P) := by push_cast; grind
      rw [e1]
      by_cases h : s * s = a.m.toNat * 2 ^ k
      · rw [h]; simp
      · have hlt : s * s < a.m.toNat * 2 ^ k := by omega
        simp only [h, decide_false, Bool.not_false, if_true]
        exact Int.mul_lt_mul_of_pos_right (by exact_mod_cast hlt) p0
    · rw [eT]
      have e1 : ((s : Int) + 1) * P * ((s + 1) * P) = (((s + 1) * (s + 1) : Nat) : Int) * (P * P) := by push_cast; grind
      rw [e1]
      exact Int.mul_lt_mul_of_pos_right (by exact_mod_cast sp.2) p0
  unfold Num.rootF
  by_cases hp : a.e % 2 = 0
  · rw [if_pos hp]; exact core 64 (.inl rfl) (by omega)
  · rw [if_neg hp]; exact core 63 (.inr rfl) (by omega)
end Go.Proofs.Ytaiillbjhdoikaa.Ev

/- The root of a number to either side: sound, and the best. Plain Lean. -/
namespace Go.Proofs.Ytaiillbjhdoikaa.Ev
open Go

theorem grow_dn {n e : Int} {cut : Bool} (h : -1048576 ≤ e) (h' : e ≤ 1048575) : Num.grow false n e cut false = ⟨1, false, n, e⟩ := by
  unfold Num.grow Num.bound
  rw [if_neg (by simp), if_neg (by omega), if_neg (by omega)]
theorem grow_upW {n e : Int} {cut : Bool} (hn : 9223372036854775808 ≤ n) (hn' : n < 18446744073709551616) (h : -1048576 ≤ e) (h' : e ≤ 1048575) :
    (Num.grow false n e cut true).Fin ∧ (Num.grow false n e cut true).neg = false ∧ (Num.grow false n e cut true).W = (if cut then n + 1 else n) * pw e := by
  unfold Num.grow Num.bound
  cases cut with
  | false =>
    rw [if_neg (by simp), if_neg (by omega), if_neg (by omega)]
    exact ⟨⟨rfl, hn, hn', h, by show e ≤ _; omega⟩, rfl, rfl⟩
  | true =>
    rw [if_pos (by rfl)]
    by_cases hw : IntKind.u64.wrap (n + 1) = 0
    · rw [if_pos hw]
      rw [wu64] at hw
      have e1 : n = 18446744073709551615 := by omega
      have e2 : IntKind.i64.wrap (e + 1) = e + 1 := by rw [wi64]; omega
      rw [e2, if_neg (by omega), if_neg (by omega)]
      refine ⟨⟨rfl, (by show (9223372036854775808 : Int) ≤ 9223372036854775808; decide), (by show (9223372036854775808 : Int) < 18446744073709551616; decide), by show _ ≤ e + 1; omega, by show e + 1 ≤ _; omega⟩, rfl, ?_⟩
      show 9223372036854775808 * pw (e + 1) = _
      rw [pw_succ (by omega), e1]
      simp only [if_true]
      omega
    · rw [if_neg hw]
      rw [wu64] at hw
      have e1 : IntKind.u64.wrap (n + 1) = n + 1 := by rw [wu64]; omega
      rw [e1, if_neg (by omega), if_neg (by omega)]
      refine ⟨⟨rfl, by show _ ≤ n + 1; omega, by show n + 1 < _; omega, h, by show e ≤ _; omega⟩, rfl, rfl⟩

theorem rootF_dn {a : Num} (ha : a.Fin) : (Num.rootF a false).Fin ∧ (Num.rootF a false).neg = false ∧ (Num.rootF a false).W * (Num.rootF a false).W ≤ a.W * pw 0 ∧
    ∀ s : Num, s.may = true → s.ok → s.kind ≠ 2 → s.W * s.W ≤ a.W * pw 0 → s.W ≤ (Num.rootF a false).W := by
  obtain ⟨n, e, cut, er, h1, h2, h3, h4, h5, h6⟩ := rootF_form ha false
  have eg := grow_dn (n := n) (cut := cut) h3 h4
  have p := pw_pos e
  refine ⟨?_, ?_, ?_, fun s ms os ks hs => ?_⟩
  · rw [er, eg]; exact ⟨rfl, h1, h2, h3, by show e ≤ _; omega⟩
  · rw [er, eg]
  · rw [er, eg]
    show n * pw e * (n * pw e) ≤ _
    split at h5 <;> omega
  · rw [er]
    exact mag_dn h1 h2 (by omega) ms os ks (sq_lt_of (Int.le_of_lt (Int.mul_pos (by omega) p)) (by omega))
theorem rootF_up {a : Num} (ha : a.Fin) : (Num.rootF a true).Fin ∧ (Num.rootF a true).neg = false ∧ a.W * pw 0 ≤ (Num.rootF a true).W * (Num.rootF a true).W ∧
    ∀ s : Num, s.may = true → s.ok → a.W * pw 0 ≤ s.W * s.W → (Num.rootF a true).W ≤ s.W := by
  obtain ⟨n, e, cut, er, h1, h2, h3, h4, h5, h6⟩ := rootF_form ha true
  obtain ⟨g1, g2, g3⟩ := grow_upW (cut := cut) h1 h2 h3 h4
  have p := pw_pos e
  refine ⟨by rw [er]; exact g1, by rw [er]; exact g2, ?_, fun s ms os hs => ?_⟩
  · rw [er, g3]
    cases cut with
    | false => simp at h5 ⊢; omega
    | true => simp at h5 ⊢; omega
  · rw [er]
    have hs0 := W_nn s ms os
    refine mag_up h1 h2 (by omega) (by omega) ms os ?_
    cases cut with
    | false => simp at h5 ⊢; exact sq_le_of hs0 (by omega)
    | true => simp at h5 ⊢; exact sq_lt_of hs0 (by omega)
end Go.Proofs.Ytaiillbjhdoikaa.Ev

/- How far from nought an interval is lies within the root of its square: plain Lean. -/
namespace Go.Proofs.Ytaiillbjhdoikaa.Ev
open Go

theorem Num.root_fin {x : Num} (h : x.Fin) (hn : x.neg = false) (up : Bool) : (Num.root x up).1 = Num.rootF x up := by
  unfold Num.root
  have e : x.fair = x := Num.may_fair h.may
  rw [e, if_neg (by rw [hn]; simp), if_neg (by rw [h.kind]; simp)]
theorem Num.val_nn {x : Num} (hn : x.neg = false) : x.val = x.W := by unfold Num.val; rw [hn]; rfl

end Go.Proofs.Ytaiillbjhdoikaa.Ev

/- Sums grow with their operands: plain Lean. -/
namespace Go.Proofs.Ytaiillbjhdoikaa.Ev
open Go

/-- a number is finite, or one of the two others -/
theorem Num.three {a : Num} (oa : a.ok) : (a.fair.kind ≠ 2 ∧ -pw 1048640 < a.fair.val ∧ a.fair.val < pw 1048640) ∨ (a.fair = Num.inf false) ∨ (a.fair = Num.inf true) := by
  by_cases k : a.fair.kind = 2
  · have e := Num.fair_inf oa k
    cases h : a.fair.neg with
    | false => rw [h] at e; exact .inr (.inl e)
    | true => rw [h] at e; exact .inr (.inr e)
  · exact .inl ⟨k, (Num.fin_val a.fair_may (Num.fair_ok oa)).1 k⟩
end Go.Proofs.Ytaiillbjhdoikaa.Ev

/- Sums and products grow with their operands: what they rest on. -/

/- Products grow with their operands: plain Lean. -/
namespace Go.Proofs.Ytaiillbjhdoikaa.Ev
open Go

end Go.Proofs.Ytaiillbjhdoikaa.Ev

/- Quotients grow with what is divided, and shrink with the divisor: plain Lean. -/
namespace Go.Proofs.Ytaiillbjhdoikaa.Ev
open Go

theorem Num.div_inf_r {a b : Num} (up : Bool) (h : b.fair.kind = 2) : Num.div a b up = Num.zero := by
  unfold Num.div
  rw [if_neg (by rw [h]; decide), if_pos (.inr h)]
theorem Num.div_inf_l {a b : Num} (up : Bool) (ha : a.fair.kind = 2) (h0 : b.fair.kind ≠ 0) (h2 : b.fair.kind ≠ 2) : Num.div a b up = Num.inf (a.fair.neg != b.fair.neg) := by
  unfold Num.div
  rw [if_neg h0, if_neg (by rintro (k | k); (rw [ha] at k; exact absurd k (by decide)); exact h2 k), if_pos ha]
theorem Num.kind1 {a : Num} (oa : a.ok) (h0 : a.fair.kind ≠ 0) (h2 : a.fair.kind ≠ 2) : a.fair.kind = 1 := (Num.fair_fin oa h0 h2).kind

theorem Num.div_may {a b : Num} (oa : a.ok) (ob : b.ok) (up : Bool) : (Num.div a b up).may = true := by
  by_cases h0 : b.fair.kind = 0
  · unfold Num.div; rw [if_pos h0]; exact Num.inf_may _
  · by_cases h2 : b.fair.kind = 2
    · rw [Num.div_inf_r up h2]; exact Num.zero_may
    · by_cases ha : a.fair.kind = 2
      · rw [Num.div_inf_l up ha h0 h2]; exact Num.inf_may _
      · exact (div_best oa ob ha (Num.kind1 ob h0 h2) up).may

end Go.Proofs.Ytaiillbjhdoikaa.Ev

/- Products and sums of whole numbers, and what intervals make of them: plain Lean. -/
namespace Go.Proofs.Ytaiillbjhdoikaa.Ev
open Go

theorem min2 (a b : Int) : ∃ m, m ∈ [a, b] ∧ ∀ x ∈ [a, b], m ≤ x := by
  rcases Int.le_total a b with h | h
  · exact ⟨a, by simp, by simp; exact h⟩
  · exact ⟨b, by simp, by simp; exact h⟩
theorem max2 (a b : Int) : ∃ m, m ∈ [a, b] ∧ ∀ x ∈ [a, b], x ≤ m := by
  rcases Int.le_total a b with h | h
  · exact ⟨b, by simp, by simp; exact h⟩
  · exact ⟨a, by simp, by simp; exact h⟩
end Go.Proofs.Ytaiillbjhdoikaa.Ev

/- Plain laws of quotients and roots: by one, by itself, turned; the root of a square. -/
namespace Go.Proofs.Ytaiillbjhdoikaa.Ev
open Go
set_option linter.unusedVariables false
set_option linter.unusedSimpArgs false

theorem div_one {a : Num} (m : a.may = true) (o : a.ok) (up : Bool) : Num.div a (Num.ofInt 1) up = a := by
  have f1 : (Num.ofInt 1).fair = ⟨1, false, 9223372036854775808, -63⟩ := by decide +kernel
  unfold Num.div
  rw [f1, if_neg (by decide), Num.may_fair m]
  rcases Num.may3 m o with k | k | k
  · rw [k, if_pos (by decide)]
  · rw [if_neg (by rw [k.kind]; decide), if_neg (by rw [k.kind]; decide)]
    unfold Num.divF
    dsimp only
    have lo := k.lo
    have elo := k.elo
    have ehi := k.ehi
    have kk := k.kind
    rw [if_pos lo, Int.mul_ediv_cancel _ (by decide), Int.mul_emod_left, decide_eq_false (by decide), show a.e - -63 - 63 = a.e by omega, grow_plain elo ehi, Bool.bne_false]
    cases a; simp_all
  · rw [k]
    generalize a.neg = s
    cases s <;> rfl

theorem root_sq {n : Int} (h0 : 0 ≤ n) (h1 : n ≤ 1000000000) (up : Bool) : Num.root (Num.ofInt (n * n)) up = (Num.ofInt n, true) := by
  by_cases z : n = 0
  · subst z; cases up <;> decide +kernel
  · have hp : 0 < n := by omega
    have hsq : n * n ≤ 1000000000 * 1000000000 := Int.mul_le_mul h1 h1 h0 (by decide)
    have hsq0 : 0 < n * n := Int.mul_pos hp hp
    obtain ⟨F, W, ng⟩ := ofInt_fin (n := n * n) (by omega) (by omega)
    obtain ⟨G, V, ng2⟩ := ofInt_fin (n := n) (by omega) (by omega)
    have ngf : (Num.ofInt (n * n)).neg = false := by rw [ng]; exact decide_eq_false (by omega)
    have ngg : (Num.ofInt n).neg = false := by rw [ng2]; exact decide_eq_false (by omega)
    have p0 := pw_pos 0
    have e2 : (Num.root (Num.ofInt (n * n)) up).2 = true := by
      unfold Num.root
      rw [Num.may_fair F.may, if_neg (by rw [ngf]; simp), if_neg (by rw [F.kind]; simp)]
    have sqs : (Num.ofInt n).W * (Num.ofInt n).W = (Num.ofInt (n * n)).W * pw 0 := by
      rw [W, V, Int.natAbs_mul, Int.natCast_mul]
      simp only [Int.mul_assoc, Int.mul_comm, Int.mul_left_comm]
    have e1 : (Num.root (Num.ofInt (n * n)) up).1 = Num.ofInt n := by
      rw [Num.root_fin F ngf]
      have wp : 0 ≤ (Num.ofInt n).W := by rw [V]; exact Int.mul_nonneg (Int.natCast_nonneg _) (by omega)
      cases up with
      | false =>
        obtain ⟨r1, r2, r3, r4⟩ := rootF_dn F
        have w1 := r4 _ G.may (Num.ofInt_ok n) (by rw [G.kind]; decide) (by rw [sqs]; exact Int.le_refl _)
        have w2 : (Num.rootF (Num.ofInt (n * n)) false).W ≤ (Num.ofInt n).W := sq_le_of wp (by rw [sqs]; exact r3)
        exact Num.val_inj r1.may G.may ⟨by have := r1.lo; omega, r1.hi⟩ (Num.ofInt_ok n) (by rw [Num.val_nn r2, Num.val_nn ngg]; omega)
      | true =>
        obtain ⟨r1, r2, r3, r4⟩ := rootF_up F
        have w1 := r4 _ G.may (Num.ofInt_ok n) (by rw [sqs]; exact Int.le_refl _)
        have wq : 0 ≤ (Num.rootF (Num.ofInt (n * n)) true).W := by have := r1.lt; omega
        have w2 : (Num.ofInt n).W ≤ (Num.rootF (Num.ofInt (n * n)) true).W := sq_le_of wq (by rw [sqs]; exact r3)
        exact Num.val_inj r1.may G.may ⟨by have := r1.lo; omega, r1.hi⟩ (Num.ofInt_ok n) (by rw [Num.val_nn r2, Num.val_nn ngg]; omega)
    exact Prod.ext e1 e2

end Go.Proofs.Ytaiillbjhdoikaa.Ev

/- Contract of the seventh chapter's examples. Printed by gen.py. -/
namespace Go.Proofs.Ytaiillbjhdoikaa.Ev
open Go Go.Proofs
set_option linter.unusedVariables false
set_option linter.unusedSimpArgs false

attribute [local irreducible] Lb whN
theorem aw7a : (Num.div (Num.ofInt 1) (Num.ofInt 3) false).kind = 1 := by decide +kernel
theorem aw7b : Num.next (Num.div (Num.ofInt 1) (Num.ofInt 3) false) true = Num.div (Num.ofInt 1) (Num.ofInt 3) true := by decide +kernel
theorem aw7c : Num.root (Num.ofInt 4) true = (Num.ofInt 2, true) := root_sq (n := 2) (by decide) (by decide) true
theorem aw7d : ratioN false (5 * 10 ^ 0) false (10 ^ 1) false = Num.mul (Num.ofInt 1) ⟨1, false, 9223372036854775808, -64⟩ true := by decide +kernel
theorem aw7e : fromN false [5] (-1) false = Num.mul (Num.ofInt 1) ⟨1, false, 9223372036854775808, -64⟩ true := by
  have l5 : lv [(5 : Int)] = 5 := rfl
  have t5 : t10 5 = 0 := t10_stop (by decide)
  have s5 : (decS 5).length = 1 := by
    unfold decS
    rw [if_neg (by decide), digR_pos (by decide), show 5 / 10 = 0 by rfl, digR_zero]; rfl
  have lm5 : (lim 5).length = 1 := by decide +kernel
  have m5 : decMake false 5 (-1) = ((false, lim 5, -1), 0) := by
    unfold decMake
    rw [t5, if_neg (by decide), if_neg (by decide), if_neg]
    · simp
    · simp only [Nat.pow_zero, Nat.div_one, s5, lm5]; decide
  have k : decMayB false [5] (-1) = true := by
    unfold decMayB
    rw [if_neg (by decide), l5, m5]; decide
  unfold fromN
  rw [if_pos k, l5]
  exact aw7d
theorem num_eq_t {E : Env} (hE : E = realE Try.prog) (a b : Num) (h : a = b) : E.band (E.cmp .eql a.kind b.kind) (E.band (E.beq a.neg b.neg) (E.band (E.cmp .eql a.m b.m) (E.cmp .eql a.e b.e))) = true := by
  subst hE; subst h
  simp [realE, cmpR]
set_option maxHeartbeats 2000000 in
theorem c_awake07 : ∃ t : Bool, t = true ∧ CallsA Try.prog 20 [] (.bool (.s t)) := by
  refine ⟨_, rfl, ?_⟩
  have lb5 : Lb [(5 : Int)] := Lb.cons (by decide) (by decide) Lb.nil
  refine callsA_of hG hm Try.func20 (by kernel_rfl) ?_
  intro E hE lp hl'
  have es : E.sub [5] 0 1 = [5] := by subst hE; rfl
  cbv
  (first | (apply E_pcallX hE (c_Of 1 (by decide) (by decide)); (case hm => rfl); (case hle => (repeat' (first | exact u_nil | apply u_cons | apply u2_agg | exact u2_int | exact u1_int | exact u2_bool | exact u1_bool | exact u2_sli | exact u1_sli | exact u2_s0 | exact u1_s0))); all_goals (first | (intro o1 h1; cbv) | (assumption))) | (apply E_callX hE (c_Of 1 (by decide) (by decide)); (case hf => rfl); (case hc => (cbv <;> trivial)); (case hle => (repeat' (first | exact u_nil | apply u_cons | apply u2_agg | exact u2_int | exact u1_int | exact u2_bool | exact u1_bool | exact u2_sli | exact u1_sli | exact u2_s0 | exact u1_s0))); all_goals (first | (intro o1 h1; cbv) | (assumption))))
  (first | (apply E_pcallX hE (c_Of 3 (by decide) (by decide)); (case hm => rfl); (case hle => (repeat' (first | exact u_nil | apply u_cons | apply u2_agg | exact u2_int | exact u1_int | exact u2_bool | exact u1_bool | exact u2_sli | exact u1_sli | exact u2_s0 | exact u1_s0))); all_goals (first | (intro o3 h3; cbv) | (assumption))) | (apply E_callX hE (c_Of 3 (by decide) (by decide)); (case hf => rfl); (case hc => (cbv <;> trivial)); (case hle => (repeat' (first | exact u_nil | apply u_cons | apply u2_agg | exact u2_int | exact u1_int | exact u2_bool | exact u1_bool | exact u2_sli | exact u1_sli | exact u2_s0 | exact u1_s0))); all_goals (first | (intro o3 h3; cbv) | (assumption))))
  have k1 : o1.ok := by rw [h1]; exact Num.ofInt_ok 1
  have k3 : o3.ok := by rw [h3]; exact Num.ofInt_ok 3
  (first | (apply E_pcallX hE (c_quDiv ⟨_, _, _, _⟩ ⟨_, _, _, _⟩ _ ?_ ?_); (case hm => rfl); (case hle => (repeat' (first | exact u_nil | apply u_cons | apply u2_agg | exact u2_int | exact u1_int | exact u2_bool | exact u1_bool | exact u2_sli | exact u1_sli | exact u2_s0 | exact u1_s0))); all_goals (first | (intro lo hlo; cbv) | (first | exact k1 | exact k3))) | (apply E_callX hE (c_quDiv ⟨_, _, _, _⟩ ⟨_, _, _, _⟩ _ ?_ ?_); (case hf => rfl); (case hc => (cbv <;> trivial)); (case hle => (repeat' (first | exact u_nil | apply u_cons | apply u2_agg | exact u2_int | exact u1_int | exact u2_bool | exact u1_bool | exact u2_sli | exact u1_sli | exact u2_s0 | exact u1_s0))); all_goals (first | (intro lo hlo; cbv) | (first | exact k1 | exact k3))))
  (first | (apply E_pcallX hE (c_Of 1 (by decide) (by decide)); (case hm => rfl); (case hle => (repeat' (first | exact u_nil | apply u_cons | apply u2_agg | exact u2_int | exact u1_int | exact u2_bool | exact u1_bool | exact u2_sli | exact u1_sli | exact u2_s0 | exact u1_s0))); all_goals (first | (intro p1 g1; cbv) | (assumption))) | (apply E_callX hE (c_Of 1 (by decide) (by decide)); (case hf => rfl); (case hc => (cbv <;> trivial)); (case hle => (repeat' (first | exact u_nil | apply u_cons | apply u2_agg | exact u2_int | exact u1_int | exact u2_bool | exact u1_bool | exact u2_sli | exact u1_sli | exact u2_s0 | exact u1_s0))); all_goals (first | (intro p1 g1; cbv) | (assumption))))
  (first | (apply E_pcallX hE (c_Of 3 (by decide) (by decide)); (case hm => rfl); (case hle => (repeat' (first | exact u_nil | apply u_cons | apply u2_agg | exact u2_int | exact u1_int | exact u2_bool | exact u1_bool | exact u2_sli | exact u1_sli | exact u2_s0 | exact u1_s0))); all_goals (first | (intro p3 g3; cbv) | (assumption))) | (apply E_callX hE (c_Of 3 (by decide) (by decide)); (case hf => rfl); (case hc => (cbv <;> trivial)); (case hle => (repeat' (first | exact u_nil | apply u_cons | apply u2_agg | exact u2_int | exact u1_int | exact u2_bool | exact u1_bool | exact u2_sli | exact u1_sli | exact u2_s0 | exact u1_s0))); all_goals (first | (intro p3 g3; cbv) | (assumption))))
  have j1 : p1.ok := by rw [g1]; exact Num.ofInt_ok 1
  have j3 : p3.ok := by rw [g3]; exact Num.ofInt_ok 3
  (first | (apply E_pcallX hE (c_quDiv ⟨_, _, _, _⟩ ⟨_, _, _, _⟩ _ ?_ ?_); (case hm => rfl); (case hle => (repeat' (first | exact u_nil | apply u_cons | apply u2_agg | exact u2_int | exact u1_int | exact u2_bool | exact u1_bool | exact u2_sli | exact u1_sli | exact u2_s0 | exact u1_s0))); all_goals (first | (intro hi hhi; cbv) | (first | exact j1 | exact j3))) | (apply E_callX hE (c_quDiv ⟨_, _, _, _⟩ ⟨_, _, _, _⟩ _ ?_ ?_); (case hf => rfl); (case hc => (cbv <;> trivial)); (case hle => (repeat' (first | exact u_nil | apply u_cons | apply u2_agg | exact u2_int | exact u1_int | exact u2_bool | exact u1_bool | exact u2_sli | exact u1_sli | exact u2_s0 | exact u1_s0))); all_goals (first | (intro hi hhi; cbv) | (first | exact j1 | exact j3))))
  (first | (apply E_pcallX hE (c_Of 4 (by decide) (by decide)); (case hm => rfl); (case hle => (repeat' (first | exact u_nil | apply u_cons | apply u2_agg | exact u2_int | exact u1_int | exact u2_bool | exact u1_bool | exact u2_sli | exact u1_sli | exact u2_s0 | exact u1_s0))); all_goals (first | (intro p4 g4; cbv) | (assumption))) | (apply E_callX hE (c_Of 4 (by decide) (by decide)); (case hf => rfl); (case hc => (cbv <;> trivial)); (case hle => (repeat' (first | exact u_nil | apply u_cons | apply u2_agg | exact u2_int | exact u1_int | exact u2_bool | exact u1_bool | exact u2_sli | exact u1_sli | exact u2_s0 | exact u1_s0))); all_goals (first | (intro p4 g4; cbv) | (assumption))))
  have j4 : p4.ok := by rw [g4]; exact Num.ofInt_ok 4
  (first | (apply E_pcallX hE (c_quRoot ⟨_, _, _, _⟩ _ ?_); (case hm => rfl); (case hle => (repeat' (first | exact u_nil | apply u_cons | apply u2_agg | exact u2_int | exact u1_int | exact u2_bool | exact u1_bool | exact u2_sli | exact u1_sli | exact u2_s0 | exact u1_s0))); all_goals (first | (intro rt hrt; cbv) | (exact j4))) | (apply E_callX hE (c_quRoot ⟨_, _, _, _⟩ _ ?_); (case hf => rfl); (case hc => (cbv <;> trivial)); (case hle => (repeat' (first | exact u_nil | apply u_cons | apply u2_agg | exact u2_int | exact u1_int | exact u2_bool | exact u1_bool | exact u2_sli | exact u1_sli | exact u2_s0 | exact u1_s0))); all_goals (first | (intro rt hrt; cbv) | (exact j4))))
  (first | (apply E_pcallX hE (c_quFrom false _ (-1) false ?_ ?_ ?_ ?_); (case hm => rfl); (case hle => (repeat' (first | exact u_nil | apply u_cons | apply u2_agg | exact u2_int | exact u1_int | exact u2_bool | exact u1_bool | exact u2_sli | exact u1_sli | exact u2_s0 | exact u1_s0))); all_goals (first | (intro h hh; cbv) | ((first | (show Lb (E.sub [5] 0 1); rw [es]; exact lb5) | (show (E.sub [5] 0 1).length < 33554432; rw [es]; decide) | decide)))) | (apply E_callX hE (c_quFrom false _ (-1) false ?_ ?_ ?_ ?_); (case hf => rfl); (case hc => (cbv <;> trivial)); (case hle => (repeat' (first | exact u_nil | apply u_cons | apply u2_agg | exact u2_int | exact u1_int | exact u2_bool | exact u1_bool | exact u2_sli | exact u1_sli | exact u2_s0 | exact u1_s0))); all_goals (first | (intro h hh; cbv) | ((first | (show Lb (E.sub [5] 0 1); rw [es]; exact lb5) | (show (E.sub [5] 0 1).length < 33554432; rw [es]; decide) | decide)))))
  have elo : lo = Num.div (Num.ofInt 1) (Num.ofInt 3) false := by have k : lo = Num.div o1 o3 false := hlo; rw [k, h1, h3]
  have ehi : hi = Num.div (Num.ofInt 1) (Num.ofInt 3) true := by have k : hi = Num.div p1 p3 true := hhi; rw [k, g1, g3]
  have ert : rt = (Num.ofInt 2, true) := by have k : rt = Num.root p4 true := hrt; rw [k, g4, aw7c]
  have eh : h = Num.mul (Num.ofInt 1) ⟨1, false, 9223372036854775808, -64⟩ true := by have k : h = fromN false (E.sub [5] 0 1) (-1) false := hh; rw [k, es, aw7e]
  clear hlo hhi hrt hh
  have b1 : E.cmp .eql lo.kind 1 = true := by rw [elo]; subst hE; rw [show (realE Try.prog).cmp .eql (Num.div (Num.ofInt 1) (Num.ofInt 3) false).kind 1 = decide ((Num.div (Num.ofInt 1) (Num.ofInt 3) false).kind = 1) from cmp_eql _ _, aw7a]; rfl
  refine E_br_t hE b1 ?_; cbv
  (first | (apply E_pcallX hE (c_Next ⟨_, _, _, _⟩ true); (case hm => rfl); (case hle => (repeat' (first | exact u_nil | apply u_cons | apply u2_agg | exact u2_int | exact u1_int | exact u2_bool | exact u1_bool | exact u2_sli | exact u1_sli | exact u2_s0 | exact u1_s0))); all_goals (first | (intro nx hnx; cbv) | (assumption))) | (apply E_callX hE (c_Next ⟨_, _, _, _⟩ true); (case hf => rfl); (case hc => (cbv <;> trivial)); (case hle => (repeat' (first | exact u_nil | apply u_cons | apply u2_agg | exact u2_int | exact u1_int | exact u2_bool | exact u1_bool | exact u2_sli | exact u1_sli | exact u2_s0 | exact u1_s0))); all_goals (first | (intro nx hnx; cbv) | (assumption))))
  have enx : nx = hi := by have k : nx = Num.next lo true := hnx; rw [k, elo, ehi, aw7b]
  refine E_br_t hE (num_eq_t hE nx hi enx) ?_; cbv
  have b2 : rt.2 = true := by rw [ert]
  refine E_br_t hE b2 ?_; cbv
  (first | (apply E_pcallX hE (c_Of 2 (by decide) (by decide)); (case hm => rfl); (case hle => (repeat' (first | exact u_nil | apply u_cons | apply u2_agg | exact u2_int | exact u1_int | exact u2_bool | exact u1_bool | exact u2_sli | exact u1_sli | exact u2_s0 | exact u1_s0))); all_goals (first | (intro o2 h2; cbv) | (assumption))) | (apply E_callX hE (c_Of 2 (by decide) (by decide)); (case hf => rfl); (case hc => (cbv <;> trivial)); (case hle => (repeat' (first | exact u_nil | apply u_cons | apply u2_agg | exact u2_int | exact u1_int | exact u2_bool | exact u1_bool | exact u2_sli | exact u1_sli | exact u2_s0 | exact u1_s0))); all_goals (first | (intro o2 h2; cbv) | (assumption))))
  have e2 : rt.1 = o2 := by rw [ert, h2]
  refine E_br_t hE (num_eq_t hE rt.1 o2 e2) ?_; cbv
  (first | (apply E_pcallX hE (c_Of 1 (by decide) (by decide)); (case hm => rfl); (case hle => (repeat' (first | exact u_nil | apply u_cons | apply u2_agg | exact u2_int | exact u1_int | exact u2_bool | exact u1_bool | exact u2_sli | exact u1_sli | exact u2_s0 | exact u1_s0))); all_goals (first | (intro q1 r1; cbv) | (assumption))) | (apply E_callX hE (c_Of 1 (by decide) (by decide)); (case hf => rfl); (case hc => (cbv <;> trivial)); (case hle => (repeat' (first | exact u_nil | apply u_cons | apply u2_agg | exact u2_int | exact u1_int | exact u2_bool | exact u1_bool | exact u2_sli | exact u1_sli | exact u2_s0 | exact u1_s0))); all_goals (first | (intro q1 r1; cbv) | (assumption))))
  have kq : q1.ok := by rw [r1]; exact Num.ofInt_ok 1
  (first | (apply E_pcallX hE (c_Half ⟨_, _, _, _⟩ true ?_); (case hm => rfl); (case hle => (repeat' (first | exact u_nil | apply u_cons | apply u2_agg | exact u2_int | exact u1_int | exact u2_bool | exact u1_bool | exact u2_sli | exact u1_sli | exact u2_s0 | exact u1_s0))); all_goals (first | (intro hf hhf; cbv) | (exact kq))) | (apply E_callX hE (c_Half ⟨_, _, _, _⟩ true ?_); (case hf => rfl); (case hc => (cbv <;> trivial)); (case hle => (repeat' (first | exact u_nil | apply u_cons | apply u2_agg | exact u2_int | exact u1_int | exact u2_bool | exact u1_bool | exact u2_sli | exact u1_sli | exact u2_s0 | exact u1_s0))); all_goals (first | (intro hf hhf; cbv) | (exact kq))))
  have e3 : h = hf := by have k : hf = Num.mul q1 ⟨1, false, 9223372036854775808, -64⟩ true := hhf; rw [k, r1, eh]
  exact num_eq_t hE h hf e3

end Go.Proofs.Ytaiillbjhdoikaa.Ev

/- Contracts: decimal numbers compared. Printed by gen.py. -/
namespace Go.Proofs.Ytaiillbjhdoikaa.Ev
open Go Go.Proofs
set_option linter.unusedVariables false
set_option linter.unusedSimpArgs false

attribute [local irreducible] Lb whN
def dpS (n : Int) : Int × Bool × List Int → St
  | (i, b, l) => ⟨[(2, .ptr 0 2 (.l 0) 0), (4, .ptr 1 2 (.l 0) 0), (5, .int .i64 (.s n)), (6, .int .i64 (.s i))],
      [.rows true 2 [.bool (.l false), .s0] [[.bool (.s b), .sli .u32 l]], .rows true 2 [.bool (.l false), .s0] [[.bool (.l false), .s0]]]⟩
theorem ten_len8 {k : Nat} (h : k ≤ 800) : (lim (10 ^ k)).length ≤ 200 := by
  refine lim_length_le ?_
  obtain ⟨a, b, ha, hb, hab⟩ : ∃ a b : Nat, a = 4 ∧ b = 200 ∧ k ≤ a * b := ⟨4, 200, rfl, rfl, h⟩
  have e1 : (10 : Nat) ^ k ≤ 10 ^ (a * b) := Nat.pow_le_pow_right (by decide) hab
  have e2 : (10 : Nat) ^ (a * b) < 4294967296 ^ b := by
    rw [Nat.pow_mul]
    exact Nat.pow_lt_pow_left (by rw [ha]; decide) (by rw [hb]; decide)
  rw [hb] at e2
  rw [hb] at e1
  exact Nat.lt_of_le_of_lt e1 e2
theorem ten_mul_len {v : Int} {n k : Nat} (hv : (whN v).2.length ≤ n) (hk : k ≤ 800) : (whN (v * (10 ^ k : Nat))).2.length ≤ n + 200 := by
  have a1 := lv_lt (whN_lb v)
  have a2 := lv_lt (lim_lb (10 ^ k))
  have l2 := ten_len8 hk
  rw [lv_lim] at a2
  have e1 : lv (whN v).2 = v.natAbs := by unfold whN; exact lv_lim _
  have e2 : (whN (v * (10 ^ k : Nat))).2 = lim (v.natAbs * 10 ^ k) := by unfold whN; dsimp only; rw [Int.natAbs_mul, Int.natAbs_natCast]
  rw [e1] at a1
  rw [e2]
  have a3 : v.natAbs * 10 ^ k < 4294967296 ^ ((whN v).2.length + (lim (10 ^ k)).length) := by
    rw [Nat.pow_add]
    exact Nat.mul_lt_mul_of_lt_of_le' a1 (Nat.le_of_lt a2) (Nat.pow_pos (by decide))
  have := lim_length_le a3
  omega
set_option maxHeartbeats 1000000 in
theorem c_decPower (v : Int) (m : Bool × List Int) (hm0 : m = whN v) (hl0 : m.2.length ≤ 1000) (n : Int) (hn0 : -9223372036854775808 ≤ n) (hn : n ≤ 800) : ∃ t : Bool × List Int, t = whN (v * (10 ^ n.toNat : Nat)) ∧ CallsA Try.prog 76 [.agg [.bool (.s m.1), .sli .u32 m.2], .int .i64 (.s n)] (.agg [.bool (.s t.1), .sli .u32 t.2]) := by
  refine ⟨_, rfl, ?_⟩
  generalize hr : whN (v * (10 ^ n.toNat : Nat)) = r
  obtain ⟨ms, em⟩ : ∃ ms : Int × Bool × List Int → Nat, ∀ p, ms p = (n - p.1).toNat := ⟨_, fun _ => rfl⟩
  obtain ⟨ok, eok⟩ : ∃ ok : Int × Bool × List Int → Prop, ∀ p, ok p ↔ (0 ≤ p.1 ∧ (0 < p.1 → p.1 ≤ n) ∧ p.2 = whN (v * (10 ^ p.1.toNat : Nat))) := ⟨_, fun _ => Iff.rfl⟩
  have start : ok (0, m) := by
    refine (eok _).2 ⟨Int.le_refl _, fun h => absurd h (Int.lt_irrefl 0), ?_⟩
    show m = _
    rw [hm0, show (0 : Int).toNat = 0 from rfl, Nat.pow_zero, Int.natCast_one, Int.mul_one]
  have bnd : ∀ i p, ok (i, p) → i < n → Lb p.2 ∧ p.2.length < 60000000 := by
    intro i p h hlt
    obtain ⟨h1, h2, h3⟩ := (eok _).1 h
    dsimp only at h1 h2 h3
    rw [h3]
    refine ⟨whN_lb _, ?_⟩
    rw [hm0] at hl0
    have := ten_mul_len (k := i.toNat) hl0 (by omega)
    omega
  have next : ∀ i p, ok (i, p) → i < n → ∀ u x, u = (decide ((10 : Int) < 0), lim (10 : Int).natAbs) → x = ((p.1 != u.1) && decide (lv p.2 * lv u.2 ≠ 0), lim (lv p.2 * lv u.2)) → ms (IntKind.i64.wrap (i + 1), x) < ms (i, p) ∧ ok (IntKind.i64.wrap (i + 1), x) := by
    intro i p h hlt u x hu hx
    obtain ⟨h1, h2, h3⟩ := (eok _).1 h
    dsimp only at h1 h2 h3
    rw [wi64_in (by omega) (by omega)]
    refine ⟨by rw [em, em]; dsimp only; omega, (eok _).2 ⟨by dsimp only; omega, fun _ => by dsimp only; omega, ?_⟩⟩
    show x = _
    have hu' : u = whN (10 : Int) := by rw [hu]; unfold whN; rfl
    rw [hx, mulN, hu', h3, wv_whN, wv_whN, show (i + 1).toNat = i.toNat + 1 by omega, Nat.pow_succ, Int.natCast_mul, ← Int.mul_assoc]
    rfl
  have stop : ∀ i p, ok (i, p) → ¬ i < n → p = r := by
    intro i p h hlt
    obtain ⟨h1, h2, h3⟩ := (eok _).1 h
    dsimp only at h1 h2 h3
    rw [h3, ← hr]
    congr 3
    by_cases z : 0 < i
    · have := h2 z; rw [show i.toNat = n.toNat by omega]
    · rw [show i.toNat = n.toNat by omega]
  have tb : ∀ u : Bool × List Int, u = (decide ((10 : Int) < 0), lim (10 : Int).natAbs) → Lb u.2 ∧ u.2.length < 60000000 := by
    intro u hu
    rw [hu]
    exact ⟨lim_lb (Int.natAbs 10), by decide⟩
  clear hr hm0 hl0
  refine callsA_of hG hm Try.func76 (by kernel_rfl) ?_
  intro E hE lp hl
  cbv
  refine E_loop hE hG hm hl (dpS n) ms ok ⟨(0, m), start, stLe rfl ?_⟩ ?_
  · (repeat' (first | exact t_nil | apply t_cons | exact u2_sli | exact u2_int | exact u2_bool | exact (rfl : sle2 (.ptr 0 2 (.l 0) 0) (.ptr 0 2 (.l 0) 0)) | exact (rfl : sle2 (.ptr 1 2 (.l 0) 0) (.ptr 1 2 (.l 0) 0))))
  rintro ⟨i, b, l⟩ hok
  have bd := bnd i (b, l) hok
  have nx := next i (b, l) hok
  have sp := stop i (b, l) hok
  clear bnd next stop start hok
  cbv
  refine E_br hE (fun g => ?_) (fun g => ?_) <;> cbv
  · have g' : i < n := by subst hE; exact lss_t g
    have bd := bd g'
    have nx := nx g'
    (first | (apply E_pcallX hE (c_wFrom 10 (by decide) (by decide)); (case hm => rfl); (case hle => (repeat' (first | exact u_nil | apply u_cons | apply u2_agg | exact u2_int | exact u1_int | exact u2_bool | exact u1_bool | exact u2_sli | exact u1_sli | exact u2_s0 | exact u1_s0))); all_goals (first | (intro u hu; cbv) | (assumption))) | (apply E_callX hE (c_wFrom 10 (by decide) (by decide)); (case hf => rfl); (case hc => (cbv <;> trivial)); (case hle => (repeat' (first | exact u_nil | apply u_cons | apply u2_agg | exact u2_int | exact u1_int | exact u2_bool | exact u1_bool | exact u2_sli | exact u1_sli | exact u2_s0 | exact u1_s0))); all_goals (first | (intro u hu; cbv) | (assumption))))
    have ub := tb u hu
    apply E_pcallX hE (c_wMul2 b l u.1 u.2 bd.1 ub.1 bd.2 ub.2)
    case hm => rfl
    case hle => exact ⟨u2_slc', trivial⟩
    intro t ht
    cbv
    have q := nx u t hu ht
    refine ⟨(E.bin .add .i64 i 1, t), ?_, ?_, stLe rfl ?_⟩
    · subst hE; exact q.1
    · subst hE; exact q.2
    · (repeat' (first | exact t_nil | apply t_cons | exact u2_sli | exact u2_int | exact u2_bool | exact (rfl : sle2 (.ptr 0 2 (.l 0) 0) (.ptr 0 2 (.l 0) 0)) | exact (rfl : sle2 (.ptr 1 2 (.l 0) 0) (.ptr 1 2 (.l 0) 0))))
  · have g' : ¬ i < n := by subst hE; exact lss_f g
    have sp := sp g'
    rw [← sp]; exact ⟨rfl, rfl, trivial⟩

theorem dec_can {neg : Bool} {m : List Int} {tens : Int} (h : Lb m) (k : decMayB neg m tens = true) : (neg, m) = whN (wv neg m) := by
  obtain ⟨k1, k2, k3, k4, k5, k6⟩ := decMay_ok h k
  unfold whN wv
  cases neg
  · rw [if_neg (by decide), decide_eq_false (by omega), Int.natAbs_natCast, ← k4]
  · rw [if_pos rfl, decide_eq_true (by by_cases z : lv m = 0; exact absurd (k5 z).1 (by decide); omega), Int.natAbs_neg, Int.natAbs_natCast, ← k4]
set_option maxHeartbeats 1000000 in
theorem c_decCmp (na : Bool) (a : List Int) (ta : Int) (nb : Bool) (b : List Int) (tb : Int) (ha : Lb a) (hb : Lb b) (la : a.length < 33554432) (lb : b.length < 33554432) (ka : decMayB na a ta = true) (kb : decMayB nb b tb = true) :
    ∃ t : Int, (∀ x y : Int, x = wv na a * (10 ^ (ta - min ta tb).toNat : Nat) → y = wv nb b * (10 ^ (tb - min ta tb).toNat : Nat) → t = if x < y then -1 else if y < x then 1 else 0) ∧
      CallsA Try.prog 34 [.agg [.bool (.s na), .sli .u32 a, .int .i64 (.s ta)], .agg [.bool (.s nb), .sli .u32 b, .int .i64 (.s tb)]] (.int .i64 (.s t)) := by
  refine ⟨_, fun x y hx hy => by rw [hx, hy], ?_⟩
  generalize hr : (if wv na a * (10 ^ (ta - min ta tb).toNat : Nat) < wv nb b * (10 ^ (tb - min ta tb).toNat : Nat) then -1 else if wv nb b * (10 ^ (tb - min ta tb).toNat : Nat) < wv na a * (10 ^ (ta - min ta tb).toNat : Nat) then 1 else 0 : Int) = r
  have ca := dec_can ha ka
  have cb := dec_can hb kb
  obtain ⟨a1, a2, a3, -⟩ := decMay_ok ha ka
  obtain ⟨b1, b2, b3, -⟩ := decMay_ok hb kb
  have t1 : -9223372036854775808 ≤ ta := by omega
  have t2 : ta < 9223372036854775808 := by omega
  have t3 : -9223372036854775808 ≤ tb := by omega
  have t4 : tb < 9223372036854775808 := by omega
  have la2 : (na, a).2.length ≤ 1000 := by show a.length ≤ 1000; omega
  have lb2 : (nb, b).2.length ≤ 1000 := by show b.length ≤ 1000; omega
  have pa : ∀ x : Int, x ≤ 800 → ∀ p : Bool × List Int, p = whN (wv na a * (10 ^ x.toNat : Nat)) → Lb p.2 ∧ p.2.length < 67108864 ∧ wv p.1 p.2 = wv na a * (10 ^ x.toNat : Nat) := by
    intro x hx p hp
    rw [ca] at la2
    have := ten_mul_len (k := x.toNat) la2 (by omega)
    rw [hp]; exact ⟨whN_lb _, by omega, wv_whN _⟩
  have pb : ∀ x : Int, x ≤ 800 → ∀ p : Bool × List Int, p = whN (wv nb b * (10 ^ x.toNat : Nat)) → Lb p.2 ∧ p.2.length < 67108864 ∧ wv p.1 p.2 = wv nb b * (10 ^ x.toNat : Nat) := by
    intro x hx p hp
    rw [cb] at lb2
    have := ten_mul_len (k := x.toNat) lb2 (by omega)
    rw [hp]; exact ⟨whN_lb _, by omega, wv_whN _⟩
  refine callsA_of hG hm Try.func34 (by kernel_rfl) ?_
  intro E hE lp hl
  cbv
  (first | (apply E_pcallX hE (c_decMay na a ta ha la t1 t2); (case hm => rfl); (case hle => (repeat' (first | exact u_nil | apply u_cons | apply u2_agg | exact u2_int | exact u1_int | exact u2_bool | exact u1_bool | exact u2_sli | exact u1_sli | exact u2_s0 | exact u1_s0))); all_goals (first | (intro m1 hm1; cbv) | (assumption))) | (apply E_callX hE (c_decMay na a ta ha la t1 t2); (case hf => rfl); (case hc => (cbv <;> trivial)); (case hle => (repeat' (first | exact u_nil | apply u_cons | apply u2_agg | exact u2_int | exact u1_int | exact u2_bool | exact u1_bool | exact u2_sli | exact u1_sli | exact u2_s0 | exact u1_s0))); all_goals (first | (intro m1 hm1; cbv) | (assumption))))
  have n1 : E.bnot m1 = false := by rw [hm1, ka]; subst hE; rfl
  refine E_br_f hE n1 ?_; cbv
  (first | (apply E_pcallX hE (c_decMay nb b tb hb lb t3 t4); (case hm => rfl); (case hle => (repeat' (first | exact u_nil | apply u_cons | apply u2_agg | exact u2_int | exact u1_int | exact u2_bool | exact u1_bool | exact u2_sli | exact u1_sli | exact u2_s0 | exact u1_s0))); all_goals (first | (intro m2 hm2; cbv) | (assumption))) | (apply E_callX hE (c_decMay nb b tb hb lb t3 t4); (case hf => rfl); (case hc => (cbv <;> trivial)); (case hle => (repeat' (first | exact u_nil | apply u_cons | apply u2_agg | exact u2_int | exact u1_int | exact u2_bool | exact u1_bool | exact u2_sli | exact u1_sli | exact u2_s0 | exact u1_s0))); all_goals (first | (intro m2 hm2; cbv) | (assumption))))
  have n2 : E.bnot m2 = false := by rw [hm2, kb]; subst hE; rfl
  refine E_br_f hE n2 ?_; cbv
  have done : ∀ x y z : Int, x = ta - min ta tb → y = tb - min ta tb → z = (if wv na a * (10 ^ x.toNat : Nat) < wv nb b * (10 ^ y.toNat : Nat) then -1 else if wv nb b * (10 ^ y.toNat : Nat) < wv na a * (10 ^ x.toNat : Nat) then 1 else 0) → z = r := by
    intro x y z hx hy hz; rw [hz, hx, hy, hr]
  clear hr hm1 hm2 n1 n2
  refine E_br hE (fun g => ?_) (fun g => ?_) <;> cbv
  · refine E_nm hE (fun v hv => ?_); cbv
    have hv : v = tb := hv
    have ex : (E.bin .sub .i64 ta v) = ta - min ta tb := by subst hE; have := lss_t g; rw [hv]; show IntKind.i64.wrap (ta - tb) = _; rw [wi64_in (by omega) (by omega)]; omega
    have ey : (E.bin .sub .i64 tb v) = tb - min ta tb := by subst hE; have := lss_t g; rw [hv]; show IntKind.i64.wrap (tb - tb) = _; rw [wi64_in (by omega) (by omega)]; omega
    (first | (apply E_pcallX hE (c_decPower (wv na a) (na, a) ca la2 (E.bin .sub .i64 ta v) (by rw [ex]; omega) (by rw [ex]; omega)); (case hm => rfl); (case hle => (repeat' (first | exact u_nil | apply u_cons | apply u2_agg | exact u2_int | exact u1_int | exact u2_bool | exact u1_bool | exact u2_sli | exact u1_sli | exact u2_s0 | exact u1_s0))); all_goals (first | (intro p hp; cbv) | (assumption))) | (apply E_callX hE (c_decPower (wv na a) (na, a) ca la2 (E.bin .sub .i64 ta v) (by rw [ex]; omega) (by rw [ex]; omega)); (case hf => rfl); (case hc => (cbv <;> trivial)); (case hle => (repeat' (first | exact u_nil | apply u_cons | apply u2_agg | exact u2_int | exact u1_int | exact u2_bool | exact u1_bool | exact u2_sli | exact u1_sli | exact u2_s0 | exact u1_s0))); all_goals (first | (intro p hp; cbv) | (assumption))))
    (first | (apply E_pcallX hE (c_decPower (wv nb b) (nb, b) cb lb2 (E.bin .sub .i64 tb v) (by rw [ey]; omega) (by rw [ey]; omega)); (case hm => rfl); (case hle => (repeat' (first | exact u_nil | apply u_cons | apply u2_agg | exact u2_int | exact u1_int | exact u2_bool | exact u1_bool | exact u2_sli | exact u1_sli | exact u2_s0 | exact u1_s0))); all_goals (first | (intro q hq; cbv) | (assumption))) | (apply E_callX hE (c_decPower (wv nb b) (nb, b) cb lb2 (E.bin .sub .i64 tb v) (by rw [ey]; omega) (by rw [ey]; omega)); (case hf => rfl); (case hc => (cbv <;> trivial)); (case hle => (repeat' (first | exact u_nil | apply u_cons | apply u2_agg | exact u2_int | exact u1_int | exact u2_bool | exact u1_bool | exact u2_sli | exact u1_sli | exact u2_s0 | exact u1_s0))); all_goals (first | (intro q hq; cbv) | (assumption))))
    obtain ⟨p1, p2, p3⟩ := pa _ (by rw [ex]; omega) p hp
    obtain ⟨q1, q2, q3⟩ := pb _ (by rw [ey]; omega) q hq
    (first | (apply E_pcallX hE (c_wCmp p.1 p.2 q.1 q.2 p1 q1 p2 q2); (case hm => rfl); (case hle => (repeat' (first | exact u_nil | apply u_cons | apply u2_agg | exact u2_int | exact u1_int | exact u2_bool | exact u1_bool | exact u2_sli | exact u1_sli | exact u2_s0 | exact u1_s0))); all_goals (first | (intro z hz; cbv) | (assumption))) | (apply E_callX hE (c_wCmp p.1 p.2 q.1 q.2 p1 q1 p2 q2); (case hf => rfl); (case hc => (cbv <;> trivial)); (case hle => (repeat' (first | exact u_nil | apply u_cons | apply u2_agg | exact u2_int | exact u1_int | exact u2_bool | exact u1_bool | exact u2_sli | exact u1_sli | exact u2_s0 | exact u1_s0))); all_goals (first | (intro z hz; cbv) | (assumption))))
    have k := done _ _ z ex ey (by rw [hz, p3, q3])
    (try (refine E_nm hE (fun s1 hs1 => ?_); cbv))
    first | exact k | exact hs1.trans k
  · refine E_nm hE (fun v hv => ?_); cbv
    have hv : v = ta := hv
    have ex : (E.bin .sub .i64 ta v) = ta - min ta tb := by subst hE; have := lss_f g; rw [hv]; show IntKind.i64.wrap (ta - ta) = _; rw [wi64_in (by omega) (by omega)]; omega
    have ey : (E.bin .sub .i64 tb v) = tb - min ta tb := by subst hE; have := lss_f g; rw [hv]; show IntKind.i64.wrap (tb - ta) = _; rw [wi64_in (by omega) (by omega)]; omega
    (first | (apply E_pcallX hE (c_decPower (wv na a) (na, a) ca la2 (E.bin .sub .i64 ta v) (by rw [ex]; omega) (by rw [ex]; omega)); (case hm => rfl); (case hle => (repeat' (first | exact u_nil | apply u_cons | apply u2_agg | exact u2_int | exact u1_int | exact u2_bool | exact u1_bool | exact u2_sli | exact u1_sli | exact u2_s0 | exact u1_s0))); all_goals (first | (intro p hp; cbv) | (assumption))) | (apply E_callX hE (c_decPower (wv na a) (na, a) ca la2 (E.bin .sub .i64 ta v) (by rw [ex]; omega) (by rw [ex]; omega)); (case hf => rfl); (case hc => (cbv <;> trivial)); (case hle => (repeat' (first | exact u_nil | apply u_cons | apply u2_agg | exact u2_int | exact u1_int | exact u2_bool | exact u1_bool | exact u2_sli | exact u1_sli | exact u2_s0 | exact u1_s0))); all_goals (first | (intro p hp; cbv) | (assumption))))
    (first | (apply E_pcallX hE (c_decPower (wv nb b) (nb, b) cb lb2 (E.bin .sub .i64 tb v) (by rw [ey]; omega) (by rw [ey]; omega)); (case hm => rfl); (case hle => (repeat' (first | exact u_nil | apply u_cons | apply u2_agg | exact u2_int | exact u1_int | exact u2_bool | exact u1_bool | exact u2_sli | exact u1_sli | exact u2_s0 | exact u1_s0))); all_goals (first | (intro q hq; cbv) | (assumption))) | (apply E_callX hE (c_decPower (wv nb b) (nb, b) cb lb2 (E.bin .sub .i64 tb v) (by rw [ey]; omega) (by rw [ey]; omega)); (case hf => rfl); (case hc => (cbv <;> trivial)); (case hle => (repeat' (first | exact u_nil | apply u_cons | apply u2_agg | exact u2_int | exact u1_int | exact u2_bool | exact u1_bool | exact u2_sli | exact u1_sli | exact u2_s0 | exact u1_s0))); all_goals (first | (intro q hq; cbv) | (assumption))))
    obtain ⟨p1, p2, p3⟩ := pa _ (by rw [ex]; omega) p hp
    obtain ⟨q1, q2, q3⟩ := pb _ (by rw [ey]; omega) q hq
    (first | (apply E_pcallX hE (c_wCmp p.1 p.2 q.1 q.2 p1 q1 p2 q2); (case hm => rfl); (case hle => (repeat' (first | exact u_nil | apply u_cons | apply u2_agg | exact u2_int | exact u1_int | exact u2_bool | exact u1_bool | exact u2_sli | exact u1_sli | exact u2_s0 | exact u1_s0))); all_goals (first | (intro z hz; cbv) | (assumption))) | (apply E_callX hE (c_wCmp p.1 p.2 q.1 q.2 p1 q1 p2 q2); (case hf => rfl); (case hc => (cbv <;> trivial)); (case hle => (repeat' (first | exact u_nil | apply u_cons | apply u2_agg | exact u2_int | exact u1_int | exact u2_bool | exact u1_bool | exact u2_sli | exact u1_sli | exact u2_s0 | exact u1_s0))); all_goals (first | (intro z hz; cbv) | (assumption))))
    have k := done _ _ z ex ey (by rw [hz, p3, q3])
    (try (refine E_nm hE (fun s1 hs1 => ?_); cbv))
    first | exact k | exact hs1.trans k

end Go.Proofs.Ytaiillbjhdoikaa.Ev

/- The next number, and what is rounded to both sides: one, or neighbours. Plain Lean. -/
namespace Go.Proofs.Ytaiillbjhdoikaa.Ev
open Go
set_option linter.unusedVariables false
set_option linter.unusedSimpArgs false
attribute [local irreducible] pw

theorem pos_cases {z : Num} (m : z.may = true) (o : z.ok) (h : 0 < z.val) : z = Num.inf false ∨ (z.Fin ∧ z.neg = false ∧ z.val = z.m * pw z.e) := by
  rcases Num.may3 m o with k | k | k
  · rw [k, Num.val_zero] at h; omega
  · right
    have w := k.lt.1
    cases q : z.neg
    · refine ⟨k, rfl, ?_⟩; unfold Num.val; rw [q, if_neg (by decide), k.W]
    · unfold Num.val at h; rw [q, if_pos rfl] at h; omega
  · left
    cases q : z.neg
    · rw [q] at k; exact k
    · rw [q] at k; rw [k, Num.val_inf, if_pos rfl] at h; have := pw_pos 1048640; omega
theorem fin_val_pos {m e : Int} (h1 : 9223372036854775808 ≤ m) (h2 : m < 18446744073709551616) (h3 : -1048576 ≤ e) (h4 : e ≤ 1048576) :
    (Num.mk 1 false m e).Fin ∧ (Num.mk 1 false m e).val = m * pw e := by
  have f : (Num.mk 1 false m e).Fin := ⟨rfl, h1, h2, h3, h4⟩
  refine ⟨f, ?_⟩
  show (if false then _ else _) = _; rw [if_neg (by decide), f.W]
theorem next_up {l : Num} (m : l.may = true) (o : l.ok) (k : l.kind ≠ 2) (h0 : 0 ≤ l.val) :
    (Num.next l true).may = true ∧ (Num.next l true).ok ∧ l.val < (Num.next l true).val ∧ ∀ z : Num, z.may = true → z.ok → l.val < z.val → (Num.next l true).val ≤ z.val := by
  rcases Num.may3 m o with c | c | c
  · have e : Num.next l true = ⟨1, false, 9223372036854775808, -1048576⟩ := by rw [c]; decide
    obtain ⟨f, v⟩ := fin_val_pos (m := 9223372036854775808) (e := -1048576) (by decide) (by decide) (by decide) (by decide)
    rw [e, v]
    have p := pw_pos (-1048576)
    refine ⟨f.may, f.ok, by rw [c, Num.val_zero]; omega, fun z mz oz hz => ?_⟩
    rw [c, Num.val_zero] at hz
    rcases pos_cases mz oz hz with q | ⟨q, _, q2⟩
    · rw [q, Num.val_inf, if_neg (by decide)]
      have := f.lt.2; rw [f.W] at this; exact Int.le_of_lt this
    · rw [q2]
      exact Int.le_trans (Int.mul_le_mul_of_nonneg_right q.lo (by omega)) (Int.mul_le_mul_of_nonneg_left (pw_mono (by decide) q.elo) (by have := q.lo; omega))
  · have w := c.lt.1
    have n : l.neg = false := by
      cases q : l.neg
      · rfl
      · unfold Num.val at h0; rw [q, if_pos rfl] at h0; omega
    have lv : l.val = l.m * pw l.e := by unfold Num.val; rw [n, if_neg (by decide), c.W]
    have lo := c.lo
    have hi := c.hi
    have elo := c.elo
    have ehi := c.ehi
    have p := pw_pos l.e
    have e : Num.next l true = Num.grow false l.m l.e true true := by
      unfold Num.next
      rw [Num.fair_of_may m, c.kind, n, if_neg (by decide), if_neg (by decide), if_pos (by decide)]
    by_cases hm : l.m + 1 < 18446744073709551616
    · have e2 : Num.next l true = ⟨1, false, l.m + 1, l.e⟩ := by
        have w1 : IntKind.u64.wrap (l.m + 1) = l.m + 1 := by rw [wu64]; omega
        rw [e]; unfold Num.grow
        rw [if_pos (show (true && true) = true from rfl), w1, if_neg (by omega)]; unfold Num.bound
        rw [if_neg (by omega), if_neg (by omega)]
      obtain ⟨f, v⟩ := fin_val_pos (m := l.m + 1) (e := l.e) (by omega) hm elo ehi
      rw [e2, v, lv]
      refine ⟨f.may, f.ok, Int.mul_lt_mul_of_pos_right (by omega) p, fun z mz oz hz => ?_⟩
      have z0 : 0 < z.val := Int.lt_of_le_of_lt (Int.mul_nonneg (by omega) (Int.le_of_lt p)) hz
      rcases pos_cases mz oz z0 with q | ⟨q, _, q2⟩
      · rw [q, Num.val_inf, if_neg (by decide)]
        have := f.lt.2; rw [f.W] at this; exact Int.le_of_lt this
      · rw [q2] at hz ⊢
        rcases Int.lt_trichotomy z.e l.e with g | g | g
        · have := lex_lt lo q.hi (by have := q.elo; omega) g
          omega
        · rw [g] at hz ⊢
          have := Int.lt_of_mul_lt_mul_right hz (Int.le_of_lt p)
          exact Int.mul_le_mul_of_nonneg_right (by omega) (Int.le_of_lt p)
        · exact Int.le_of_lt (lex_lt q.lo hm (by omega) g)
    · have hm2 : l.m = 18446744073709551615 := by omega
      have w0 : IntKind.u64.wrap (l.m + 1) = 0 := by rw [hm2, wu64]; decide
      have w1 : IntKind.i64.wrap (l.e + 1) = l.e + 1 := by rw [wi64]; omega
      have low : ∀ z : Num, z.Fin → l.m * pw l.e < z.m * pw z.e → l.e < z.e := by
        intro z q hz
        rcases Int.lt_trichotomy z.e l.e with g | g | g
        · have := lex_lt lo q.hi (by have := q.elo; omega) g
          omega
        · rw [g] at hz
          have := Int.lt_of_mul_lt_mul_right hz (Int.le_of_lt p)
          have := q.hi; omega
        · exact g
      by_cases he : l.e + 1 ≤ 1048576
      · have e2 : Num.next l true = ⟨1, false, 9223372036854775808, l.e + 1⟩ := by
          rw [e]; unfold Num.grow
          rw [if_pos (show (true && true) = true from rfl), if_pos w0, w1]; unfold Num.bound
          rw [if_neg (by omega), if_neg (by omega)]; rfl
        obtain ⟨f, v⟩ := fin_val_pos (m := 9223372036854775808) (e := l.e + 1) (by decide) (by decide) (by omega) he
        rw [e2, v, lv]
        refine ⟨f.may, f.ok, by rw [pw_succ (by omega), hm2]; omega, fun z mz oz hz => ?_⟩
        have z0 : 0 < z.val := Int.lt_of_le_of_lt (Int.mul_nonneg (by omega) (Int.le_of_lt p)) hz
        rcases pos_cases mz oz z0 with q | ⟨q, _, q2⟩
        · rw [q, Num.val_inf, if_neg (by decide)]
          have := f.lt.2; rw [f.W] at this; exact Int.le_of_lt this
        · rw [q2] at hz ⊢
          have g := low z q hz
          exact Int.le_trans (Int.mul_le_mul_of_nonneg_right q.lo (Int.le_of_lt (pw_pos _))) (Int.mul_le_mul_of_nonneg_left (pw_mono (by omega) (by omega)) (by have := q.lo; omega))
      · have e2 : Num.next l true = Num.inf false := by
          rw [e]; unfold Num.grow
          rw [if_pos (show (true && true) = true from rfl), if_pos w0, w1]; unfold Num.bound
          rw [if_pos (by omega), if_pos rfl]
        have cl := c.lt.2
        rw [c.W] at cl
        rw [e2, Num.val_inf, if_neg (by decide), lv]
        refine ⟨Num.inf_may _, Num.inf_ok _, cl, fun z mz oz hz => ?_⟩
        have z0 : 0 < z.val := Int.lt_of_le_of_lt (Int.mul_nonneg (by omega) (Int.le_of_lt p)) hz
        rcases pos_cases mz oz z0 with q | ⟨q, _, q2⟩
        · rw [q, Num.val_inf, if_neg (by decide)]; exact Int.le_refl _
        · rw [q2] at hz
          have g := low z q hz
          have := q.ehi
          omega
  · rw [c] at k; exact absurd rfl k
/-- of two that are nearest to both sides: one, or neighbours -/
theorem neighbours {l h : Num} {P Q : Int → Prop} (ml : l.may = true) (ol : l.ok) (kl : l.kind ≠ 2) (l0 : 0 ≤ l.val) (mh : h.may = true) (oh : h.ok) (lh : l.val ≤ h.val)
    (pq : ∀ v, P v ∨ Q v) (dopt : ∀ s : Num, s.may = true → s.ok → s ≠ Num.inf false → 0 ≤ s.val → P s.val → s.val ≤ l.val)
    (uopt : ∀ s : Num, s.may = true → s.ok → s ≠ Num.inf true → 0 ≤ s.val → Q s.val → h.val ≤ s.val) : l = h ∨ Num.next l true = h := by
  rcases Int.lt_or_eq_of_le lh with g | g
  · right
    obtain ⟨n1, n2, n3, n4⟩ := next_up ml ol kl l0
    have a := n4 h mh oh g
    have b : h.val ≤ (Num.next l true).val := by
      by_cases i : Num.next l true = Num.inf false
      · rw [i, Num.val_inf, if_neg (by decide)]; exact (Num.val_le mh oh).2
      · rcases pq (Num.next l true).val with q | q
        · have := dopt _ n1 n2 i (by omega) q; omega
        · refine uopt _ n1 n2 ?_ (by omega) q
          intro z
          rw [z, Num.val_inf, if_pos rfl] at n3
          have := pw_pos 1048640
          omega
    exact Num.val_inj n1 mh n2 oh (Int.le_antisymm a b)
  · exact .inl (Num.val_inj ml mh ol oh g)
end Go.Proofs.Ytaiillbjhdoikaa.Ev

/- The lowest bit of a number, and where it stands: plain Lean. -/
namespace Go.Proofs.Ytaiillbjhdoikaa.Ev
open Go
set_option linter.unusedVariables false
set_option linter.unusedSimpArgs false

end Go.Proofs.Ytaiillbjhdoikaa.Ev

/- Contracts: where the lowest bit stands; how many noughts there are at the end of limbs. Printed by gen.py. -/
namespace Go.Proofs.Ytaiillbjhdoikaa.Ev
open Go Go.Proofs
set_option linter.unusedVariables false
set_option linter.unusedSimpArgs false

attribute [local irreducible] Lb
end Go.Proofs.Ytaiillbjhdoikaa.Ev

/- Contracts of the reference: limbs cut of their noughts, which of two is less, a limb. Printed by gen.py. -/
namespace Go.Proofs.Ytaiillbjhdoikaa.Ev
open Go Go.Proofs
set_option linter.unusedVariables false
set_option linter.unusedSimpArgs false

attribute [local irreducible] Lb
end Go.Proofs.Ytaiillbjhdoikaa.Ev

/- Contracts of the reference: a limb, and the sum. Printed by gen.py. -/
namespace Go.Proofs.Ytaiillbjhdoikaa.Ev
open Go Go.Proofs
set_option linter.unusedVariables false
set_option linter.unusedSimpArgs false

attribute [local irreducible] Lb
end Go.Proofs.Ytaiillbjhdoikaa.Ev

/- Contracts of the reference: which of two is less, the difference. Printed by gen.py. -/
namespace Go.Proofs.Ytaiillbjhdoikaa.Ev
open Go Go.Proofs
set_option linter.unusedVariables false
set_option linter.unusedSimpArgs false

attribute [local irreducible] Lb
end Go.Proofs.Ytaiillbjhdoikaa.Ev

/- Contracts of the reference: the difference. Printed by gen.py. -/
namespace Go.Proofs.Ytaiillbjhdoikaa.Ev
open Go Go.Proofs
set_option linter.unusedVariables false
set_option linter.unusedSimpArgs false

attribute [local irreducible] Lb
end Go.Proofs.Ytaiillbjhdoikaa.Ev

/- Contracts of the reference: the product. Printed by gen.py. -/
namespace Go.Proofs.Ytaiillbjhdoikaa.Ev
open Go Go.Proofs
set_option linter.unusedVariables false
set_option linter.unusedSimpArgs false

attribute [local irreducible] Lb
end Go.Proofs.Ytaiillbjhdoikaa.Ev

/- Contracts of the reference: how many bits, shifted, a bit, a bit more. Printed by gen.py. -/
namespace Go.Proofs.Ytaiillbjhdoikaa.Ev
open Go Go.Proofs
set_option linter.unusedVariables false
set_option linter.unusedSimpArgs false

attribute [local irreducible] Lb
end Go.Proofs.Ytaiillbjhdoikaa.Ev

/- Contracts of the reference: a bit, a bit more. Printed by gen.py. -/
namespace Go.Proofs.Ytaiillbjhdoikaa.Ev
open Go Go.Proofs
set_option linter.unusedVariables false
set_option linter.unusedSimpArgs false

attribute [local irreducible] Lb
end Go.Proofs.Ytaiillbjhdoikaa.Ev

/- Contracts of the reference: the quotient, bit by bit. Printed by gen.py. -/
namespace Go.Proofs.Ytaiillbjhdoikaa.Ev
open Go Go.Proofs
set_option linter.unusedVariables false
set_option linter.unusedSimpArgs false

attribute [local irreducible] Lb
end Go.Proofs.Ytaiillbjhdoikaa.Ev

/- Contracts of the reference: shifted down. Printed by gen.py. -/
namespace Go.Proofs.Ytaiillbjhdoikaa.Ev
open Go Go.Proofs
set_option linter.unusedVariables false
set_option linter.unusedSimpArgs false

attribute [local irreducible] Lb
end Go.Proofs.Ytaiillbjhdoikaa.Ev

/- Contracts of the reference: whole numbers. Printed by gen.py. -/
namespace Go.Proofs.Ytaiillbjhdoikaa.Ev
open Go Go.Proofs
set_option linter.unusedVariables false
set_option linter.unusedSimpArgs false

attribute [local irreducible] Lb
end Go.Proofs.Ytaiillbjhdoikaa.Ev

/- Contracts of the reference: numbers times powers of two. Printed by gen.py. -/
namespace Go.Proofs.Ytaiillbjhdoikaa.Ev
open Go Go.Proofs
set_option linter.unusedVariables false
set_option linter.unusedSimpArgs false

attribute [local irreducible] Lb
end Go.Proofs.Ytaiillbjhdoikaa.Ev

/- Contracts of the reference: numbers. Printed by gen.py out of R12.spec. -/
namespace Go.Proofs.Ytaiillbjhdoikaa.Ev
open Go Go.Proofs
set_option linter.unusedVariables false
set_option linter.unusedSimpArgs false
end Go.Proofs.Ytaiillbjhdoikaa.Ev

/- Contracts of the reference: limbs, a word, exact numbers. Printed by gen.py. -/
namespace Go.Proofs.Ytaiillbjhdoikaa.Ev
open Go Go.Proofs
set_option linter.unusedVariables false
set_option linter.unusedSimpArgs false

attribute [local irreducible] Lb
end Go.Proofs.Ytaiillbjhdoikaa.Ev

/- Contracts of the reference: exact numbers, and rounding. Printed by gen.py. -/
namespace Go.Proofs.Ytaiillbjhdoikaa.Ev
open Go Go.Proofs
set_option linter.unusedVariables false
set_option linter.unusedSimpArgs false

attribute [local irreducible] Lb
end Go.Proofs.Ytaiillbjhdoikaa.Ev

/- Contracts of dy.Make and num.Exact. Printed by gen.py. -/
namespace Go.Proofs.Ytaiillbjhdoikaa.Ev
open Go Go.Proofs
set_option linter.unusedVariables false
set_option linter.unusedSimpArgs false

attribute [local irreducible] Lb
end Go.Proofs.Ytaiillbjhdoikaa.Ev

/- Contracts of dy.May, fair, Move, Floor: of dyadic numbers as they may be. Printed by gen.py. -/
namespace Go.Proofs.Ytaiillbjhdoikaa.Ev
open Go Go.Proofs
set_option linter.unusedVariables false
set_option linter.unusedSimpArgs false

attribute [local irreducible] Lb
/-- a dyadic number, as it may be -/
def DyC (p : Bool × Nat × Int) : Prop := p = (false, 0, 0) ∨ (p.2.1 % 2 = 1 ∧ -4194304 ≤ p.2.2 ∧ p.2.2 ≤ 4194304)
end Go.Proofs.Ytaiillbjhdoikaa.Ev

/- Fixed numbers: what a number times 2^192, rounded down, is: plain Lean. -/
namespace Go.Proofs.Ytaiillbjhdoikaa.Ev
open Go
set_option linter.unusedVariables false
set_option linter.unusedSimpArgs false

end Go.Proofs.Ytaiillbjhdoikaa.Ev

/- Exact sums, differences and products of dyadic numbers, by their values: plain Lean. -/
namespace Go.Proofs.Ytaiillbjhdoikaa.Ev
open Go
set_option linter.unusedVariables false
set_option linter.unusedSimpArgs false

/-- a dyadic number of a value, its bits between two places -/
structure DyV (B : Nat) (p : Bool × Nat × Int) (t : Int) : Prop where
  odd : p = (false, 0, 0) ∨ p.2.1 % 2 = 1
  lo : -(B : Int) ≤ p.2.2
  hi : p.2.2 + blen (p.2.1 : Int) ≤ B
  val : dyv p = t

theorem DyV.c {B : Nat} {p : Bool × Nat × Int} {t : Int} (h : DyV B p t) (hB : B ≤ 4000000) : DyC p := by
  have lo := h.lo
  have hi := h.hi
  have b := blen_nonneg (p.2.1 : Int)
  rcases h.odd with k | k
  · exact .inl k
  · exact .inr ⟨k, by omega, by omega⟩
theorem lim_blen (k : Nat) : (lim k).length ≤ (blen (k : Int)).toNat / 32 + 1 := by
  refine lim_length_le ?_
  have a := blen_lt (n := k)
  have b : 2 ^ (blen (k : Int)).toNat ≤ 4294967296 ^ ((blen (k : Int)).toNat / 32 + 1) := by
    rw [show (4294967296 : Nat) = 2 ^ 32 by rfl, ← Nat.pow_mul]
    exact Nat.pow_le_pow_right (by decide) (by omega)
  omega
theorem DyV.len {B : Nat} {p : Bool × Nat × Int} {t : Int} (h : DyV B p t) (hB : B ≤ 4000000) : (dyL p).2.1.length ≤ 250001 := by
  have lo := h.lo
  have hi := h.hi
  have b := lim_blen p.2.1
  show (lim p.2.1).length ≤ _
  omega
theorem DyV.mono {A B : Nat} {p : Bool × Nat × Int} {t : Int} (h : DyV A p t) (hB : A ≤ B) : DyV B p t :=
  ⟨h.odd, by have := h.lo; omega, by have := h.hi; omega, h.val⟩
theorem DyV.of {p : Bool × Nat × Int} {t : Int} (h : Dy p t) : DyV 1048704 p t := by
  refine ⟨h.odd, by have := h.lo; omega, ?_, h.val⟩
  have hi := h.hi
  have lt := h.lt
  have := blen_le (x := (p.2.1 : Int)) 64 (by have : (p.2.1 : Int) < 18446744073709551616 := by omega
                                              exact this)
  show p.2.2 + blen (p.2.1 : Int) ≤ 1048704
  omega
theorem DyV.zero {B : Nat} {p : Bool × Nat × Int} {t : Int} (h : DyV B p t) (z : p.2.1 = 0) : t = 0 := by
  rcases h.odd with k | k
  · rw [← h.val, k]; simp [dyv]
  · rw [z] at k; cases k
end Go.Proofs.Ytaiillbjhdoikaa.Ev

/- Contracts: the terms of an inverse tangent. Printed by gen.py. -/
namespace Go.Proofs.Ytaiillbjhdoikaa.Ev
open Go Go.Proofs
set_option linter.unusedVariables false
set_option linter.unusedSimpArgs false

attribute [local irreducible] Lb whN piOne
end Go.Proofs.Ytaiillbjhdoikaa.Ev

/- A block behind a call, told otherwise. -/
namespace Go.Proofs.Ytaiillbjhdoikaa.Ev
open Go Go.RowKit
set_option linter.unusedVariables false
set_option linter.unusedSimpArgs false
variable {P : Program} {G : Nat → TI}

end Go.Proofs.Ytaiillbjhdoikaa.Ev

/- Contracts: the two fixed numbers for an inverse tangent. Printed by gen.py. -/
namespace Go.Proofs.Ytaiillbjhdoikaa.Ev
open Go Go.Proofs
set_option linter.unusedVariables false
set_option linter.unusedSimpArgs false

attribute [local irreducible] Lb whN piOne
end Go.Proofs.Ytaiillbjhdoikaa.Ev

/- Laws: the fixed numbers for inverse tangents, and pi. -/
namespace Go.Proofs.Ytaiillbjhdoikaa.Ev
open Go Go.Proofs
set_option linter.unusedVariables false
set_option linter.unusedSimpArgs false
attribute [local irreducible] Lb
end Go.Proofs.Ytaiillbjhdoikaa.Ev

/- The ratio of two whole numbers is the best number; a number lies between its fixed number and the next one: plain Lean. -/
namespace Go.Proofs.Ytaiillbjhdoikaa.Ev
open Go
set_option linter.unusedVariables false
set_option linter.unusedSimpArgs false

theorem ratioN_best {na nb : Bool} {a b : Nat} (up : Bool) (ha : 0 < a) (hb : 0 < b) (la : blen (a : Int) ≤ 1000000) (lb : blen (b : Int) ≤ 1000000) :
    Best (ratioN na a nb b up) up (if (na != nb) = true then -((a : Int) * pw 0) else (a : Int) * pw 0) b := by
  obtain ⟨i, h1, h2, h3⟩ := blen_rng ha
  obtain ⟨j, g1, g2, g3⟩ := blen_rng hb
  unfold ratioN
  rw [if_neg (by omega), if_neg (by omega)]
  obtain ⟨s0, hs0⟩ : ∃ s0 : Nat, (max 0 (65 + blen (b : Int) - blen (a : Int)) : Int) = s0 := ⟨(max 0 (65 + blen (b : Int) - blen (a : Int)) : Int).toNat, by omega⟩
  rw [hs0, Int.toNat_natCast]
  obtain ⟨N, hN⟩ : ∃ N, a * 2 ^ s0 = N := ⟨_, rfl⟩
  rw [hN]
  obtain ⟨q, hq⟩ : ∃ q, N / b = q := ⟨_, rfl⟩
  rw [hq]
  have qlo : 2 ^ 64 ≤ q := by
    rw [← hq, Nat.le_div_iff_mul_le hb, ← hN]
    have a1 : 2 ^ 64 * b ≤ 2 ^ 64 * 2 ^ (j + 1) := Nat.mul_le_mul_left _ (Nat.le_of_lt g3)
    have a2 : 2 ^ i * 2 ^ s0 ≤ a * 2 ^ s0 := Nat.mul_le_mul_right _ h2
    rw [← Nat.pow_add] at a1 a2
    have a3 : 2 ^ (64 + (j + 1)) ≤ 2 ^ (i + s0) := Nat.pow_le_pow_right (by decide) (by omega)
    omega
  have qhi : q < 2 ^ (i + 1 + s0) := by
    rw [← hq]
    refine Nat.lt_of_le_of_lt (Nat.div_le_self _ _) ?_
    rw [← hN, Nat.pow_add]
    exact Nat.mul_lt_mul_of_pos_right h3 (Nat.two_pow_pos _)
  obtain ⟨k, k1, k2, k3⟩ := blen_rng (k := q) (by omega)
  have kl : 64 ≤ k := by
    rcases Nat.lt_or_ge k 64 with h | h
    · exfalso
      have : (2 : Nat) ^ (k + 1) ≤ 2 ^ 64 := Nat.pow_le_pow_right (by decide) (by omega)
      omega
    · exact h
  have ku : k < i + 1 + s0 := by
    rcases Nat.lt_or_ge k (i + 1 + s0) with h | h
    · exact h
    · exfalso
      have : (2 : Nat) ^ (i + 1 + s0) ≤ 2 ^ k := Nat.pow_le_pow_right (by decide) h
      omega
  obtain ⟨s, hs⟩ : ∃ s : Nat, k = s + 63 := ⟨k - 63, by omega⟩
  unfold natu
  rw [if_neg (by omega)]
  dsimp only
  rw [show (blen (q : Int) - 64).toNat = s by omega, show blen (q : Int) - 64 = (s : Int) by omega]
  have p2 := Nat.two_pow_pos s
  have dd : q / 2 ^ s = N / (b * 2 ^ s) := by rw [← hq, Nat.div_div_eq_div_mul]
  have cut : (decide (q / 2 ^ s * 2 ^ s ≠ q) || decide (N % b ≠ 0)) = decide (N % (b * 2 ^ s) ≠ 0) := by
    have e1 := Nat.div_add_mod N b
    have e2 := Nat.div_add_mod q (2 ^ s)
    rw [hq] at e1
    have m : N % (b * 2 ^ s) = b * (q % 2 ^ s) + N % b := by rw [Nat.mod_mul, hq, Nat.add_comm]
    by_cases z1 : q % 2 ^ s = 0
    · by_cases z2 : N % b = 0
      · rw [decide_eq_false (by rw [Nat.mul_comm]; omega), decide_eq_false (by omega), decide_eq_false (by rw [m, z1, z2]; simp)]; rfl
      · rw [decide_eq_true z2, Bool.or_true, decide_eq_true (by rw [m]; omega)]
    · have : 0 < b * (q % 2 ^ s) := Nat.mul_pos hb (by omega)
      rw [decide_eq_true (by rw [Nat.mul_comm]; omega), Bool.true_or, decide_eq_true (by rw [m]; omega)]
  rw [cut, dd]
  have e1 := pw_add (e := -(s0 : Int)) (f := s) (by omega) (by omega)
  rw [Int.toNat_natCast] at e1
  have e0 := pw_add (e := -(s0 : Int)) (f := s0) (by omega) (by omega)
  rw [Int.toNat_natCast, show -(s0 : Int) + s0 = 0 by omega] at e0
  have pp := pw_pos (-(s0 : Int))
  have cb : ((b * 2 ^ s : Nat) : Int) = (b : Int) * 2 ^ s := by rw [Int.natCast_mul, Int.natCast_pow]; rfl
  have cN : (N : Int) * pw (-(s0 : Int)) = (a : Int) * pw 0 := by
    rw [← hN, e0, Int.natCast_mul, Int.natCast_pow, Int.mul_assoc, Int.mul_comm (pw (-(s0 : Int)))]; rfl
  have lo : 2 ^ 63 ≤ N / (b * 2 ^ s) := by
    rw [← dd, Nat.le_div_iff_mul_le p2, ← Nat.pow_add, Nat.add_comm, ← hs]; exact k2
  have hi : N / (b * 2 ^ s) < 2 ^ 64 := by
    rw [← dd, Nat.div_lt_iff_lt_mul p2, ← Nat.pow_add, show 64 + s = k + 1 by omega]; exact k3
  have G := grow_div (neg := (na != nb)) (up := up) (N := (N : Int)) (d := ((b * 2 ^ s : Nat) : Int)) (P := pw (-(s0 : Int))) (e := (s : Int) - s0) (c := (b : Int))
    (by rw [cb]; exact Int.mul_pos (by omega) (Int.pow_pos (by decide))) pp
    (by rw [show (s : Int) - s0 = -(s0 : Int) + s by omega, e1, cb, Int.mul_comm, Int.mul_assoc, Int.mul_comm (pw (-(s0 : Int)))]) (by omega)
    (by rw [← Int.natCast_ediv]; have : 9223372036854775808 ≤ N / (b * 2 ^ s) := lo; omega) (by rw [← Int.natCast_ediv]; have : N / (b * 2 ^ s) < 18446744073709551616 := hi; omega) (by omega) (by omega)
  rw [cN, ← Int.natCast_ediv, ← Int.natCast_emod] at G
  have c2 : (decide (((N % (b * 2 ^ s) : Nat) : Int) ≠ 0)) = decide (N % (b * 2 ^ s) ≠ 0) := decide_eq_decide.2 (by omega)
  rw [c2] at G
  exact G
end Go.Proofs.Ytaiillbjhdoikaa.Ev

/- The law of decimal numbers, rounded: plain Lean. -/
namespace Go.Proofs.Ytaiillbjhdoikaa.Ev
open Go
set_option linter.unusedVariables false
set_option linter.unusedSimpArgs false
attribute [local irreducible] pw

theorem neg_cases {z : Num} (m : z.may = true) (o : z.ok) (h : z.val < 0) : z = Num.inf true ∨ (z.Fin ∧ z.neg = true ∧ z.val = -(z.m * pw z.e)) := by
  rcases Num.may3 m o with k | k | k
  · rw [k, Num.val_zero] at h; omega
  · right
    have w := k.lt.1
    cases q : z.neg
    · unfold Num.val at h; rw [q, if_neg (by decide)] at h; omega
    · refine ⟨k, rfl, ?_⟩; unfold Num.val; rw [q, if_pos rfl, k.W]
  · left
    cases q : z.neg
    · rw [q] at k; rw [k, Num.val_inf, if_neg (by decide)] at h; have := pw_pos 1048640; omega
    · rw [q] at k; exact k
theorem fin_val_neg {m e : Int} (h1 : 9223372036854775808 ≤ m) (h2 : m < 18446744073709551616) (h3 : -1048576 ≤ e) (h4 : e ≤ 1048576) :
    (Num.mk 1 true m e).Fin ∧ (Num.mk 1 true m e).val = -(m * pw e) := by
  have f : (Num.mk 1 true m e).Fin := ⟨rfl, h1, h2, h3, h4⟩
  refine ⟨f, ?_⟩
  show (if true then _ else _) = _; rw [if_pos rfl, f.W]
theorem next_any {l : Num} (m : l.may = true) (o : l.ok) (k : l ≠ Num.inf false) :
    (Num.next l true).may = true ∧ (Num.next l true).ok ∧ l.val < (Num.next l true).val ∧ ∀ z : Num, z.may = true → z.ok → l.val < z.val → (Num.next l true).val ≤ z.val := by
  rcases Int.lt_or_le l.val 0 with h0 | h0
  · rcases neg_cases m o h0 with c | ⟨c, n, lv⟩
    · have e : Num.next l true = ⟨1, true, 18446744073709551615, 1048576⟩ := by rw [c]; decide
      obtain ⟨f, v⟩ := fin_val_neg (m := 18446744073709551615) (e := 1048576) (by decide) (by decide) (by decide) (by decide)
      have w := f.lt
      rw [f.W] at w
      rw [e, v, c, Num.val_inf, if_pos rfl]
      refine ⟨f.may, f.ok, by have : (18446744073709551615 : Int) * pw 1048576 < pw 1048640 := w.2; omega, fun z mz oz hz => ?_⟩
      rcases Int.lt_or_le z.val 0 with g | g
      · rcases neg_cases mz oz g with q | ⟨q, _, q2⟩
        · rw [q, Num.val_inf, if_pos rfl] at hz; omega
        · rw [q2]
          have a1 := Int.mul_le_mul_of_nonneg_right (show z.m ≤ 18446744073709551615 by have := q.hi; omega) (Int.le_of_lt (pw_pos z.e))
          have a2 := Int.mul_le_mul_of_nonneg_left (pw_mono (by have := q.elo; omega) q.ehi) (show (0 : Int) ≤ 18446744073709551615 by decide)
          omega
      · have := pw_pos 1048576; omega
    · have lo := c.lo
      have hi := c.hi
      have elo := c.elo
      have ehi := c.ehi
      have p := pw_pos l.e
      have e : Num.next l true = if l.m = 9223372036854775808 then Num.bound true 18446744073709551615 (IntKind.i64.wrap (l.e - 1)) false else ⟨1, true, IntKind.u64.wrap (l.m - 1), l.e⟩ := by
        unfold Num.next
        rw [Num.fair_of_may m, c.kind, n, if_neg (by decide), if_neg (by decide), if_neg (by decide)]
      by_cases hm : l.m = 9223372036854775808
      · have w1 : IntKind.i64.wrap (l.e - 1) = l.e - 1 := by rw [wi64]; omega
        rw [if_pos hm, w1] at e
        have pe : pw l.e = pw (l.e - 1) * 2 := by
          have := pw_succ (e := l.e - 1) (by omega)
          rwa [show l.e - 1 + 1 = l.e by omega] at this
        have p1 := pw_pos (l.e - 1)
        by_cases he : -1048576 ≤ l.e - 1
        · have e2 : Num.next l true = ⟨1, true, 18446744073709551615, l.e - 1⟩ := by
            rw [e]; unfold Num.bound; rw [if_neg (by omega), if_neg (by omega)]
          obtain ⟨f, v⟩ := fin_val_neg (m := 18446744073709551615) (e := l.e - 1) (by decide) (by decide) he (by omega)
          rw [e2, v, lv, hm, pe]
          refine ⟨f.may, f.ok, by omega, fun z mz oz hz => ?_⟩
          rcases Int.lt_or_le z.val 0 with g | g
          · rcases neg_cases mz oz g with q | ⟨q, _, q2⟩
            · rw [q, Num.val_inf, if_pos rfl] at hz
              have := c.lt.2; rw [c.W, hm, pe] at this; omega
            · rw [q2] at hz ⊢
              rcases Int.lt_or_le z.e l.e with b | b
              · have a1 := Int.mul_le_mul_of_nonneg_right (show z.m ≤ 18446744073709551615 by have := q.hi; omega) (Int.le_of_lt (pw_pos z.e))
                have a2 := Int.mul_le_mul_of_nonneg_left (pw_mono (e := z.e) (f := l.e - 1) (by have := q.elo; omega) (by omega)) (show (0 : Int) ≤ 18446744073709551615 by decide)
                omega
              · have a1 := Int.mul_le_mul_of_nonneg_right q.lo (Int.le_of_lt (pw_pos z.e))
                have a2 := Int.mul_le_mul_of_nonneg_left (pw_mono (e := l.e) (f := z.e) (by omega) b) (show (0 : Int) ≤ 9223372036854775808 by decide)
                omega
          · omega
        · have e2 : Num.next l true = Num.zero := by
            rw [e]; unfold Num.bound; rw [if_neg (by omega), if_pos (by omega), if_neg (by decide)]
          rw [e2, Num.val_zero]
          refine ⟨Num.zero_may, Num.zero_ok, h0, fun z mz oz hz => ?_⟩
          rcases Int.lt_or_le z.val 0 with g | g
          · exfalso
            rcases neg_cases mz oz g with q | ⟨q, _, q2⟩
            · rw [q, Num.val_inf, if_pos rfl, lv] at hz
              have := c.lt.2; rw [c.W] at this; omega
            · rw [q2, lv, hm] at hz
              have a1 := Int.mul_le_mul_of_nonneg_right q.lo (Int.le_of_lt (pw_pos z.e))
              have a2 := Int.mul_le_mul_of_nonneg_left (pw_mono (e := l.e) (f := z.e) (by omega) (by have := q.elo; omega)) (show (0 : Int) ≤ 9223372036854775808 by decide)
              omega
          · exact g
      · have w1 : IntKind.u64.wrap (l.m - 1) = l.m - 1 := by rw [wu64]; omega
        rw [if_neg hm, w1] at e
        obtain ⟨f, v⟩ := fin_val_neg (m := l.m - 1) (e := l.e) (by omega) (by omega) elo ehi
        rw [e, v, lv]
        refine ⟨f.may, f.ok, by have := Int.mul_lt_mul_of_pos_right (show l.m - 1 < l.m by omega) p; omega, fun z mz oz hz => ?_⟩
        rcases Int.lt_or_le z.val 0 with g | g
        · rcases neg_cases mz oz g with q | ⟨q, _, q2⟩
          · rw [q, Num.val_inf, if_pos rfl] at hz
            have := c.lt.2; rw [c.W] at this; omega
          · rw [q2] at hz ⊢
            rcases Int.lt_trichotomy z.e l.e with b | b | b
            · have := lex_lt (m := z.m) (m' := l.m - 1) (by omega) q.hi (by have := q.elo; omega) b
              omega
            · rw [b] at hz ⊢
              have := Int.lt_of_mul_lt_mul_right (show z.m * pw l.e < l.m * pw l.e by omega) (Int.le_of_lt p)
              have := Int.mul_le_mul_of_nonneg_right (show z.m ≤ l.m - 1 by omega) (Int.le_of_lt p)
              omega
            · have := lex_lt (m := l.m) (m' := z.m) q.lo hi (by omega) b
              omega
        · have := Int.mul_nonneg (show 0 ≤ l.m - 1 by omega) (Int.le_of_lt p); omega
  · refine next_up m o ?_ h0
    intro z
    have e := Num.inf_of m o z
    cases q : l.neg
    · rw [q] at e; exact k e
    · rw [q] at e; rw [e, Num.val_inf, if_pos rfl] at h0; have := pw_pos 1048640; omega
/-- the best to both sides: one, or neighbours -/
theorem best_next {l h : Num} {t c : Int} (L : Best l false t c) (H : Best h true t c) (hc : 0 < c) : l = h ∨ Num.next l true = h := by
  have lh := L.le H hc
  rcases Int.lt_or_eq_of_le lh with g | g
  · right
    obtain ⟨n1, n2, n3, n4⟩ := next_any L.may L.ok (L.down rfl).1
    have a := n4 h H.may H.ok g
    have b : h.val ≤ (Num.next l true).val := by
      by_cases i : Num.next l true = Num.inf false
      · rw [i, Num.val_inf, if_neg (by decide)]; exact (Num.val_le H.may H.ok).2
      · rcases Int.le_total ((Num.next l true).val * c) t with q | q
        · have := L.dopt rfl _ n1 n2 i q; omega
        · refine H.uopt rfl _ n1 n2 ?_ q
          intro z
          rw [z, Num.val_inf, if_pos rfl] at n3
          have := (Num.val_le L.may L.ok).1
          omega
    exact Num.val_inj n1 H.may n2 H.ok (Int.le_antisymm a b)
  · exact .inl (Num.val_inj L.may H.may L.ok H.ok g)
/-- the exact value of a decimal number: t / c, scaled -/
def decT (neg : Bool) (m : List Int) (tens : Int) : Int := wv neg m * (10 ^ tens.toNat : Nat) * pw 0
def decC (tens : Int) : Int := (10 ^ (-tens).toNat : Nat)
theorem decC_pos (tens : Int) : 0 < decC tens := by unfold decC; exact Int.natCast_pos.2 (Nat.pow_pos (by decide))
theorem from_best {neg : Bool} {m : List Int} {tens : Int} (h : Lb m) (k : decMayB neg m tens = true) (up : Bool) : Best (fromN neg m tens up) up (decT neg m tens) (decC tens) := by
  obtain ⟨k1, k2, k3, k4, k5, k6⟩ := decMay_ok h k
  unfold fromN
  rw [if_pos k]
  by_cases z : lv m = 0
  · obtain ⟨e1, e2⟩ := k5 z
    have r : ratioN neg (lv m * 10 ^ tens.toNat) false (10 ^ (-tens).toNat) up = Num.zero := by
      unfold ratioN; rw [if_neg (by have := Nat.pow_pos (n := (-tens).toNat) (show 0 < 10 by decide); omega), z, Nat.zero_mul, if_pos rfl]
    rw [r]
    refine Best.self Num.zero_may Num.zero_ok (by decide) (decC_pos _) ?_
    rw [Num.val_zero]; unfold decT wv; rw [e1, z]; simp
  · have p1 : 0 < lv m * 10 ^ tens.toNat := Nat.mul_pos (by omega) (Nat.pow_pos (by decide))
    have bl : blen ((lv m * 10 ^ tens.toNat : Nat) : Int) ≤ 1000000 := by
      have a1 := lv_lt h
      have a2 := lv_lt (lim_lb (10 ^ tens.toNat))
      have a4 := ten_len (k := tens.toNat) (by omega)
      rw [lv_lim] at a2
      have a3 : lv m * 10 ^ tens.toNat < 4294967296 ^ (m.length + (lim (10 ^ tens.toNat)).length) := by
        rw [Nat.pow_add]
        exact Nat.mul_lt_mul_of_lt_of_le' a1 (Nat.le_of_lt a2) (Nat.pow_pos (by decide))
      have a5 := lim_length_le a3
      have a6 := blen_le_len (lim_lb (lv m * 10 ^ tens.toNat))
      rw [lv_lim] at a6
      omega
    have bc : blen ((10 ^ (-tens).toNat : Nat) : Int) ≤ 1000000 := by
      have a4 := ten_len (k := (-tens).toNat) (by omega)
      have a6 := blen_le_len (lim_lb (10 ^ (-tens).toNat))
      rw [lv_lim] at a6
      omega
    have B := ratioN_best (na := neg) (nb := false) up p1 (Nat.pow_pos (n := (-tens).toNat) (show 0 < 10 by decide)) bl bc
    have e : (if (neg != false) = true then -(((lv m * 10 ^ tens.toNat : Nat) : Int) * pw 0) else ((lv m * 10 ^ tens.toNat : Nat) : Int) * pw 0) = decT neg m tens := by
      unfold decT wv
      cases neg
      · simp only [bne_self_eq_false, Bool.false_eq_true, if_false, Int.natCast_mul]
      · simp only [Bool.bne_false, if_true, Int.natCast_mul, Int.neg_mul]
    rw [e] at B
    exact B
theorem dec_may_neg {neg : Bool} {m : List Int} {tens : Int} (k : decMayB neg m tens = true) : decMayB (decide (0 < m.length) && !neg) m tens = true := by
  unfold decMayB at k ⊢
  by_cases h : m.length = 0
  · rw [if_pos h] at k ⊢
    rw [decide_eq_false (by omega), Bool.false_and]
    simp only [Bool.and_eq_true] at k ⊢
    exact ⟨rfl, k.2⟩
  · rw [if_neg h] at k ⊢
    have e : ∀ n : Bool, (decMake n (lv m) tens).2 = (decMake neg (lv m) tens).2 ∧ (decMake n (lv m) tens).1.2.2 = (decMake neg (lv m) tens).1.2.2 := by
      intro n; unfold decMake
      split
      · exact ⟨rfl, rfl⟩
      · split
        · exact ⟨rfl, rfl⟩
        · split <;> exact ⟨rfl, rfl⟩
    have w : ∀ n : Bool, wMayB n m = wMayB neg m := by intro n; unfold wMayB; rw [if_neg h, if_neg h]
    rw [w, (e _).1, (e _).2]; exact k
/-- what the law of decimal numbers asks -/
structure DecLaw (l h o : Num) : Prop where
  le : l.cmp h ≤ 0
  nb : l = h ∨ Num.next l true = h
  op : o.opp = l
theorem dec_law {neg : Bool} {m : List Int} {tens : Int} (h : Lb m) (k : decMayB neg m tens = true) :
    DecLaw (fromN neg m tens false) (fromN neg m tens true) (fromN (decide (0 < m.length) && !neg) m tens true) := by
  have L := from_best h k false
  have H := from_best h k true
  have O := (from_best h (dec_may_neg k) true).opp
  have c := decC_pos tens
  refine ⟨?_, best_next L H c, ?_⟩
  · rw [Num.cmp_le L.ok H.ok, Num.fair_of_may L.may, Num.fair_of_may H.may]
    exact L.le H c
  · refine O.uniq L c c ?_
    congr 1
    unfold decT wv
    by_cases z : m.length = 0
    · have e : m = [] := List.length_eq_zero_iff.1 z
      subst e
      have : lv ([] : List Int) = 0 := rfl
      rw [this]; simp
    · rw [decide_eq_true (by omega), Bool.true_and]
      cases neg <;> simp [Int.neg_mul]
theorem dec_split {a b : Int} (K : Nat) {x y : Nat} (hx : x = a.toNat + K) (hy : y = b.toNat + K) {v w : Int} (h : v * (10 ^ a.toNat : Nat) ≤ w * (10 ^ b.toNat : Nat)) : v * (10 ^ x : Nat) ≤ w * (10 ^ y : Nat) := by
  rw [hx, hy, Nat.pow_add, Nat.pow_add, Int.natCast_mul, Int.natCast_mul, ← Int.mul_assoc, ← Int.mul_assoc]
  exact Int.mul_le_mul_of_nonneg_right h (Int.natCast_nonneg _)
theorem dec_mono {na nb : Bool} {a b : List Int} {ta tb : Int} (ha : Lb a) (hb : Lb b) (ka : decMayB na a ta = true) (kb : decMayB nb b tb = true)
    (h : wv na a * (10 ^ (ta - min ta tb).toNat : Nat) ≤ wv nb b * (10 ^ (tb - min ta tb).toNat : Nat)) (up : Bool) : (fromN na a ta up).cmp (fromN nb b tb up) ≤ 0 := by
  have A := from_best ha ka up
  have B := from_best hb kb up
  rw [Num.cmp_le A.ok B.ok, Num.fair_of_may A.may, Num.fair_of_may B.may]
  refine A.mono B (decC_pos _) (decC_pos _) ?_
  have q := dec_split ((-ta).toNat + (-tb).toNat + (min ta tb)).toNat (x := ta.toNat + (-tb).toNat) (y := tb.toNat + (-ta).toNat) (by omega) (by omega) h
  rw [Nat.pow_add, Nat.pow_add, Int.natCast_mul, Int.natCast_mul] at q
  unfold decT decC
  have z := Int.le_of_lt (pw_pos 0)
  have r := Int.mul_le_mul_of_nonneg_right q z
  have e1 : ∀ v x y p : Int, v * (x * y) * p = v * x * p * y := by intro v x y p; rw [← Int.mul_assoc, Int.mul_right_comm]
  rw [e1, e1] at r
  exact r
end Go.Proofs.Ytaiillbjhdoikaa.Ev

/- Contract of the law QuotDecimals. Printed by gen.py. -/
namespace Go.Proofs.Ytaiillbjhdoikaa.Ev
open Go Go.Proofs
set_option linter.unusedVariables false
set_option linter.unusedSimpArgs false

attribute [local irreducible] Lb
set_option maxHeartbeats 4000000 in
theorem c_QuotDecimals (na : Bool) (a : List Int) (ta : Int) (nb : Bool) (b : List Int) (tb : Int) (ha : Lb a) (hb : Lb b) (la : a.length < 9223372036854775808) (lb : b.length < 9223372036854775808)
    (t1 : -9223372036854775808 ≤ ta) (t2 : ta < 9223372036854775808) (t3 : -9223372036854775808 ≤ tb) (t4 : tb < 9223372036854775808) :
    ∃ t : Bool, t = true ∧ CallsA Try.prog 10 [.agg [.bool (.s na), .sli .u32 a, .int .i64 (.s ta)], .agg [.bool (.s nb), .sli .u32 b, .int .i64 (.s tb)]] (.bool (.s t)) := by
  refine ⟨_, rfl, ?_⟩
  have law := dec_law (neg := na) (tens := ta) ha
  have mono := fun up ka kb h => dec_mono (na := na) (nb := nb) (ta := ta) (tb := tb) ha hb ka kb h up
  have fo := fun up (k : decMayB na a ta = true) => (from_best ha k up).ok
  have go := fun up (k : decMayB nb b tb = true) => (from_best hb k up).ok
  refine callsA_of hG hm Try.func10 (by kernel_rfl) ?_
  intro E hE lp hl'
  cbv
  (first | (apply E_pcallX hE (c_awake07); (case hm => rfl); (case hle => (repeat' (first | exact u_nil | apply u_cons | apply u2_agg | exact u2_int | exact u1_int | exact u2_bool | exact u1_bool | exact u2_sli | exact u1_sli | exact u2_s0 | exact u1_s0))); all_goals (first | (intro up hup; cbv) | (assumption))) | (apply E_callX hE (c_awake07); (case hf => rfl); (case hc => (cbv <;> trivial)); (case hle => (repeat' (first | exact u_nil | apply u_cons | apply u2_agg | exact u2_int | exact u1_int | exact u2_bool | exact u1_bool | exact u2_sli | exact u1_sli | exact u2_s0 | exact u1_s0))); all_goals (first | (intro up hup; cbv) | (assumption))))
  have b0 : E.bnot up = false := by subst hE; rw [hup]; rfl
  refine E_br_f hE b0 ?_; cbv
  have la : ∀ u : Int, E.cmp .gtr (E.len a) 10 = false → a.length < 33554432 := by intro u h; subst hE; have : ¬ (a.length : Int) > 10 := of_decide_eq_false h; omega
  have lb : ∀ u : Int, E.cmp .gtr (E.len b) 10 = false → b.length < 33554432 := by intro u h; subst hE; have : ¬ (b.length : Int) > 10 := of_decide_eq_false h; omega
  have ff : ∀ t : Bool, E.bnot t = false → t = true := by intro t h; subst hE; cases t; exact absurd h (by decide); rfl
  have fg : ∀ u v : Int, E.cmp .gtr u v = false → ¬ u > v := by intro u v h; subst hE; exact of_decide_eq_false h
  refine E_br hE (fun g1 => ?_) (fun g1 => ?_) <;> cbv
  · exact hup
  refine E_br hE (fun g2 => ?_) (fun g2 => ?_) <;> cbv
  · exact hup
  have la := la 0 g1
  have lb := lb 0 g2
  (first | (apply E_pcallX hE (c_decMay na a ta ha la t1 t2); (case hm => rfl); (case hle => (repeat' (first | exact u_nil | apply u_cons | apply u2_agg | exact u2_int | exact u1_int | exact u2_bool | exact u1_bool | exact u2_sli | exact u1_sli | exact u2_s0 | exact u1_s0))); all_goals (first | (intro m1 hm1; cbv) | (assumption))) | (apply E_callX hE (c_decMay na a ta ha la t1 t2); (case hf => rfl); (case hc => (cbv <;> trivial)); (case hle => (repeat' (first | exact u_nil | apply u_cons | apply u2_agg | exact u2_int | exact u1_int | exact u2_bool | exact u1_bool | exact u2_sli | exact u1_sli | exact u2_s0 | exact u1_s0))); all_goals (first | (intro m1 hm1; cbv) | (assumption))))
  refine E_br hE (fun g3 => ?_) (fun g3 => ?_) <;> cbv
  (first | (apply E_pcallX hE (c_decMay nb b tb hb lb t3 t4); (case hm => rfl); (case hle => (repeat' (first | exact u_nil | apply u_cons | apply u2_agg | exact u2_int | exact u1_int | exact u2_bool | exact u1_bool | exact u2_sli | exact u1_sli | exact u2_s0 | exact u1_s0))); all_goals (first | (intro m2 hm2; cbv) | (assumption))) | (apply E_callX hE (c_decMay nb b tb hb lb t3 t4); (case hf => rfl); (case hc => (cbv <;> trivial)); (case hle => (repeat' (first | exact u_nil | apply u_cons | apply u2_agg | exact u2_int | exact u1_int | exact u2_bool | exact u1_bool | exact u2_sli | exact u1_sli | exact u2_s0 | exact u1_s0))); all_goals (first | (intro m2 hm2; cbv) | (assumption))))
  refine E_br hE (fun g4 => ?_) (fun g4 => ?_) <;> cbv
  have ka := hm1.symm.trans (ff _ g3)
  have kb := hm2.symm.trans (ff _ g4)
  (first | (apply E_pcallX hE (c_quFrom na a ta false ha la t1 t2); (case hm => rfl); (case hle => (repeat' (first | exact u_nil | apply u_cons | apply u2_agg | exact u2_int | exact u1_int | exact u2_bool | exact u1_bool | exact u2_sli | exact u1_sli | exact u2_s0 | exact u1_s0))); all_goals (first | (intro l hl; cbv) | (assumption))) | (apply E_callX hE (c_quFrom na a ta false ha la t1 t2); (case hf => rfl); (case hc => (cbv <;> trivial)); (case hle => (repeat' (first | exact u_nil | apply u_cons | apply u2_agg | exact u2_int | exact u1_int | exact u2_bool | exact u1_bool | exact u2_sli | exact u1_sli | exact u2_s0 | exact u1_s0))); all_goals (first | (intro l hl; cbv) | (assumption))))
  (first | (apply E_pcallX hE (c_quFrom na a ta true ha la t1 t2); (case hm => rfl); (case hle => (repeat' (first | exact u_nil | apply u_cons | apply u2_agg | exact u2_int | exact u1_int | exact u2_bool | exact u1_bool | exact u2_sli | exact u1_sli | exact u2_s0 | exact u1_s0))); all_goals (first | (intro h hh; cbv) | (assumption))) | (apply E_callX hE (c_quFrom na a ta true ha la t1 t2); (case hf => rfl); (case hc => (cbv <;> trivial)); (case hle => (repeat' (first | exact u_nil | apply u_cons | apply u2_agg | exact u2_int | exact u1_int | exact u2_bool | exact u1_bool | exact u2_sli | exact u1_sli | exact u2_s0 | exact u1_s0))); all_goals (first | (intro h hh; cbv) | (assumption))))
  (first | (apply E_pcallX hE (c_decCmp na a ta nb b tb ha hb la lb ka kb); (case hm => rfl); (case hle => (repeat' (first | exact u_nil | apply u_cons | apply u2_agg | exact u2_int | exact u1_int | exact u2_bool | exact u1_bool | exact u2_sli | exact u1_sli | exact u2_s0 | exact u1_s0))); all_goals (first | (intro c hc; cbv) | (assumption))) | (apply E_callX hE (c_decCmp na a ta nb b tb ha hb la lb ka kb); (case hf => rfl); (case hc => (cbv <;> trivial)); (case hle => (repeat' (first | exact u_nil | apply u_cons | apply u2_agg | exact u2_int | exact u1_int | exact u2_bool | exact u1_bool | exact u2_sli | exact u1_sli | exact u2_s0 | exact u1_s0))); all_goals (first | (intro c hc; cbv) | (assumption))))
  refine E_nm hE (fun c' hc' => ?_); cbv
  have hc' : c' = c := hc'
  have L := law ka
  have hl : l = fromN na a ta false := hl
  have hh : h = fromN na a ta true := hh
  have ol := fo false ka
  have oh := fo true ka
  rw [← hl] at ol
  rw [← hh] at oh
  have z0 : E.cmp .gtr (E.len a) 0 = decide (0 < a.length) := by subst hE; show decide ((a.length : Int) > 0) = _; by_cases z : 0 < a.length; rw [decide_eq_true (by omega), decide_eq_true z]; rw [decide_eq_false (by omega), decide_eq_false z]
  have fne : ∀ t : Bool, t = true → E.bnot t = false := by intro t h; subst hE; rw [h]; rfl
  have mono' : ¬ c' > 0 → ∀ up, (fromN na a ta up).cmp (fromN nb b tb up) ≤ 0 := by
    intro h up
    refine mono up ka kb ?_
    obtain ⟨X, hX⟩ : ∃ X, wv na a * (10 ^ (ta - min ta tb).toNat : Nat) = X := ⟨_, rfl⟩
    obtain ⟨Y, hY⟩ : ∃ Y, wv nb b * (10 ^ (tb - min ta tb).toNat : Nat) = Y := ⟨_, rfl⟩
    have j := hc X Y hX.symm hY.symm
    rw [hX, hY]
    rw [hc', j] at h
    by_cases z : X ≤ Y
    · exact z
    · rw [if_neg (by omega), if_pos (by omega)] at h; exact absurd (by decide) h
  clear mono
  refine E_br hE (fun g5 => ?_) (fun g5 => ?_) <;> cbv
  · have en : (E.bnot na) = (decide (0 < a.length) && !na) := (by rw [← z0, g5]; subst hE; rfl)
    rw [← en] at L
    have oo := (from_best (neg := (E.bnot na)) (tens := ta) ha (by rw [en]; exact dec_may_neg ka) true).ok
    (first | (apply E_pcallX hE (c_Cmp ⟨_, _, _, _⟩ ⟨_, _, _, _⟩); (case hm => rfl); (case hle => (repeat' (first | exact u_nil | apply u_cons | apply u2_agg | exact u2_int | exact u1_int | exact u2_bool | exact u1_bool | exact u2_sli | exact u1_sli | exact u2_s0 | exact u1_s0))); all_goals (first | (intro k1 hk1; cbv) | (assumption))) | (apply E_callX hE (c_Cmp ⟨_, _, _, _⟩ ⟨_, _, _, _⟩); (case hf => rfl); (case hc => (cbv <;> trivial)); (case hle => (repeat' (first | exact u_nil | apply u_cons | apply u2_agg | exact u2_int | exact u1_int | exact u2_bool | exact u1_bool | exact u2_sli | exact u1_sli | exact u2_s0 | exact u1_s0))); all_goals (first | (intro k1 hk1; cbv) | (assumption))))
    have hk1 : k1 ≤ 0 := by have j : k1 = l.cmp h := hk1; rw [j, hl, hh]; exact L.le
    have j1 : E.cmp .gtr k1 0 = false := by subst hE; exact decide_eq_false (by omega)
    refine E_br_f hE j1 ?_; cbv
    have nb := L.nb
    rw [← hl, ← hh] at nb
    rcases nb with e | e
    · refine E_br_f hE (fne _ (num_eq_t hE l h e)) ?_; cbv
      (first | (apply E_pcallX hE (c_quFrom (E.bnot na) a ta true ha la t1 t2); (case hm => rfl); (case hle => (repeat' (first | exact u_nil | apply u_cons | apply u2_agg | exact u2_int | exact u1_int | exact u2_bool | exact u1_bool | exact u2_sli | exact u1_sli | exact u2_s0 | exact u1_s0))); all_goals (first | (intro o ho; cbv) | (assumption))) | (apply E_callX hE (c_quFrom (E.bnot na) a ta true ha la t1 t2); (case hf => rfl); (case hc => (cbv <;> trivial)); (case hle => (repeat' (first | exact u_nil | apply u_cons | apply u2_agg | exact u2_int | exact u1_int | exact u2_bool | exact u1_bool | exact u2_sli | exact u1_sli | exact u2_s0 | exact u1_s0))); all_goals (first | (intro o ho; cbv) | (assumption))))
      have ho : o = fromN (E.bnot na) a ta true := ho
      (first | (apply E_pcallX hE (c_Neg ⟨_, _, _, _⟩); (case hm => rfl); (case hle => (repeat' (first | exact u_nil | apply u_cons | apply u2_agg | exact u2_int | exact u1_int | exact u2_bool | exact u1_bool | exact u2_sli | exact u1_sli | exact u2_s0 | exact u1_s0))); all_goals (first | (intro q hq; cbv) | (assumption))) | (apply E_callX hE (c_Neg ⟨_, _, _, _⟩); (case hf => rfl); (case hc => (cbv <;> trivial)); (case hle => (repeat' (first | exact u_nil | apply u_cons | apply u2_agg | exact u2_int | exact u1_int | exact u2_bool | exact u1_bool | exact u2_sli | exact u1_sli | exact u2_s0 | exact u1_s0))); all_goals (first | (intro q hq; cbv) | (assumption))))
      have eq : q = l := by have j : q = o.opp := hq; rw [j, ho, hl]; exact L.op
      refine E_br_f hE (fne _ (num_eq_t hE q l eq)) ?_; cbv
      refine E_br hE (fun g7 => ?_) (fun g7 => ?_) <;> cbv
      have MM := mono' (fg _ _ g7)
      (first | (apply E_pcallX hE (c_quFrom nb b tb false hb lb t3 t4); (case hm => rfl); (case hle => (repeat' (first | exact u_nil | apply u_cons | apply u2_agg | exact u2_int | exact u1_int | exact u2_bool | exact u1_bool | exact u2_sli | exact u1_sli | exact u2_s0 | exact u1_s0))); all_goals (first | (intro u hu; cbv) | (assumption))) | (apply E_callX hE (c_quFrom nb b tb false hb lb t3 t4); (case hf => rfl); (case hc => (cbv <;> trivial)); (case hle => (repeat' (first | exact u_nil | apply u_cons | apply u2_agg | exact u2_int | exact u1_int | exact u2_bool | exact u1_bool | exact u2_sli | exact u1_sli | exact u2_s0 | exact u1_s0))); all_goals (first | (intro u hu; cbv) | (assumption))))
      (first | (apply E_pcallX hE (c_Cmp ⟨_, _, _, _⟩ ⟨_, _, _, _⟩); (case hm => rfl); (case hle => (repeat' (first | exact u_nil | apply u_cons | apply u2_agg | exact u2_int | exact u1_int | exact u2_bool | exact u1_bool | exact u2_sli | exact u1_sli | exact u2_s0 | exact u1_s0))); all_goals (first | (intro k2 hk2; cbv) | (assumption))) | (apply E_callX hE (c_Cmp ⟨_, _, _, _⟩ ⟨_, _, _, _⟩); (case hf => rfl); (case hc => (cbv <;> trivial)); (case hle => (repeat' (first | exact u_nil | apply u_cons | apply u2_agg | exact u2_int | exact u1_int | exact u2_bool | exact u1_bool | exact u2_sli | exact u1_sli | exact u2_s0 | exact u1_s0))); all_goals (first | (intro k2 hk2; cbv) | (assumption))))
      have k2t : E.cmp .leq k2 0 = true := by have j : k2 = l.cmp u := hk2; have j2 : u = fromN nb b tb false := hu; have : k2 ≤ 0 := by rw [j, j2, hl]; exact MM false
                                              subst hE; exact decide_eq_true this
      refine E_br_t hE k2t ?_; cbv
      (first | (apply E_pcallX hE (c_quFrom nb b tb true hb lb t3 t4); (case hm => rfl); (case hle => (repeat' (first | exact u_nil | apply u_cons | apply u2_agg | exact u2_int | exact u1_int | exact u2_bool | exact u1_bool | exact u2_sli | exact u1_sli | exact u2_s0 | exact u1_s0))); all_goals (first | (intro w hw; cbv) | (assumption))) | (apply E_callX hE (c_quFrom nb b tb true hb lb t3 t4); (case hf => rfl); (case hc => (cbv <;> trivial)); (case hle => (repeat' (first | exact u_nil | apply u_cons | apply u2_agg | exact u2_int | exact u1_int | exact u2_bool | exact u1_bool | exact u2_sli | exact u1_sli | exact u2_s0 | exact u1_s0))); all_goals (first | (intro w hw; cbv) | (assumption))))
      (first | (apply E_pcallX hE (c_Cmp ⟨_, _, _, _⟩ ⟨_, _, _, _⟩); (case hm => rfl); (case hle => (repeat' (first | exact u_nil | apply u_cons | apply u2_agg | exact u2_int | exact u1_int | exact u2_bool | exact u1_bool | exact u2_sli | exact u1_sli | exact u2_s0 | exact u1_s0))); all_goals (first | (intro k3 hk3; cbv) | (assumption))) | (apply E_callX hE (c_Cmp ⟨_, _, _, _⟩ ⟨_, _, _, _⟩); (case hf => rfl); (case hc => (cbv <;> trivial)); (case hle => (repeat' (first | exact u_nil | apply u_cons | apply u2_agg | exact u2_int | exact u1_int | exact u2_bool | exact u1_bool | exact u2_sli | exact u1_sli | exact u2_s0 | exact u1_s0))); all_goals (first | (intro k3 hk3; cbv) | (assumption))))
      have j : k3 = h.cmp w := hk3
      have j2 : w = fromN nb b tb true := hw
      have j3 : k3 ≤ 0 := by rw [j, j2, hh]; exact MM true
      subst hE; exact decide_eq_true j3
    · refine E_br hE (fun g6 => ?_) (fun g6 => ?_) <;> cbv
      · (first | (apply E_pcallX hE (c_Next ⟨_, _, _, _⟩ true); (case hm => rfl); (case hle => (repeat' (first | exact u_nil | apply u_cons | apply u2_agg | exact u2_int | exact u1_int | exact u2_bool | exact u1_bool | exact u2_sli | exact u1_sli | exact u2_s0 | exact u1_s0))); all_goals (first | (intro nx hnx; cbv) | (assumption))) | (apply E_callX hE (c_Next ⟨_, _, _, _⟩ true); (case hf => rfl); (case hc => (cbv <;> trivial)); (case hle => (repeat' (first | exact u_nil | apply u_cons | apply u2_agg | exact u2_int | exact u1_int | exact u2_bool | exact u1_bool | exact u2_sli | exact u1_sli | exact u2_s0 | exact u1_s0))); all_goals (first | (intro nx hnx; cbv) | (assumption))))
        have e6 : nx = h := by have j : nx = Num.next l true := hnx; rw [j, e]
        refine E_br_f hE (fne _ (num_eq_t hE nx h e6)) ?_; cbv
        (first | (apply E_pcallX hE (c_quFrom (E.bnot na) a ta true ha la t1 t2); (case hm => rfl); (case hle => (repeat' (first | exact u_nil | apply u_cons | apply u2_agg | exact u2_int | exact u1_int | exact u2_bool | exact u1_bool | exact u2_sli | exact u1_sli | exact u2_s0 | exact u1_s0))); all_goals (first | (intro o ho; cbv) | (assumption))) | (apply E_callX hE (c_quFrom (E.bnot na) a ta true ha la t1 t2); (case hf => rfl); (case hc => (cbv <;> trivial)); (case hle => (repeat' (first | exact u_nil | apply u_cons | apply u2_agg | exact u2_int | exact u1_int | exact u2_bool | exact u1_bool | exact u2_sli | exact u1_sli | exact u2_s0 | exact u1_s0))); all_goals (first | (intro o ho; cbv) | (assumption))))
        have ho : o = fromN (E.bnot na) a ta true := ho
        (first | (apply E_pcallX hE (c_Neg ⟨_, _, _, _⟩); (case hm => rfl); (case hle => (repeat' (first | exact u_nil | apply u_cons | apply u2_agg | exact u2_int | exact u1_int | exact u2_bool | exact u1_bool | exact u2_sli | exact u1_sli | exact u2_s0 | exact u1_s0))); all_goals (first | (intro q hq; cbv) | (assumption))) | (apply E_callX hE (c_Neg ⟨_, _, _, _⟩); (case hf => rfl); (case hc => (cbv <;> trivial)); (case hle => (repeat' (first | exact u_nil | apply u_cons | apply u2_agg | exact u2_int | exact u1_int | exact u2_bool | exact u1_bool | exact u2_sli | exact u1_sli | exact u2_s0 | exact u1_s0))); all_goals (first | (intro q hq; cbv) | (assumption))))
        have eq : q = l := by have j : q = o.opp := hq; rw [j, ho, hl]; exact L.op
        refine E_br_f hE (fne _ (num_eq_t hE q l eq)) ?_; cbv
        refine E_br hE (fun g7 => ?_) (fun g7 => ?_) <;> cbv
        have MM := mono' (fg _ _ g7)
        (first | (apply E_pcallX hE (c_quFrom nb b tb false hb lb t3 t4); (case hm => rfl); (case hle => (repeat' (first | exact u_nil | apply u_cons | apply u2_agg | exact u2_int | exact u1_int | exact u2_bool | exact u1_bool | exact u2_sli | exact u1_sli | exact u2_s0 | exact u1_s0))); all_goals (first | (intro u hu; cbv) | (assumption))) | (apply E_callX hE (c_quFrom nb b tb false hb lb t3 t4); (case hf => rfl); (case hc => (cbv <;> trivial)); (case hle => (repeat' (first | exact u_nil | apply u_cons | apply u2_agg | exact u2_int | exact u1_int | exact u2_bool | exact u1_bool | exact u2_sli | exact u1_sli | exact u2_s0 | exact u1_s0))); all_goals (first | (intro u hu; cbv) | (assumption))))
        (first | (apply E_pcallX hE (c_Cmp ⟨_, _, _, _⟩ ⟨_, _, _, _⟩); (case hm => rfl); (case hle => (repeat' (first | exact u_nil | apply u_cons | apply u2_agg | exact u2_int | exact u1_int | exact u2_bool | exact u1_bool | exact u2_sli | exact u1_sli | exact u2_s0 | exact u1_s0))); all_goals (first | (intro k2 hk2; cbv) | (assumption))) | (apply E_callX hE (c_Cmp ⟨_, _, _, _⟩ ⟨_, _, _, _⟩); (case hf => rfl); (case hc => (cbv <;> trivial)); (case hle => (repeat' (first | exact u_nil | apply u_cons | apply u2_agg | exact u2_int | exact u1_int | exact u2_bool | exact u1_bool | exact u2_sli | exact u1_sli | exact u2_s0 | exact u1_s0))); all_goals (first | (intro k2 hk2; cbv) | (assumption))))
        have k2t : E.cmp .leq k2 0 = true := by have j : k2 = l.cmp u := hk2; have j2 : u = fromN nb b tb false := hu; have : k2 ≤ 0 := by rw [j, j2, hl]; exact MM false
                                                subst hE; exact decide_eq_true this
        refine E_br_t hE k2t ?_; cbv
        (first | (apply E_pcallX hE (c_quFrom nb b tb true hb lb t3 t4); (case hm => rfl); (case hle => (repeat' (first | exact u_nil | apply u_cons | apply u2_agg | exact u2_int | exact u1_int | exact u2_bool | exact u1_bool | exact u2_sli | exact u1_sli | exact u2_s0 | exact u1_s0))); all_goals (first | (intro w hw; cbv) | (assumption))) | (apply E_callX hE (c_quFrom nb b tb true hb lb t3 t4); (case hf => rfl); (case hc => (cbv <;> trivial)); (case hle => (repeat' (first | exact u_nil | apply u_cons | apply u2_agg | exact u2_int | exact u1_int | exact u2_bool | exact u1_bool | exact u2_sli | exact u1_sli | exact u2_s0 | exact u1_s0))); all_goals (first | (intro w hw; cbv) | (assumption))))
        (first | (apply E_pcallX hE (c_Cmp ⟨_, _, _, _⟩ ⟨_, _, _, _⟩); (case hm => rfl); (case hle => (repeat' (first | exact u_nil | apply u_cons | apply u2_agg | exact u2_int | exact u1_int | exact u2_bool | exact u1_bool | exact u2_sli | exact u1_sli | exact u2_s0 | exact u1_s0))); all_goals (first | (intro k3 hk3; cbv) | (assumption))) | (apply E_callX hE (c_Cmp ⟨_, _, _, _⟩ ⟨_, _, _, _⟩); (case hf => rfl); (case hc => (cbv <;> trivial)); (case hle => (repeat' (first | exact u_nil | apply u_cons | apply u2_agg | exact u2_int | exact u1_int | exact u2_bool | exact u1_bool | exact u2_sli | exact u1_sli | exact u2_s0 | exact u1_s0))); all_goals (first | (intro k3 hk3; cbv) | (assumption))))
        have j : k3 = h.cmp w := hk3
        have j2 : w = fromN nb b tb true := hw
        have j3 : k3 ≤ 0 := by rw [j, j2, hh]; exact MM true
        subst hE; exact decide_eq_true j3
      · skip
        (first | (apply E_pcallX hE (c_quFrom (E.bnot na) a ta true ha la t1 t2); (case hm => rfl); (case hle => (repeat' (first | exact u_nil | apply u_cons | apply u2_agg | exact u2_int | exact u1_int | exact u2_bool | exact u1_bool | exact u2_sli | exact u1_sli | exact u2_s0 | exact u1_s0))); all_goals (first | (intro o ho; cbv) | (assumption))) | (apply E_callX hE (c_quFrom (E.bnot na) a ta true ha la t1 t2); (case hf => rfl); (case hc => (cbv <;> trivial)); (case hle => (repeat' (first | exact u_nil | apply u_cons | apply u2_agg | exact u2_int | exact u1_int | exact u2_bool | exact u1_bool | exact u2_sli | exact u1_sli | exact u2_s0 | exact u1_s0))); all_goals (first | (intro o ho; cbv) | (assumption))))
        have ho : o = fromN (E.bnot na) a ta true := ho
        (first | (apply E_pcallX hE (c_Neg ⟨_, _, _, _⟩); (case hm => rfl); (case hle => (repeat' (first | exact u_nil | apply u_cons | apply u2_agg | exact u2_int | exact u1_int | exact u2_bool | exact u1_bool | exact u2_sli | exact u1_sli | exact u2_s0 | exact u1_s0))); all_goals (first | (intro q hq; cbv) | (assumption))) | (apply E_callX hE (c_Neg ⟨_, _, _, _⟩); (case hf => rfl); (case hc => (cbv <;> trivial)); (case hle => (repeat' (first | exact u_nil | apply u_cons | apply u2_agg | exact u2_int | exact u1_int | exact u2_bool | exact u1_bool | exact u2_sli | exact u1_sli | exact u2_s0 | exact u1_s0))); all_goals (first | (intro q hq; cbv) | (assumption))))
        have eq : q = l := by have j : q = o.opp := hq; rw [j, ho, hl]; exact L.op
        refine E_br_f hE (fne _ (num_eq_t hE q l eq)) ?_; cbv
        refine E_br hE (fun g7 => ?_) (fun g7 => ?_) <;> cbv
        have MM := mono' (fg _ _ g7)
        (first | (apply E_pcallX hE (c_quFrom nb b tb false hb lb t3 t4); (case hm => rfl); (case hle => (repeat' (first | exact u_nil | apply u_cons | apply u2_agg | exact u2_int | exact u1_int | exact u2_bool | exact u1_bool | exact u2_sli | exact u1_sli | exact u2_s0 | exact u1_s0))); all_goals (first | (intro u hu; cbv) | (assumption))) | (apply E_callX hE (c_quFrom nb b tb false hb lb t3 t4); (case hf => rfl); (case hc => (cbv <;> trivial)); (case hle => (repeat' (first | exact u_nil | apply u_cons | apply u2_agg | exact u2_int | exact u1_int | exact u2_bool | exact u1_bool | exact u2_sli | exact u1_sli | exact u2_s0 | exact u1_s0))); all_goals (first | (intro u hu; cbv) | (assumption))))
        (first | (apply E_pcallX hE (c_Cmp ⟨_, _, _, _⟩ ⟨_, _, _, _⟩); (case hm => rfl); (case hle => (repeat' (first | exact u_nil | apply u_cons | apply u2_agg | exact u2_int | exact u1_int | exact u2_bool | exact u1_bool | exact u2_sli | exact u1_sli | exact u2_s0 | exact u1_s0))); all_goals (first | (intro k2 hk2; cbv) | (assumption))) | (apply E_callX hE (c_Cmp ⟨_, _, _, _⟩ ⟨_, _, _, _⟩); (case hf => rfl); (case hc => (cbv <;> trivial)); (case hle => (repeat' (first | exact u_nil | apply u_cons | apply u2_agg | exact u2_int | exact u1_int | exact u2_bool | exact u1_bool | exact u2_sli | exact u1_sli | exact u2_s0 | exact u1_s0))); all_goals (first | (intro k2 hk2; cbv) | (assumption))))
        have k2t : E.cmp .leq k2 0 = true := by have j : k2 = l.cmp u := hk2; have j2 : u = fromN nb b tb false := hu; have : k2 ≤ 0 := by rw [j, j2, hl]; exact MM false
                                                subst hE; exact decide_eq_true this
        refine E_br_t hE k2t ?_; cbv
        (first | (apply E_pcallX hE (c_quFrom nb b tb true hb lb t3 t4); (case hm => rfl); (case hle => (repeat' (first | exact u_nil | apply u_cons | apply u2_agg | exact u2_int | exact u1_int | exact u2_bool | exact u1_bool | exact u2_sli | exact u1_sli | exact u2_s0 | exact u1_s0))); all_goals (first | (intro w hw; cbv) | (assumption))) | (apply E_callX hE (c_quFrom nb b tb true hb lb t3 t4); (case hf => rfl); (case hc => (cbv <;> trivial)); (case hle => (repeat' (first | exact u_nil | apply u_cons | apply u2_agg | exact u2_int | exact u1_int | exact u2_bool | exact u1_bool | exact u2_sli | exact u1_sli | exact u2_s0 | exact u1_s0))); all_goals (first | (intro w hw; cbv) | (assumption))))
        (first | (apply E_pcallX hE (c_Cmp ⟨_, _, _, _⟩ ⟨_, _, _, _⟩); (case hm => rfl); (case hle => (repeat' (first | exact u_nil | apply u_cons | apply u2_agg | exact u2_int | exact u1_int | exact u2_bool | exact u1_bool | exact u2_sli | exact u1_sli | exact u2_s0 | exact u1_s0))); all_goals (first | (intro k3 hk3; cbv) | (assumption))) | (apply E_callX hE (c_Cmp ⟨_, _, _, _⟩ ⟨_, _, _, _⟩); (case hf => rfl); (case hc => (cbv <;> trivial)); (case hle => (repeat' (first | exact u_nil | apply u_cons | apply u2_agg | exact u2_int | exact u1_int | exact u2_bool | exact u1_bool | exact u2_sli | exact u1_sli | exact u2_s0 | exact u1_s0))); all_goals (first | (intro k3 hk3; cbv) | (assumption))))
        have j : k3 = h.cmp w := hk3
        have j2 : w = fromN nb b tb true := hw
        have j3 : k3 ≤ 0 := by rw [j, j2, hh]; exact MM true
        subst hE; exact decide_eq_true j3
  · have en : false = (decide (0 < a.length) && !na) := (by rw [← z0, g5]; rfl)
    rw [← en] at L
    have oo := (from_best (neg := false) (tens := ta) ha (by rw [en]; exact dec_may_neg ka) true).ok
    (first | (apply E_pcallX hE (c_Cmp ⟨_, _, _, _⟩ ⟨_, _, _, _⟩); (case hm => rfl); (case hle => (repeat' (first | exact u_nil | apply u_cons | apply u2_agg | exact u2_int | exact u1_int | exact u2_bool | exact u1_bool | exact u2_sli | exact u1_sli | exact u2_s0 | exact u1_s0))); all_goals (first | (intro k1 hk1; cbv) | (assumption))) | (apply E_callX hE (c_Cmp ⟨_, _, _, _⟩ ⟨_, _, _, _⟩); (case hf => rfl); (case hc => (cbv <;> trivial)); (case hle => (repeat' (first | exact u_nil | apply u_cons | apply u2_agg | exact u2_int | exact u1_int | exact u2_bool | exact u1_bool | exact u2_sli | exact u1_sli | exact u2_s0 | exact u1_s0))); all_goals (first | (intro k1 hk1; cbv) | (assumption))))
    have hk1 : k1 ≤ 0 := by have j : k1 = l.cmp h := hk1; rw [j, hl, hh]; exact L.le
    have j1 : E.cmp .gtr k1 0 = false := by subst hE; exact decide_eq_false (by omega)
    refine E_br_f hE j1 ?_; cbv
    have nb := L.nb
    rw [← hl, ← hh] at nb
    rcases nb with e | e
    · refine E_br_f hE (fne _ (num_eq_t hE l h e)) ?_; cbv
      (first | (apply E_pcallX hE (c_quFrom false a ta true ha la t1 t2); (case hm => rfl); (case hle => (repeat' (first | exact u_nil | apply u_cons | apply u2_agg | exact u2_int | exact u1_int | exact u2_bool | exact u1_bool | exact u2_sli | exact u1_sli | exact u2_s0 | exact u1_s0))); all_goals (first | (intro o ho; cbv) | (assumption))) | (apply E_callX hE (c_quFrom false a ta true ha la t1 t2); (case hf => rfl); (case hc => (cbv <;> trivial)); (case hle => (repeat' (first | exact u_nil | apply u_cons | apply u2_agg | exact u2_int | exact u1_int | exact u2_bool | exact u1_bool | exact u2_sli | exact u1_sli | exact u2_s0 | exact u1_s0))); all_goals (first | (intro o ho; cbv) | (assumption))))
      have ho : o = fromN false a ta true := ho
      (first | (apply E_pcallX hE (c_Neg ⟨_, _, _, _⟩); (case hm => rfl); (case hle => (repeat' (first | exact u_nil | apply u_cons | apply u2_agg | exact u2_int | exact u1_int | exact u2_bool | exact u1_bool | exact u2_sli | exact u1_sli | exact u2_s0 | exact u1_s0))); all_goals (first | (intro q hq; cbv) | (assumption))) | (apply E_callX hE (c_Neg ⟨_, _, _, _⟩); (case hf => rfl); (case hc => (cbv <;> trivial)); (case hle => (repeat' (first | exact u_nil | apply u_cons | apply u2_agg | exact u2_int | exact u1_int | exact u2_bool | exact u1_bool | exact u2_sli | exact u1_sli | exact u2_s0 | exact u1_s0))); all_goals (first | (intro q hq; cbv) | (assumption))))
      have eq : q = l := by have j : q = o.opp := hq; rw [j, ho, hl]; exact L.op
      refine E_br_f hE (fne _ (num_eq_t hE q l eq)) ?_; cbv
      refine E_br hE (fun g7 => ?_) (fun g7 => ?_) <;> cbv
      have MM := mono' (fg _ _ g7)
      (first | (apply E_pcallX hE (c_quFrom nb b tb false hb lb t3 t4); (case hm => rfl); (case hle => (repeat' (first | exact u_nil | apply u_cons | apply u2_agg | exact u2_int | exact u1_int | exact u2_bool | exact u1_bool | exact u2_sli | exact u1_sli | exact u2_s0 | exact u1_s0))); all_goals (first | (intro u hu; cbv) | (assumption))) | (apply E_callX hE (c_quFrom nb b tb false hb lb t3 t4); (case hf => rfl); (case hc => (cbv <;> trivial)); (case hle => (repeat' (first | exact u_nil | apply u_cons | apply u2_agg | exact u2_int | exact u1_int | exact u2_bool | exact u1_bool | exact u2_sli | exact u1_sli | exact u2_s0 | exact u1_s0))); all_goals (first | (intro u hu; cbv) | (assumption))))
      (first | (apply E_pcallX hE (c_Cmp ⟨_, _, _, _⟩ ⟨_, _, _, _⟩); (case hm => rfl); (case hle => (repeat' (first | exact u_nil | apply u_cons | apply u2_agg | exact u2_int | exact u1_int | exact u2_bool | exact u1_bool | exact u2_sli | exact u1_sli | exact u2_s0 | exact u1_s0))); all_goals (first | (intro k2 hk2; cbv) | (assumption))) | (apply E_callX hE (c_Cmp ⟨_, _, _, _⟩ ⟨_, _, _, _⟩); (case hf => rfl); (case hc => (cbv <;> trivial)); (case hle => (repeat' (first | exact u_nil | apply u_cons | apply u2_agg | exact u2_int | exact u1_int | exact u2_bool | exact u1_bool | exact u2_sli | exact u1_sli | exact u2_s0 | exact u1_s0))); all_goals (first | (intro k2 hk2; cbv) | (assumption))))
      have k2t : E.cmp .leq k2 0 = true := by have j : k2 = l.cmp u := hk2; have j2 : u = fromN nb b tb false := hu; have : k2 ≤ 0 := by rw [j, j2, hl]; exact MM false
                                              subst hE; exact decide_eq_true this
      refine E_br_t hE k2t ?_; cbv
      (first | (apply E_pcallX hE (c_quFrom nb b tb true hb lb t3 t4); (case hm => rfl); (case hle => (repeat' (first | exact u_nil | apply u_cons | apply u2_agg | exact u2_int | exact u1_int | exact u2_bool | exact u1_bool | exact u2_sli | exact u1_sli | exact u2_s0 | exact u1_s0))); all_goals (first | (intro w hw; cbv) | (assumption))) | (apply E_callX hE (c_quFrom nb b tb true hb lb t3 t4); (case hf => rfl); (case hc => (cbv <;> trivial)); (case hle => (repeat' (first | exact u_nil | apply u_cons | apply u2_agg | exact u2_int | exact u1_int | exact u2_bool | exact u1_bool | exact u2_sli | exact u1_sli | exact u2_s0 | exact u1_s0))); all_goals (first | (intro w hw; cbv) | (assumption))))
      (first | (apply E_pcallX hE (c_Cmp ⟨_, _, _, _⟩ ⟨_, _, _, _⟩); (case hm => rfl); (case hle => (repeat' (first | exact u_nil | apply u_cons | apply u2_agg | exact u2_int | exact u1_int | exact u2_bool | exact u1_bool | exact u2_sli | exact u1_sli | exact u2_s0 | exact u1_s0))); all_goals (first | (intro k3 hk3; cbv) | (assumption))) | (apply E_callX hE (c_Cmp ⟨_, _, _, _⟩ ⟨_, _, _, _⟩); (case hf => rfl); (case hc => (cbv <;> trivial)); (case hle => (repeat' (first | exact u_nil | apply u_cons | apply u2_agg | exact u2_int | exact u1_int | exact u2_bool | exact u1_bool | exact u2_sli | exact u1_sli | exact u2_s0 | exact u1_s0))); all_goals (first | (intro k3 hk3; cbv) | (assumption))))
      have j : k3 = h.cmp w := hk3
      have j2 : w = fromN nb b tb true := hw
      have j3 : k3 ≤ 0 := by rw [j, j2, hh]; exact MM true
      subst hE; exact decide_eq_true j3
    · refine E_br hE (fun g6 => ?_) (fun g6 => ?_) <;> cbv
      · (first | (apply E_pcallX hE (c_Next ⟨_, _, _, _⟩ true); (case hm => rfl); (case hle => (repeat' (first | exact u_nil | apply u_cons | apply u2_agg | exact u2_int | exact u1_int | exact u2_bool | exact u1_bool | exact u2_sli | exact u1_sli | exact u2_s0 | exact u1_s0))); all_goals (first | (intro nx hnx; cbv) | (assumption))) | (apply E_callX hE (c_Next ⟨_, _, _, _⟩ true); (case hf => rfl); (case hc => (cbv <;> trivial)); (case hle => (repeat' (first | exact u_nil | apply u_cons | apply u2_agg | exact u2_int | exact u1_int | exact u2_bool | exact u1_bool | exact u2_sli | exact u1_sli | exact u2_s0 | exact u1_s0))); all_goals (first | (intro nx hnx; cbv) | (assumption))))
        have e6 : nx = h := by have j : nx = Num.next l true := hnx; rw [j, e]
        refine E_br_f hE (fne _ (num_eq_t hE nx h e6)) ?_; cbv
        (first | (apply E_pcallX hE (c_quFrom false a ta true ha la t1 t2); (case hm => rfl); (case hle => (repeat' (first | exact u_nil | apply u_cons | apply u2_agg | exact u2_int | exact u1_int | exact u2_bool | exact u1_bool | exact u2_sli | exact u1_sli | exact u2_s0 | exact u1_s0))); all_goals (first | (intro o ho; cbv) | (assumption))) | (apply E_callX hE (c_quFrom false a ta true ha la t1 t2); (case hf => rfl); (case hc => (cbv <;> trivial)); (case hle => (repeat' (first | exact u_nil | apply u_cons | apply u2_agg | exact u2_int | exact u1_int | exact u2_bool | exact u1_bool | exact u2_sli | exact u1_sli | exact u2_s0 | exact u1_s0))); all_goals (first | (intro o ho; cbv) | (assumption))))
        have ho : o = fromN false a ta true := ho
        (first | (apply E_pcallX hE (c_Neg ⟨_, _, _, _⟩); (case hm => rfl); (case hle => (repeat' (first | exact u_nil | apply u_cons | apply u2_agg | exact u2_int | exact u1_int | exact u2_bool | exact u1_bool | exact u2_sli | exact u1_sli | exact u2_s0 | exact u1_s0))); all_goals (first | (intro q hq; cbv) | (assumption))) | (apply E_callX hE (c_Neg ⟨_, _, _, _⟩); (case hf => rfl); (case hc => (cbv <;> trivial)); (case hle => (repeat' (first | exact u_nil | apply u_cons | apply u2_agg | exact u2_int | exact u1_int | exact u2_bool | exact u1_bool | exact u2_sli | exact u1_sli | exact u2_s0 | exact u1_s0))); all_goals (first | (intro q hq; cbv) | (assumption))))
        have eq : q = l := by have j : q = o.opp := hq; rw [j, ho, hl]; exact L.op
        refine E_br_f hE (fne _ (num_eq_t hE q l eq)) ?_; cbv
        refine E_br hE (fun g7 => ?_) (fun g7 => ?_) <;> cbv
        have MM := mono' (fg _ _ g7)
        (first | (apply E_pcallX hE (c_quFrom nb b tb false hb lb t3 t4); (case hm => rfl); (case hle => (repeat' (first | exact u_nil | apply u_cons | apply u2_agg | exact u2_int | exact u1_int | exact u2_bool | exact u1_bool | exact u2_sli | exact u1_sli | exact u2_s0 | exact u1_s0))); all_goals (first | (intro u hu; cbv) | (assumption))) | (apply E_callX hE (c_quFrom nb b tb false hb lb t3 t4); (case hf => rfl); (case hc => (cbv <;> trivial)); (case hle => (repeat' (first | exact u_nil | apply u_cons | apply u2_agg | exact u2_int | exact u1_int | exact u2_bool | exact u1_bool | exact u2_sli | exact u1_sli | exact u2_s0 | exact u1_s0))); all_goals (first | (intro u hu; cbv) | (assumption))))
        (first | (apply E_pcallX hE (c_Cmp ⟨_, _, _, _⟩ ⟨_, _, _, _⟩); (case hm => rfl); (case hle => (repeat' (first | exact u_nil | apply u_cons | apply u2_agg | exact u2_int | exact u1_int | exact u2_bool | exact u1_bool | exact u2_sli | exact u1_sli | exact u2_s0 | exact u1_s0))); all_goals (first | (intro k2 hk2; cbv) | (assumption))) | (apply E_callX hE (c_Cmp ⟨_, _, _, _⟩ ⟨_, _, _, _⟩); (case hf => rfl); (case hc => (cbv <;> trivial)); (case hle => (repeat' (first | exact u_nil | apply u_cons | apply u2_agg | exact u2_int | exact u1_int | exact u2_bool | exact u1_bool | exact u2_sli | exact u1_sli | exact u2_s0 | exact u1_s0))); all_goals (first | (intro k2 hk2; cbv) | (assumption))))
        have k2t : E.cmp .leq k2 0 = true := by have j : k2 = l.cmp u := hk2; have j2 : u = fromN nb b tb false := hu; have : k2 ≤ 0 := by rw [j, j2, hl]; exact MM false
                                                subst hE; exact decide_eq_true this
        refine E_br_t hE k2t ?_; cbv
        (first | (apply E_pcallX hE (c_quFrom nb b tb true hb lb t3 t4); (case hm => rfl); (case hle => (repeat' (first | exact u_nil | apply u_cons | apply u2_agg | exact u2_int | exact u1_int | exact u2_bool | exact u1_bool | exact u2_sli | exact u1_sli | exact u2_s0 | exact u1_s0))); all_goals (first | (intro w hw; cbv) | (assumption))) | (apply E_callX hE (c_quFrom nb b tb true hb lb t3 t4); (case hf => rfl); (case hc => (cbv <;> trivial)); (case hle => (repeat' (first | exact u_nil | apply u_cons | apply u2_agg | exact u2_int | exact u1_int | exact u2_bool | exact u1_bool | exact u2_sli | exact u1_sli | exact u2_s0 | exact u1_s0))); all_goals (first | (intro w hw; cbv) | (assumption))))
        (first | (apply E_pcallX hE (c_Cmp ⟨_, _, _, _⟩ ⟨_, _, _, _⟩); (case hm => rfl); (case hle => (repeat' (first | exact u_nil | apply u_cons | apply u2_agg | exact u2_int | exact u1_int | exact u2_bool | exact u1_bool | exact u2_sli | exact u1_sli | exact u2_s0 | exact u1_s0))); all_goals (first | (intro k3 hk3; cbv) | (assumption))) | (apply E_callX hE (c_Cmp ⟨_, _, _, _⟩ ⟨_, _, _, _⟩); (case hf => rfl); (case hc => (cbv <;> trivial)); (case hle => (repeat' (first | exact u_nil | apply u_cons | apply u2_agg | exact u2_int | exact u1_int | exact u2_bool | exact u1_bool | exact u2_sli | exact u1_sli | exact u2_s0 | exact u1_s0))); all_goals (first | (intro k3 hk3; cbv) | (assumption))))
        have j : k3 = h.cmp w := hk3
        have j2 : w = fromN nb b tb true := hw
        have j3 : k3 ≤ 0 := by rw [j, j2, hh]; exact MM true
        subst hE; exact decide_eq_true j3
      · skip
        (first | (apply E_pcallX hE (c_quFrom false a ta true ha la t1 t2); (case hm => rfl); (case hle => (repeat' (first | exact u_nil | apply u_cons | apply u2_agg | exact u2_int | exact u1_int | exact u2_bool | exact u1_bool | exact u2_sli | exact u1_sli | exact u2_s0 | exact u1_s0))); all_goals (first | (intro o ho; cbv) | (assumption))) | (apply E_callX hE (c_quFrom false a ta true ha la t1 t2); (case hf => rfl); (case hc => (cbv <;> trivial)); (case hle => (repeat' (first | exact u_nil | apply u_cons | apply u2_agg | exact u2_int | exact u1_int | exact u2_bool | exact u1_bool | exact u2_sli | exact u1_sli | exact u2_s0 | exact u1_s0))); all_goals (first | (intro o ho; cbv) | (assumption))))
        have ho : o = fromN false a ta true := ho
        (first | (apply E_pcallX hE (c_Neg ⟨_, _, _, _⟩); (case hm => rfl); (case hle => (repeat' (first | exact u_nil | apply u_cons | apply u2_agg | exact u2_int | exact u1_int | exact u2_bool | exact u1_bool | exact u2_sli | exact u1_sli | exact u2_s0 | exact u1_s0))); all_goals (first | (intro q hq; cbv) | (assumption))) | (apply E_callX hE (c_Neg ⟨_, _, _, _⟩); (case hf => rfl); (case hc => (cbv <;> trivial)); (case hle => (repeat' (first | exact u_nil | apply u_cons | apply u2_agg | exact u2_int | exact u1_int | exact u2_bool | exact u1_bool | exact u2_sli | exact u1_sli | exact u2_s0 | exact u1_s0))); all_goals (first | (intro q hq; cbv) | (assumption))))
        have eq : q = l := by have j : q = o.opp := hq; rw [j, ho, hl]; exact L.op
        refine E_br_f hE (fne _ (num_eq_t hE q l eq)) ?_; cbv
        refine E_br hE (fun g7 => ?_) (fun g7 => ?_) <;> cbv
        have MM := mono' (fg _ _ g7)
        (first | (apply E_pcallX hE (c_quFrom nb b tb false hb lb t3 t4); (case hm => rfl); (case hle => (repeat' (first | exact u_nil | apply u_cons | apply u2_agg | exact u2_int | exact u1_int | exact u2_bool | exact u1_bool | exact u2_sli | exact u1_sli | exact u2_s0 | exact u1_s0))); all_goals (first | (intro u hu; cbv) | (assumption))) | (apply E_callX hE (c_quFrom nb b tb false hb lb t3 t4); (case hf => rfl); (case hc => (cbv <;> trivial)); (case hle => (repeat' (first | exact u_nil | apply u_cons | apply u2_agg | exact u2_int | exact u1_int | exact u2_bool | exact u1_bool | exact u2_sli | exact u1_sli | exact u2_s0 | exact u1_s0))); all_goals (first | (intro u hu; cbv) | (assumption))))
        (first | (apply E_pcallX hE (c_Cmp ⟨_, _, _, _⟩ ⟨_, _, _, _⟩); (case hm => rfl); (case hle => (repeat' (first | exact u_nil | apply u_cons | apply u2_agg | exact u2_int | exact u1_int | exact u2_bool | exact u1_bool | exact u2_sli | exact u1_sli | exact u2_s0 | exact u1_s0))); all_goals (first | (intro k2 hk2; cbv) | (assumption))) | (apply E_callX hE (c_Cmp ⟨_, _, _, _⟩ ⟨_, _, _, _⟩); (case hf => rfl); (case hc => (cbv <;> trivial)); (case hle => (repeat' (first | exact u_nil | apply u_cons | apply u2_agg | exact u2_int | exact u1_int | exact u2_bool | exact u1_bool | exact u2_sli | exact u1_sli | exact u2_s0 | exact u1_s0))); all_goals (first | (intro k2 hk2; cbv) | (assumption))))
        have k2t : E.cmp .leq k2 0 = true := by have j : k2 = l.cmp u := hk2; have j2 : u = fromN nb b tb false := hu; have : k2 ≤ 0 := by rw [j, j2, hl]; exact MM false
                                                subst hE; exact decide_eq_true this
        refine E_br_t hE k2t ?_; cbv
        (first | (apply E_pcallX hE (c_quFrom nb b tb true hb lb t3 t4); (case hm => rfl); (case hle => (repeat' (first | exact u_nil | apply u_cons | apply u2_agg | exact u2_int | exact u1_int | exact u2_bool | exact u1_bool | exact u2_sli | exact u1_sli | exact u2_s0 | exact u1_s0))); all_goals (first | (intro w hw; cbv) | (assumption))) | (apply E_callX hE (c_quFrom nb b tb true hb lb t3 t4); (case hf => rfl); (case hc => (cbv <;> trivial)); (case hle => (repeat' (first | exact u_nil | apply u_cons | apply u2_agg | exact u2_int | exact u1_int | exact u2_bool | exact u1_bool | exact u2_sli | exact u1_sli | exact u2_s0 | exact u1_s0))); all_goals (first | (intro w hw; cbv) | (assumption))))
        (first | (apply E_pcallX hE (c_Cmp ⟨_, _, _, _⟩ ⟨_, _, _, _⟩); (case hm => rfl); (case hle => (repeat' (first | exact u_nil | apply u_cons | apply u2_agg | exact u2_int | exact u1_int | exact u2_bool | exact u1_bool | exact u2_sli | exact u1_sli | exact u2_s0 | exact u1_s0))); all_goals (first | (intro k3 hk3; cbv) | (assumption))) | (apply E_callX hE (c_Cmp ⟨_, _, _, _⟩ ⟨_, _, _, _⟩); (case hf => rfl); (case hc => (cbv <;> trivial)); (case hle => (repeat' (first | exact u_nil | apply u_cons | apply u2_agg | exact u2_int | exact u1_int | exact u2_bool | exact u1_bool | exact u2_sli | exact u1_sli | exact u2_s0 | exact u1_s0))); all_goals (first | (intro k3 hk3; cbv) | (assumption))))
        have j : k3 = h.cmp w := hk3
        have j2 : w = fromN nb b tb true := hw
        have j3 : k3 ≤ 0 := by rw [j, j2, hh]; exact MM true
        subst hE; exact decide_eq_true j3


end Go.Proofs.Ytaiillbjhdoikaa.Ev

/- What an argument that reads as data stands for: numbers and intervals. -/
namespace Go.Proofs.Ytaiillbjhdoikaa.Ev
open Go Go.ChangeShapes Go.WideShapes Go.RowKit
set_option linter.unusedVariables false
set_option maxRecDepth 100000

section
variable {H : Type} {enc : TypeId × Value → H} {w : World} {base : Nat} {spare : Nat → Bool} {held : Bool}

theorem wf_i64 {n : Int} (h : (Lit.int .i64 n).wf = true) : -9223372036854775808 ≤ n ∧ n < 9223372036854775808 := by
  simp only [Lit.wf, IntKind.min, IntKind.max, IntKind.signed, IntKind.bits, Bool.and_eq_true] at h
  have := h.1; have := h.2
  simp at *
  omega

/-- a number's fields are of their words -/
def Num.wf (n : Num) : Prop := n.ok ∧ (-9223372036854775808 ≤ n.e ∧ n.e < 9223372036854775808) ∧ (-9223372036854775808 ≤ n.kind ∧ n.kind < 9223372036854775808)
def Num.vals (n : Num) : List Value := [.int .i64 n.kind, .bool n.neg, .int .u64 n.m, .int .i64 n.e]

def Iv.vals (x : Iv) : List Value := .bool x.empty :: (x.lo.vals ++ x.hi.vals)

end
end Go.Proofs.Ytaiillbjhdoikaa.Ev

/- What an argument that is a row of intervals stands for. -/
namespace Go.Proofs.Ytaiillbjhdoikaa.Ev
open Go Go.ChangeShapes Go.WideShapes Go.RowKit
set_option linter.unusedVariables false
set_option maxRecDepth 100000

theorem mapM_get {α : Type} {f : Nat → Option α} : ∀ (l : List Nat) (cs : List α), l.mapM f = some cs → cs.length = l.length ∧ ∀ (j i : Nat), l[j]? = some i → ∃ v, f i = some v ∧ cs[j]? = some v
  | [], cs, h => by
    simp at h
    subst h
    exact ⟨rfl, fun j i hj => by simp at hj⟩
  | x :: r, cs, h => by
    simp only [List.mapM_cons] at h
    cases hx : f x with
    | none => rw [hx] at h; simp at h
    | some v =>
      cases hr : r.mapM f with
      | none => rw [hx, hr] at h; simp at h
      | some vs =>
        rw [hx, hr] at h
        simp at h
        subst h
        obtain ⟨e1, e2⟩ := mapM_get r vs hr
        refine ⟨by simp [e1], fun j i hj => ?_⟩
        cases j with
        | zero => simp at hj; subst hj; exact ⟨v, hx, by simp⟩
        | succ j => simpa using e2 j i (by simpa using hj)
theorem cells_get {w : World} {base : Nat} {a : Addr} {n : Nat} {cs : List Value} (h : w.cells? base a n = some cs) : ∀ (j : Nat) (v : Value), cs[j]? = some v → w.cell? (a.add j) = some v := by
  unfold World.cells? at h
  split at h
  · obtain ⟨e1, e2⟩ := mapM_get _ _ h
    intro j v hj
    have hlt : j < n := by
      have := (List.getElem?_eq_some_iff.1 hj).1
      simpa [e1] using this
    obtain ⟨u, hu, hu2⟩ := e2 j j (by simp [hlt])
    rw [hj] at hu2
    rw [Option.some.inj hu2]; exact hu
  · cases h

section
variable {H : Type} {enc : TypeId × Value → H} {w : World} {base : Nat} {spare : Nat → Bool} {held : Bool}
end
end Go.Proofs.Ytaiillbjhdoikaa.Ev

/- What an argument that is a whole number or a decimal number stands for. -/
namespace Go.Proofs.Ytaiillbjhdoikaa.Ev
open Go Go.ChangeShapes Go.WideShapes Go.RowKit
set_option linter.unusedVariables false
set_option maxRecDepth 100000

section
variable {H : Type} {enc : TypeId × Value → H} {w : World} {base : Nat} {spare : Nat → Bool} {held : Bool}
theorem wf_u32 {n : Int} (h : (Lit.int .u32 n).wf = true) : 0 ≤ n ∧ n < 4294967296 := by
  simp only [Lit.wf, IntKind.min, IntKind.max, IntKind.signed, IntKind.bits, Bool.and_eq_true] at h
  have := h.1; have := h.2
  simp at *
  omega
theorem read_limbs {fuel : Nat} {cs : List Value} {x : DataW H × List MemPlace} (h : DataW.trod enc Try.prog w base spare held fuel 23 cs = some x) :
    ∃ (l : List Int) (A : Option Addr) (cap : Nat), cs = [.slice A l.length cap] ∧ Lb l ∧ l.length < 9223372036854775808 ∧ RoV (fun k => k < w.heap.size) w (.sli .u32 l) (.slice A l.length cap) := by
  rcases DataW.trod_slice Try.underlying23 h with ⟨hcs, _⟩ | ⟨a, len, cap, elems, rest, n, _, hcs, _, _, hl, hm, hlen, hel, _⟩
  · exact ⟨[], none, 0, hcs, Lb.nil, by decide, RoV.sliN _ _ _⟩
  · rcases Nat.eq_zero_or_pos len with h0 | h0
    · subst h0
      exact ⟨[], some a, cap, hcs, Lb.nil, by decide, RoV.sliN _ _ _⟩
    rw [show Try.prog.cellsOf 67 = 1 by kernel_rfl] at hel
    have key : ∀ i, i < len → ∃ x : Int, (0 ≤ x ∧ x < 4294967296) ∧ w.cells? base (a.add (i * 1)) 1 = some [.int .u32 x] := by
      intro i hi
      have h := hel i hi
      have hi' : i < elems.length := by omega
      rw [List.getElem?_eq_getElem hi', Option.bind_eq_some_iff] at h
      obtain ⟨cs, h1, h2⟩ := h
      obtain ⟨x, q, _, hw⟩ := DataW.trod_int Try.underlying67 h2
      exact ⟨x, wf_u32 hw, by rw [h1, q]⟩
    let g : Nat → Int := fun i => if h : i < len then Classical.choose (key i h) else 0
    have hg : ∀ i, i < len → (0 ≤ g i ∧ g i < 4294967296) ∧ w.cells? base (a.add (i * 1)) 1 = some [.int .u32 (g i)] := by
      intro i h
      show (0 ≤ (dite (i < len) _ _ : Int) ∧ (dite (i < len) _ _ : Int) < 4294967296) ∧ w.cells? base (a.add (i * 1)) 1 = some [.int .u32 (dite (i < len) _ _ : Int)]
      rw [dif_pos h]
      exact Classical.choose_spec (key i h)
    have c0 := (hg 0 h0).2
    have blk : a.block < w.heap.size := World.cells?_block c0 (by decide)
    have sp : a.spot = none := World.cell?_spot (cells_get c0 0 (.int .u32 (g 0)) rfl)
    have len1 : ((List.range len).map g).length = len := by simp
    refine ⟨(List.range len).map g, some a, cap, by rw [len1]; exact hcs, ?_, ?_, ?_⟩
    · intro x hx
      obtain ⟨i, hi, rfl⟩ := List.mem_map.1 hx
      exact (hg i (List.mem_range.1 hi)).1
    · rw [len1]
      have : cap ≤ maxLen := hm
      have e : maxLen < 9223372036854775808 := by decide
      omega
    · refine RoV.sli _ _ a cap sp blk (by rw [len1]; exact hl) (fun i n hi => ?_)
      obtain ⟨hi1, hi2⟩ := List.getElem?_eq_some_iff.1 hi
      have hi3 : i < len := by rw [len1] at hi1; exact hi1
      have en : n = g i := by rw [← hi2]; simp
      have cc := cells_get (hg i hi3).2 0 (.int .u32 (g i)) rfl
      have ea : (a.add (i * 1)).add 0 = ⟨a.block, a.off + i, none⟩ := by
        have e0 : a = ⟨a.block, a.off, none⟩ := by
          obtain ⟨x, y, z⟩ := a
          have sp' : z = none := sp
          rw [sp']
        rw [e0]
        unfold Addr.add
        by_cases h1 : i = 0 <;> simp [h1]
      rw [ea] at cc
      rw [en]; exact cc
theorem read_whole {fuel : Nat} {cs : List Value} {x : DataW H × List MemPlace} (h : DataW.trod enc Try.prog w base spare held fuel 25 cs = some x) :
    ∃ (b : Bool) (l : List Int) (A : Option Addr) (cap : Nat), cs = [.bool b, .slice A l.length cap] ∧ Lb l ∧ l.length < 9223372036854775808 ∧ RoV (fun k => k < w.heap.size) w (.sli .u32 l) (.slice A l.length cap) := by
  obtain ⟨xs, m, rfl, _, hl, hxs, hf⟩ := DataW.trod_struct Try.underlying25 h
  rw [show Try.prog.cellsOf 25 = 2 by kernel_rfl] at hl
  obtain ⟨c0, c1, rfl⟩ : ∃ a b, cs = [a, b] := by
    rcases cs with _ | ⟨a, _ | ⟨b, _ | ⟨c, r⟩⟩⟩ <;> simp at hl
    exact ⟨a, b, rfl⟩
  have get : ∀ i, i < 2 → ∃ y, xs[i]? = some y := fun i hi => ⟨_, List.getElem?_eq_getElem (by rw [hxs]; exact hi)⟩
  obtain ⟨y0, e0⟩ := get 0 (by omega)
  obtain ⟨y1, e1⟩ := get 1 (by omega)
  have z4 : Try.prog.cellsOf 4 = 1 := by kernel_rfl
  have z5 : Try.prog.cellsOf 23 = 1 := by kernel_rfl
  have h0 : DataW.trod enc Try.prog w base spare held m 4 (([c0, c1].drop 0).take (Try.prog.cellsOf 4)) = some y0 := (hf 0 _ rfl).trans e0
  have h1 : DataW.trod enc Try.prog w base spare held m 23 (([c0, c1].drop 1).take (Try.prog.cellsOf 23)) = some y1 := (hf 1 _ rfl).trans e1
  rw [z4] at h0
  rw [z5] at h1
  obtain ⟨b, q0, _⟩ := DataW.trod_bool Try.underlying4 h0
  obtain ⟨l, A, cap, q1, r1, r2, r3⟩ := read_limbs h1
  refine ⟨b, l, A, cap, ?_, r1, r2, r3⟩
  obtain ⟨rfl⟩ : c0 = _ := (List.cons.inj q0).1
  obtain ⟨rfl⟩ : c1 = _ := (List.cons.inj q1).1
  rfl
theorem arg_dec {r : Reach} {b0 : Nat} {v : Value} {d : DataW H} {ps : List MemPlace} (hval : Value.okWide Try.prog w r b0 46 v) (hd : DataW.Trod enc Try.prog w base spare held 46 v d ps) :
    ∃ (b : Bool) (l : List Int) (t : Int), Lb l ∧ l.length < 9223372036854775808 ∧ (-9223372036854775808 ≤ t ∧ t < 9223372036854775808) ∧ RoV (fun k => k < w.heap.size) w (.agg [.bool (.s b), .sli .u32 l, .int .i64 (.s t)]) v := by
  obtain ⟨cs, rfl, _⟩ := okWide_struct Try.underlying46 hval
  obtain ⟨fuel, hf⟩ := hd
  obtain ⟨ys⟩ := cs
  obtain ⟨xs, m, rfl, _, hl, hxs, hf⟩ := DataW.trod_struct Try.underlying46 hf
  rw [show Try.prog.cellsOf 46 = 3 by kernel_rfl] at hl
  obtain ⟨c0, c1, c2, rfl⟩ : ∃ a b c, ys = [a, b, c] := by
    have hl : ys.length = 3 := hl
    rcases ys with _ | ⟨a, _ | ⟨b, _ | ⟨c, _ | ⟨d, r⟩⟩⟩⟩ <;> simp at hl
    exact ⟨a, b, c, rfl⟩
  have get : ∀ i, i < 2 → ∃ y, xs[i]? = some y := fun i hi => ⟨_, List.getElem?_eq_getElem (by rw [hxs]; exact hi)⟩
  obtain ⟨y0, e0⟩ := get 0 (by omega)
  obtain ⟨y1, e1⟩ := get 1 (by omega)
  have z4 : Try.prog.cellsOf 25 = 2 := by kernel_rfl
  have z5 : Try.prog.cellsOf 3 = 1 := by kernel_rfl
  have h0 : DataW.trod enc Try.prog w base spare held m 25 (([c0, c1, c2].drop 0).take (Try.prog.cellsOf 25)) = some y0 := (hf 0 _ rfl).trans e0
  have h1 : DataW.trod enc Try.prog w base spare held m 3 (([c0, c1, c2].drop 2).take (Try.prog.cellsOf 3)) = some y1 := (hf 1 _ rfl).trans e1
  rw [z4] at h0
  rw [z5] at h1
  obtain ⟨b, l, A, cap, q0, r1, r2, r3⟩ := read_whole h0
  obtain ⟨t, q1, _, w1⟩ := DataW.trod_int Try.underlying3 h1
  refine ⟨b, l, t, r1, r2, wf_i64 w1, ?_⟩
  obtain ⟨rfl⟩ : c0 = _ := (List.cons.inj q0).1
  obtain ⟨rfl⟩ : c1 = _ := (List.cons.inj (List.cons.inj q0).2).1
  obtain ⟨rfl⟩ : c2 = _ := (List.cons.inj q1).1
  refine .agg _ _ rfl (fun j c hj => ?_)
  match j, hj with
  | 0, hj => simp at hj; subst hj; exact .bool _ _ rfl
  | 1, hj => simp at hj; subst hj; exact r3
  | 2, hj => simp at hj; subst hj; exact .int _ _ _ rfl
  | j + 3, hj => simp at hj
end
end Go.Proofs.Ytaiillbjhdoikaa.Ev
