/- Texts of the proof, joined: W8 W3 W4 Br17 Pu42 Pu43 W9 D7 Rd -/
import Derived.Test.YtpadpcjdakfokaaDoorB5
import Derived.ChangeArms
import Derived.ProofKit
import Derived.RowKit
import Derived.Carry
set_option linter.unusedVariables false
set_option linter.unusedSimpArgs false

/- Contracts: the two fixed numbers for an inverse tangent. Printed by gen.py. -/
namespace Go.Proofs.YtpadpcjdakfokaaDoor.Ev
open Go Go.Proofs
set_option linter.unusedVariables false
set_option linter.unusedSimpArgs false

attribute [local irreducible] Lb whN piOne
theorem h_terms (N : Int) (h1 : -9223372036854775808 ≤ N) (h2 : N < 9223372036854775808) : CallsH Tryd.prog 112 [.int .i64 (.s N)] [zwB, zwB]
    (fun v h => ∃ p : Bool × List Int, v = .fn 114 [.ptr 4 1 (.l 0) 0, .ptr 3 2 (.l 0) 0, .ptr 2 1 (.l 0) 0] ∧ h = [zwB, zwB, nbB N, pwB p, odB (-1)] ∧ p = whN N) := by
  refine callsH_turn (K' := fun v h => ∃ p : Bool × List Int, v = .fn 114 [.ptr 4 1 (.l 0) 0, .ptr 3 2 (.l 0) 0, .ptr 2 1 (.l 0) 0] ∧ h = [zwB, zwB, nbB N, pwB p, .rows true 1 [.int .i64 (.l 0)] [[.int .i64 (.l (-1))]]] ∧ p = whN N) ?_ ?_
  · refine callsH_of hG hm Tryd.func112 (by kernel_rfl) ?_
    intro E hE lp hl'
    cbv
    (first | (apply E_pcallX hE (c_wFrom N h1 h2); (case hm => rfl); (case hle => (repeat' (first | exact u_nil | apply u_cons | apply u2_agg | exact u2_int | exact u1_int | exact u2_bool | exact u1_bool | exact u2_sli | exact u1_sli | exact u2_s0 | exact u1_s0))); all_goals (first | (intro u hu; cbv) | (assumption))) | (apply E_callX hE (c_wFrom N h1 h2); (case hf => rfl); (case hc => (cbv <;> trivial)); (case hle => (repeat' (first | exact u_nil | apply u_cons | apply u2_agg | exact u2_int | exact u1_int | exact u2_bool | exact u1_bool | exact u2_sli | exact u1_sli | exact u2_s0 | exact u1_s0))); all_goals (first | (intro u hu; cbv) | (assumption))))
    exact ⟨u, rfl, rfl, Eq.trans hu (whN_def N).symm⟩
  · rintro v h ⟨p, rfl, rfl, hp⟩
    exact ⟨4, odB (-1), _, rfl, rfl, ⟨rfl, rfl⟩, fun x1 x2 g hw hb => blk_lit x1 x2 g hw hb, p, rfl, rfl, hp⟩


def piSum (n : Nat) : Nat → Int
  | 0 => 0
  | j + 1 => piSum n j + (if j % 2 = 1 then -(piTerm n j : Int) else (piTerm n j : Int))
def piKf (n : Nat) : Nat → Nat → Nat
  | 0, j => j
  | f + 1, j => if piTerm n j = 0 then j else piKf n f (j + 1)
def piK (n : Nat) : Nat := piKf n 98 0
def piLo (n : Nat) : Int := piSum n (piK n) - (piK n : Int) - 1
def piHi (n : Nat) : Int := piSum n (piK n) + (piK n : Int) + 1
theorem piKf_go {n j : Nat} (hj : j ≤ 97) (h : piTerm n j ≠ 0) : piKf n (98 - j) j = piKf n (98 - (j + 1)) (j + 1) := by
  rw [show 98 - j = (98 - (j + 1)) + 1 by omega]
  show (if piTerm n j = 0 then j else _) = _
  rw [if_neg h]
theorem piKf_end {n j : Nat} (hj : j ≤ 97) (h : piTerm n j = 0) : piKf n (98 - j) j = j := by
  rw [show 98 - j = (98 - (j + 1)) + 1 by omega]
  show (if piTerm n j = 0 then j else _) = _
  rw [if_pos h]
theorem piTerm97 {n : Nat} (h : 2 ≤ n) : piTerm n 97 = 0 := by
  unfold piTerm
  refine Nat.div_eq_of_lt ?_
  have h1 : 2 ^ 195 ≤ n ^ 195 := Nat.pow_le_pow_left h 195
  have h2 : piOne < 2 ^ 195 := by unfold piOne; decide +kernel
  show piOne < n ^ 195 * 195
  omega
theorem piTerm_le (n j : Nat) : piTerm n j ≤ piOne := Nat.div_le_self _ _
theorem piSum_le (n j : Nat) : (piSum n j).natAbs ≤ j * piOne := by
  induction j with
  | zero => simp [piSum]
  | succ j ih =>
    have := piTerm_le n j
    rw [Nat.succ_mul]
    unfold piSum
    generalize piSum n j = s at *
    generalize j * piOne = q at *
    split <;> omega
theorem piSum_len {n j : Nat} (hj : j ≤ 98) : (whN (piSum n j)).2.length ≤ 7 := by
  refine whN_len ?_
  have h1 := piSum_le n j
  have h2 : j * piOne ≤ 98 * piOne := Nat.mul_le_mul_right _ hj
  have h3 : 98 * piOne < 4294967296 ^ 7 := by unfold piOne; decide +kernel
  omega
theorem piTerm_len (n j : Nat) : (whN (piTerm n j : Int)).2.length ≤ 101 := by
  rw [whN_nat]; exact lim_pow_len (Nat.le_trans (piTerm_le n j) piOne_le)
def sumB : Option (Bool × List Int) → Blk
  | none => zwB
  | some s => pwB s
def piS (N : Int) : Nat × Option (Bool × List Int) × (Bool × List Int) × (Bool × List Int) × Int → St := fun p =>
  ⟨[(2, .ptr 0 2 (.l 0) 0), (3, .ptr 1 2 (.l 0) 0), (4, .fn 114 [.ptr 4 1 (.l 0) 0, .ptr 3 2 (.l 0) 0, .ptr 2 1 (.l 0) 0]), (5, .ptr 5 2 (.l 0) 0), (6, .int .i64 (.s (p.1 : Int))), (7, .ptr 7 2 (.l 0) 0)],
    [zwB, zwB, nbB N, pwB p.2.2.2.1, odB p.2.2.2.2, sumB p.2.1, .dead, pwB p.2.2.1]⟩
def piOK (n : Nat) (p : Nat × Option (Bool × List Int) × (Bool × List Int) × (Bool × List Int) × Int) : Prop :=
  p.1 ≤ 97 ∧ piKf n (98 - p.1) p.1 = piK n ∧ (match p.2.1 with | none => p.1 = 0 | some s => s = whN (piSum n p.1)) ∧ p.2.2.1 = whN (piTerm n p.1 : Int) ∧ p.2.2.2.1 = whN ((n ^ (2 * (p.1 + 1) + 1) : Nat) : Int) ∧ p.2.2.2.2 = 2 * ((p.1 + 1 : Nat) : Int) - 1


set_option maxHeartbeats 4000000 in
theorem c_piInverse (n : Nat) (hn1 : 2 ≤ n) (hn2 : n ≤ 1000) (N : Int) (hN : N = n) : ∃ t : (Bool × List Int) × (Bool × List Int), t = (whN (piLo n), whN (piHi n)) ∧
    CallsA Tryd.prog 95 [.int .i64 (.s N)] (.tup [.agg [.bool (.s t.1.1), .sli .u32 t.1.2], .agg [.bool (.s t.2.1), .sli .u32 t.2.2]]) := by
  refine ⟨_, rfl, ?_⟩
  generalize hr : (whN (piLo n), whN (piHi n)) = r
  have N1 : -9223372036854775808 ≤ N := by omega
  have N2 : N < 9223372036854775808 := by omega
  have hp0 : ∀ p, p = whN N → p = whN ((n ^ (2 * 0 + 1) : Nat) : Int) := by intro p h; rw [h, hN, Nat.mul_zero, Nat.zero_add, Nat.pow_one]
  obtain ⟨m, em⟩ : ∃ m : Nat × Option (Bool × List Int) × (Bool × List Int) × (Bool × List Int) × Int → Nat, ∀ p, m p = 98 - p.1 := ⟨_, fun _ => rfl⟩
  obtain ⟨ok, eok⟩ : ∃ ok : Nat × Option (Bool × List Int) × (Bool × List Int) × (Bool × List Int) × Int → Prop, ∀ p, ok p ↔ piOK n p := ⟨_, fun _ => Iff.rfl⟩
  refine callsA_of hG hm Tryd.func95 (by kernel_rfl) ?_
  intro E hE lp hl'
  have f1 : E.cmp .lss N 2 = false := by subst hE; exact decide_eq_false (by omega)
  have f2 : E.cmp .gtr N 1000 = false := by subst hE; exact decide_eq_false (by omega)
  cbv
  repeat' (first | (apply E_br_f hE; assumption; cbv) | fail)
  refine E_callH hE (h_terms N N1 N2) ?_
  rintro v h1 ⟨p0, rfl, rfl, hp⟩
  cbv
  refine E_callH hE (h_term1 n 0 hn1 hn2 (by decide) N hN p0 (hp0 p0 hp) (-1) (by decide)) ?_
  rintro v h1 ⟨t0, p1, o1, rfl, rfl, ht0, hp1, ho1⟩
  cbv
  refine E_loopM hE hG hm hl' (piS N) m ok ⟨(0, none, t0, p1, o1), [0, 1, 2, 3, 4, 5, 6, 6], (eok _).2 ⟨by show 0 ≤ 97; decide, rfl, rfl, ht0, hp1, ho1⟩, stLeM (by repeat' (first | exact trivial | exact rfl | apply And.intro)) rfl rfl rfl (by repeat' (first | exact trivial | exact rfl | apply And.intro)) (by (repeat' (first | exact m_nil | refine m_cons ?_ rfl ?_ | exact u2_int | exact u2_bool | exact u2_ptr | exact u2_fn | exact (rfl : sle2 _ _))))⟩ ?_
  rintro ⟨j, so, t, p, o⟩ hok
  have hok := (eok _).1 hok
  obtain ⟨hj, hk, hs, ht, hp, ho⟩ := hok
  dsimp only at hj hk hs ht hp ho
  have tb : Lb t.2 := by rw [ht]; exact whN_lb _
  have t101 : t.2.length ≤ 101 := by rw [ht]; exact piTerm_len n j
  have tl : t.2.length < 67108864 := by omega
  have tl2 : t.2.length ≤ 268435456 := by omega
  have tl3 : t.2.length < 134217728 := by omega
  have lt : lv t.2 = piTerm n j := by rw [ht, whN_nat, lv_lim]
  have wt : wv t.1 t.2 = (piTerm n j : Int) := by rw [ht]; exact wv_nat _
  have fin : ∀ x y : Bool × List Int, piTerm n j = 0 → x = whN (piSum n j + (-(j : Int) - 1)) → y = whN (piSum n j + ((j : Int) + 1)) → x = r.1 ∧ y = r.2 := by
    intro x y z hx hy
    have kj : piK n = j := hk.symm.trans (piKf_end hj z)
    rw [← hr]
    show x = whN (piLo n) ∧ y = whN (piHi n)
    unfold piLo piHi
    rw [kj, hx, hy]
    exact ⟨congrArg _ (by omega), congrArg _ (by omega)⟩
  have step : piTerm n j ≠ 0 → ∀ s1 t' p' : Bool × List Int, ∀ o' : Int, s1 = whN (piSum n (j + 1)) → t' = whN (piTerm n (j + 1) : Int) → p' = whN ((n ^ (2 * (j + 1 + 1) + 1) : Nat) : Int) → o' = 2 * ((j + 1 + 1 : Nat) : Int) - 1 →
      m (j + 1, some s1, t', p', o') < m (j, so, t, p, o) ∧ ok (j + 1, some s1, t', p', o') := by
    intro nz s1 t' p' o' h1 h2 h3 h4
    have j96 : j ≤ 96 := by
      by_cases e : j = 97
      · exact absurd (by rw [e]; exact piTerm97 hn1) nz
      · omega
    exact ⟨by rw [em, em]; show 98 - (j + 1) < 98 - j; omega, (eok _).2 ⟨by show j + 1 ≤ 97; omega, (piKf_go hj nz).symm.trans hk, h1, h2, h3, h4⟩⟩
  have so1 : j % 2 = 1 → piSum n (j + 1) = piSum n j + -(piTerm n j : Int) := by intro h; show piSum n j + _ = _; rw [if_pos h]
  have so0 : j % 2 ≠ 1 → piSum n (j + 1) = piSum n j + (piTerm n j : Int) := by intro h; show piSum n j + _ = _; rw [if_neg h]
  have jr : E.bin .rem .i64 (j : Int) 2 = ((j % 2 : Nat) : Int) := by
    subst hE
    show (j : Int).tmod 2 = _
    rw [Int.tmod_eq_emod_of_nonneg (by omega)]; omega
  have j1 : E.bin .add .i64 (j : Int) 1 = ((j + 1 : Nat) : Int) := by
    subst hE
    show IntKind.i64.wrap ((j : Int) + 1) = _
    rw [wi64_in (by omega) (by omega)]; omega
  have jm : E.bin .sub .i64 (E.bin .sub .i64 0 (j : Int)) 1 = -(j : Int) - 1 := by
    subst hE
    show IntKind.i64.wrap (IntKind.i64.wrap (0 - (j : Int)) - 1) = _
    rw [wi64_in (n := 0 - (j : Int)) (by omega) (by omega), wi64_in (by omega) (by omega)]; omega
  have e1 : -9223372036854775808 ≤ E.bin .sub .i64 (E.bin .sub .i64 0 (j : Int)) 1 := by rw [jm]; omega
  have e2 : E.bin .sub .i64 (E.bin .sub .i64 0 (j : Int)) 1 < 9223372036854775808 := by rw [jm]; omega
  have e3 : -9223372036854775808 ≤ E.bin .add .i64 (j : Int) 1 := by rw [j1]; omega
  have e4 : E.bin .add .i64 (j : Int) 1 < 9223372036854775808 := by rw [j1]; omega
  have fl : ∀ (a : Bool × List Int) (z : Int), a = (decide (z < 0), lim z.natAbs) → z.natAbs < 1000 → Lb a.2 ∧ a.2.length < 134217728 ∧ wv a.1 a.2 = z := by
    intro a z h hz
    rw [← whN_def] at h
    rw [h]
    exact ⟨whN_lb _, Nat.lt_of_le_of_lt (whN_len (k := 1) (by rw [Nat.pow_one]; omega)) (by decide), wv_whN _⟩
  have nz_of : ∀ sg : Int, sg = (if lv t.2 = 0 then 0 else if t.1 then -1 else 1) → (0 < sg ↔ piTerm n j ≠ 0) := by
    intro sg h
    have t1 : t.1 = false := by rw [ht, whN_nat]
    rw [h, lt, t1]
    by_cases z : piTerm n j = 0
    · rw [if_pos z]; constructor
      · intro h; exact absurd h (by decide)
      · intro h; exact absurd z h
    · rw [if_neg z]; exact ⟨fun _ => z, fun _ => by decide⟩
  have jl : j ≤ 98 := by omega
  have j2 : j + 1 ≤ 98 := by omega
  have od_of : E.bin .rem .i64 (j : Int) 2 = 1 → j % 2 = 1 := by rw [jr]; intro k; omega
  have ev_of : ¬ E.bin .rem .i64 (j : Int) 2 = 1 → j % 2 ≠ 1 := by rw [jr]; intro k; omega
  have ja : (E.bin .sub .i64 (E.bin .sub .i64 0 (j : Int)) 1).natAbs < 1000 := by rw [jm]; omega
  have jb : (E.bin .add .i64 (j : Int) 1).natAbs < 1000 := by rw [j1]; omega
  have hp2 := hp
  have ho2 := ho
  clear hp ho hok em eok hr hk
  cases so with
  | none =>
    have j0 : j = 0 := hs
    have sb : Lb ([] : List Int) := Lb.nil
    have sl : ([] : List Int).length < 134217728 := by decide
    have ws : wv false [] = piSum n j := by rw [j0]; rfl
    clear hs
    cbv
    (first | (apply E_pcallX hE (c_wSign t.1 t.2 tb tl); (case hm => rfl); (case hle => (repeat' (first | exact u_nil | apply u_cons | apply u2_agg | exact u2_int | exact u1_int | exact u2_bool | exact u1_bool | exact u2_sli | exact u1_sli | exact u2_s0 | exact u1_s0))); all_goals (first | (intro sg hsg; cbv) | (assumption))) | (apply E_callX hE (c_wSign t.1 t.2 tb tl); (case hf => rfl); (case hc => (cbv <;> trivial)); (case hle => (repeat' (first | exact u_nil | apply u_cons | apply u2_agg | exact u2_int | exact u1_int | exact u2_bool | exact u1_bool | exact u2_sli | exact u1_sli | exact u2_s0 | exact u1_s0))); all_goals (first | (intro sg hsg; cbv) | (assumption))))
    refine E_br hE (fun g => ?_) (fun g => ?_) <;> cbv
    · have nz : piTerm n j ≠ 0 := (nz_of sg hsg).1 (by subst hE; exact gtr_t g)
      refine E_br hE (fun q => ?_) (fun q => ?_) <;> cbv
      · have od : j % 2 = 1 := od_of (by subst hE; exact eql_t q)
        (first | (apply E_pcallX hE (c_wNeg t.1 t.2 tb tl2); (case hm => rfl); (case hle => (repeat' (first | exact u_nil | apply u_cons | apply u2_agg | exact u2_int | exact u1_int | exact u2_bool | exact u1_bool | exact u2_sli | exact u1_sli | exact u2_s0 | exact u1_s0))); all_goals (first | (intro u hu; cbv) | (assumption))) | (apply E_callX hE (c_wNeg t.1 t.2 tb tl2); (case hf => rfl); (case hc => (cbv <;> trivial)); (case hle => (repeat' (first | exact u_nil | apply u_cons | apply u2_agg | exact u2_int | exact u1_int | exact u2_bool | exact u1_bool | exact u2_sli | exact u1_sli | exact u2_s0 | exact u1_s0))); all_goals (first | (intro u hu; cbv) | (assumption))))
        have hu : u = (!t.1 && decide (lv t.2 ≠ 0), lim (lv t.2)) := hu
        have ub : Lb u.2 := by rw [hu]; exact lim_lb _
        have ul : u.2.length < 134217728 := by rw [hu]; exact Nat.lt_of_le_of_lt (lim_length_le' tb) tl3
        have wu : wv u.1 u.2 = -(piTerm n j : Int) := by
          have t1 : t.1 = false := by rw [ht, whN_nat]
          rw [hu, whN_of, wv_whN, t1, lt]; rfl
        (first | (apply E_pcallX hE (c_wAdd false [] u.1 u.2 sb ub sl ul); (case hm => rfl); (case hle => (repeat' (first | exact u_nil | apply u_cons | apply u2_agg | exact u2_int | exact u1_int | exact u2_bool | exact u1_bool | exact u2_sli | exact u1_sli | exact u2_s0 | exact u1_s0))); all_goals (first | (intro s1 hs1; cbv) | (assumption))) | (apply E_callX hE (c_wAdd false [] u.1 u.2 sb ub sl ul); (case hf => rfl); (case hc => (cbv <;> trivial)); (case hle => (repeat' (first | exact u_nil | apply u_cons | apply u2_agg | exact u2_int | exact u1_int | exact u2_bool | exact u1_bool | exact u2_sli | exact u1_sli | exact u2_s0 | exact u1_s0))); all_goals (first | (intro s1 hs1; cbv) | (assumption))))
        have hs1 : s1 = whN (piSum n (j + 1)) := by
          have k : s1 = whN (wv false [] + wv u.1 u.2) := hs1
          rw [k, ws, wu, so1 od]
        refine E_nm hE (fun kk hkk => ?_); cbv
        have hkk : kk = ((j + 1 : Nat) : Int) := Eq.trans hkk j1
        refine E_callH hE (h_term4 n (j + 1) hn1 hn2 j2 N hN p hp2 o ho2 s1 u u) ?_
        rintro v h1 ⟨t', p', o', rfl, rfl, ht', hp', ho'⟩
        cbv
        exact ⟨(j + 1, some s1, t', p', o'), [0, 1, 2, 3, 4, 5, 6, 8], (step nz s1 t' p' o' hs1 ht' hp' ho').1, (step nz s1 t' p' o' hs1 ht' hp' ho').2, stLeM (by repeat' (first | exact trivial | exact rfl | apply And.intro)) rfl rfl rfl (by repeat' (first | exact trivial | exact rfl | apply And.intro)) (by (repeat' (first | exact m_nil | refine m_cons ?_ rfl ?_ | exact u2_int | exact u2_bool | exact u2_ptr | exact u2_fn | exact (rfl : sle2 _ _) | exact ⟨rfl, hkk⟩)))⟩
      · have od : j % 2 ≠ 1 := ev_of (by subst hE; exact eql_f q)
        have tl := tl3
        (first | (apply E_pcallX hE (c_wAdd false [] t.1 t.2 sb tb sl tl); (case hm => rfl); (case hle => (repeat' (first | exact u_nil | apply u_cons | apply u2_agg | exact u2_int | exact u1_int | exact u2_bool | exact u1_bool | exact u2_sli | exact u1_sli | exact u2_s0 | exact u1_s0))); all_goals (first | (intro s1 hs1; cbv) | (assumption))) | (apply E_callX hE (c_wAdd false [] t.1 t.2 sb tb sl tl); (case hf => rfl); (case hc => (cbv <;> trivial)); (case hle => (repeat' (first | exact u_nil | apply u_cons | apply u2_agg | exact u2_int | exact u1_int | exact u2_bool | exact u1_bool | exact u2_sli | exact u1_sli | exact u2_s0 | exact u1_s0))); all_goals (first | (intro s1 hs1; cbv) | (assumption))))
        have hs1 : s1 = whN (piSum n (j + 1)) := by
          have k : s1 = whN (wv false [] + wv t.1 t.2) := hs1
          rw [k, ws, wt, so0 od]
        refine E_nm hE (fun kk hkk => ?_); cbv
        have hkk : kk = ((j + 1 : Nat) : Int) := Eq.trans hkk j1
        refine E_callH hE (h_term4 n (j + 1) hn1 hn2 j2 N hN p hp2 o ho2 s1 t t) ?_
        rintro v h1 ⟨t', p', o', rfl, rfl, ht', hp', ho'⟩
        cbv
        exact ⟨(j + 1, some s1, t', p', o'), [0, 1, 2, 3, 4, 5, 6, 8], (step nz s1 t' p' o' hs1 ht' hp' ho').1, (step nz s1 t' p' o' hs1 ht' hp' ho').2, stLeM (by repeat' (first | exact trivial | exact rfl | apply And.intro)) rfl rfl rfl (by repeat' (first | exact trivial | exact rfl | apply And.intro)) (by (repeat' (first | exact m_nil | refine m_cons ?_ rfl ?_ | exact u2_int | exact u2_bool | exact u2_ptr | exact u2_fn | exact (rfl : sle2 _ _) | exact ⟨rfl, hkk⟩)))⟩
    · have z : piTerm n j = 0 := by
        by_cases z : piTerm n j = 0
        · exact z
        · exact absurd ((nz_of sg hsg).2 z) (by subst hE; exact gtr_f g)
      (first | (apply E_pcallX hE (c_wFrom (E.bin .sub .i64 (E.bin .sub .i64 0 (j : Int)) 1) e1 e2); (case hm => rfl); (case hle => (repeat' (first | exact u_nil | apply u_cons | apply u2_agg | exact u2_int | exact u1_int | exact u2_bool | exact u1_bool | exact u2_sli | exact u1_sli | exact u2_s0 | exact u1_s0))); all_goals (first | (intro a ha; cbv) | (assumption))) | (apply E_callX hE (c_wFrom (E.bin .sub .i64 (E.bin .sub .i64 0 (j : Int)) 1) e1 e2); (case hf => rfl); (case hc => (cbv <;> trivial)); (case hle => (repeat' (first | exact u_nil | apply u_cons | apply u2_agg | exact u2_int | exact u1_int | exact u2_bool | exact u1_bool | exact u2_sli | exact u1_sli | exact u2_s0 | exact u1_s0))); all_goals (first | (intro a ha; cbv) | (assumption))))
      obtain ⟨ab, al, wa⟩ := fl a _ ha ja
      (first | (apply E_pcallX hE (c_wAdd false [] a.1 a.2 sb ab sl al); (case hm => rfl); (case hle => (repeat' (first | exact u_nil | apply u_cons | apply u2_agg | exact u2_int | exact u1_int | exact u2_bool | exact u1_bool | exact u2_sli | exact u1_sli | exact u2_s0 | exact u1_s0))); all_goals (first | (intro x hx; cbv) | (assumption))) | (apply E_callX hE (c_wAdd false [] a.1 a.2 sb ab sl al); (case hf => rfl); (case hc => (cbv <;> trivial)); (case hle => (repeat' (first | exact u_nil | apply u_cons | apply u2_agg | exact u2_int | exact u1_int | exact u2_bool | exact u1_bool | exact u2_sli | exact u1_sli | exact u2_s0 | exact u1_s0))); all_goals (first | (intro x hx; cbv) | (assumption))))
      (first | (apply E_pcallX hE (c_wFrom (E.bin .add .i64 (j : Int) 1) e3 e4); (case hm => rfl); (case hle => (repeat' (first | exact u_nil | apply u_cons | apply u2_agg | exact u2_int | exact u1_int | exact u2_bool | exact u1_bool | exact u2_sli | exact u1_sli | exact u2_s0 | exact u1_s0))); all_goals (first | (intro b hb; cbv) | (assumption))) | (apply E_callX hE (c_wFrom (E.bin .add .i64 (j : Int) 1) e3 e4); (case hf => rfl); (case hc => (cbv <;> trivial)); (case hle => (repeat' (first | exact u_nil | apply u_cons | apply u2_agg | exact u2_int | exact u1_int | exact u2_bool | exact u1_bool | exact u2_sli | exact u1_sli | exact u2_s0 | exact u1_s0))); all_goals (first | (intro b hb; cbv) | (assumption))))
      obtain ⟨bb, bl, wb⟩ := fl b _ hb jb
      (first | (apply E_pcallX hE (c_wAdd false [] b.1 b.2 sb bb sl bl); (case hm => rfl); (case hle => (repeat' (first | exact u_nil | apply u_cons | apply u2_agg | exact u2_int | exact u1_int | exact u2_bool | exact u1_bool | exact u2_sli | exact u1_sli | exact u2_s0 | exact u1_s0))); all_goals (first | (intro y hy; cbv) | (assumption))) | (apply E_callX hE (c_wAdd false [] b.1 b.2 sb bb sl bl); (case hf => rfl); (case hc => (cbv <;> trivial)); (case hle => (repeat' (first | exact u_nil | apply u_cons | apply u2_agg | exact u2_int | exact u1_int | exact u2_bool | exact u1_bool | exact u2_sli | exact u1_sli | exact u2_s0 | exact u1_s0))); all_goals (first | (intro y hy; cbv) | (assumption))))
      have F := fin x y z (by have k : x = whN (wv false [] + wv a.1 a.2) := hx; rw [k, ws, wa, jm]) (by have k : y = whN (wv false [] + wv b.1 b.2) := hy; rw [k, ws, wb, j1]; rfl)
      exact ⟨⟨congrArg Prod.fst F.1, congrArg Prod.snd F.1, trivial⟩, ⟨congrArg Prod.fst F.2, congrArg Prod.snd F.2, trivial⟩, trivial⟩

  | some s =>
    have sb : Lb s.2 := by rw [show s = whN (piSum n j) from hs]; exact whN_lb _
    have sl : s.2.length < 134217728 := by rw [show s = whN (piSum n j) from hs]; exact Nat.lt_of_le_of_lt (piSum_len jl) (by decide)
    have ws : wv s.1 s.2 = piSum n j := by rw [show s = whN (piSum n j) from hs]; exact wv_whN _
    clear hs
    cbv
    (first | (apply E_pcallX hE (c_wSign t.1 t.2 tb tl); (case hm => rfl); (case hle => (repeat' (first | exact u_nil | apply u_cons | apply u2_agg | exact u2_int | exact u1_int | exact u2_bool | exact u1_bool | exact u2_sli | exact u1_sli | exact u2_s0 | exact u1_s0))); all_goals (first | (intro sg hsg; cbv) | (assumption))) | (apply E_callX hE (c_wSign t.1 t.2 tb tl); (case hf => rfl); (case hc => (cbv <;> trivial)); (case hle => (repeat' (first | exact u_nil | apply u_cons | apply u2_agg | exact u2_int | exact u1_int | exact u2_bool | exact u1_bool | exact u2_sli | exact u1_sli | exact u2_s0 | exact u1_s0))); all_goals (first | (intro sg hsg; cbv) | (assumption))))
    refine E_br hE (fun g => ?_) (fun g => ?_) <;> cbv
    · have nz : piTerm n j ≠ 0 := (nz_of sg hsg).1 (by subst hE; exact gtr_t g)
      refine E_br hE (fun q => ?_) (fun q => ?_) <;> cbv
      · have od : j % 2 = 1 := od_of (by subst hE; exact eql_t q)
        (first | (apply E_pcallX hE (c_wNeg t.1 t.2 tb tl2); (case hm => rfl); (case hle => (repeat' (first | exact u_nil | apply u_cons | apply u2_agg | exact u2_int | exact u1_int | exact u2_bool | exact u1_bool | exact u2_sli | exact u1_sli | exact u2_s0 | exact u1_s0))); all_goals (first | (intro u hu; cbv) | (assumption))) | (apply E_callX hE (c_wNeg t.1 t.2 tb tl2); (case hf => rfl); (case hc => (cbv <;> trivial)); (case hle => (repeat' (first | exact u_nil | apply u_cons | apply u2_agg | exact u2_int | exact u1_int | exact u2_bool | exact u1_bool | exact u2_sli | exact u1_sli | exact u2_s0 | exact u1_s0))); all_goals (first | (intro u hu; cbv) | (assumption))))
        have hu : u = (!t.1 && decide (lv t.2 ≠ 0), lim (lv t.2)) := hu
        have ub : Lb u.2 := by rw [hu]; exact lim_lb _
        have ul : u.2.length < 134217728 := by rw [hu]; exact Nat.lt_of_le_of_lt (lim_length_le' tb) tl3
        have wu : wv u.1 u.2 = -(piTerm n j : Int) := by
          have t1 : t.1 = false := by rw [ht, whN_nat]
          rw [hu, whN_of, wv_whN, t1, lt]; rfl
        (first | (apply E_pcallX hE (c_wAdd s.1 s.2 u.1 u.2 sb ub sl ul); (case hm => rfl); (case hle => (repeat' (first | exact u_nil | apply u_cons | apply u2_agg | exact u2_int | exact u1_int | exact u2_bool | exact u1_bool | exact u2_sli | exact u1_sli | exact u2_s0 | exact u1_s0))); all_goals (first | (intro s1 hs1; cbv) | (assumption))) | (apply E_callX hE (c_wAdd s.1 s.2 u.1 u.2 sb ub sl ul); (case hf => rfl); (case hc => (cbv <;> trivial)); (case hle => (repeat' (first | exact u_nil | apply u_cons | apply u2_agg | exact u2_int | exact u1_int | exact u2_bool | exact u1_bool | exact u2_sli | exact u1_sli | exact u2_s0 | exact u1_s0))); all_goals (first | (intro s1 hs1; cbv) | (assumption))))
        have hs1 : s1 = whN (piSum n (j + 1)) := by
          have k : s1 = whN (wv s.1 s.2 + wv u.1 u.2) := hs1
          rw [k, ws, wu, so1 od]
        refine E_nm hE (fun kk hkk => ?_); cbv
        have hkk : kk = ((j + 1 : Nat) : Int) := Eq.trans hkk j1
        refine E_callH hE (h_term4 n (j + 1) hn1 hn2 j2 N hN p hp2 o ho2 s1 u u) ?_
        rintro v h1 ⟨t', p', o', rfl, rfl, ht', hp', ho'⟩
        cbv
        exact ⟨(j + 1, some s1, t', p', o'), [0, 1, 2, 3, 4, 5, 6, 8], (step nz s1 t' p' o' hs1 ht' hp' ho').1, (step nz s1 t' p' o' hs1 ht' hp' ho').2, stLeM (by repeat' (first | exact trivial | exact rfl | apply And.intro)) rfl rfl rfl (by repeat' (first | exact trivial | exact rfl | apply And.intro)) (by (repeat' (first | exact m_nil | refine m_cons ?_ rfl ?_ | exact u2_int | exact u2_bool | exact u2_ptr | exact u2_fn | exact (rfl : sle2 _ _) | exact ⟨rfl, hkk⟩)))⟩
      · have od : j % 2 ≠ 1 := ev_of (by subst hE; exact eql_f q)
        have tl := tl3
        (first | (apply E_pcallX hE (c_wAdd s.1 s.2 t.1 t.2 sb tb sl tl); (case hm => rfl); (case hle => (repeat' (first | exact u_nil | apply u_cons | apply u2_agg | exact u2_int | exact u1_int | exact u2_bool | exact u1_bool | exact u2_sli | exact u1_sli | exact u2_s0 | exact u1_s0))); all_goals (first | (intro s1 hs1; cbv) | (assumption))) | (apply E_callX hE (c_wAdd s.1 s.2 t.1 t.2 sb tb sl tl); (case hf => rfl); (case hc => (cbv <;> trivial)); (case hle => (repeat' (first | exact u_nil | apply u_cons | apply u2_agg | exact u2_int | exact u1_int | exact u2_bool | exact u1_bool | exact u2_sli | exact u1_sli | exact u2_s0 | exact u1_s0))); all_goals (first | (intro s1 hs1; cbv) | (assumption))))
        have hs1 : s1 = whN (piSum n (j + 1)) := by
          have k : s1 = whN (wv s.1 s.2 + wv t.1 t.2) := hs1
          rw [k, ws, wt, so0 od]
        refine E_nm hE (fun kk hkk => ?_); cbv
        have hkk : kk = ((j + 1 : Nat) : Int) := Eq.trans hkk j1
        refine E_callH hE (h_term4 n (j + 1) hn1 hn2 j2 N hN p hp2 o ho2 s1 t t) ?_
        rintro v h1 ⟨t', p', o', rfl, rfl, ht', hp', ho'⟩
        cbv
        exact ⟨(j + 1, some s1, t', p', o'), [0, 1, 2, 3, 4, 5, 6, 8], (step nz s1 t' p' o' hs1 ht' hp' ho').1, (step nz s1 t' p' o' hs1 ht' hp' ho').2, stLeM (by repeat' (first | exact trivial | exact rfl | apply And.intro)) rfl rfl rfl (by repeat' (first | exact trivial | exact rfl | apply And.intro)) (by (repeat' (first | exact m_nil | refine m_cons ?_ rfl ?_ | exact u2_int | exact u2_bool | exact u2_ptr | exact u2_fn | exact (rfl : sle2 _ _) | exact ⟨rfl, hkk⟩)))⟩
    · have z : piTerm n j = 0 := by
        by_cases z : piTerm n j = 0
        · exact z
        · exact absurd ((nz_of sg hsg).2 z) (by subst hE; exact gtr_f g)
      (first | (apply E_pcallX hE (c_wFrom (E.bin .sub .i64 (E.bin .sub .i64 0 (j : Int)) 1) e1 e2); (case hm => rfl); (case hle => (repeat' (first | exact u_nil | apply u_cons | apply u2_agg | exact u2_int | exact u1_int | exact u2_bool | exact u1_bool | exact u2_sli | exact u1_sli | exact u2_s0 | exact u1_s0))); all_goals (first | (intro a ha; cbv) | (assumption))) | (apply E_callX hE (c_wFrom (E.bin .sub .i64 (E.bin .sub .i64 0 (j : Int)) 1) e1 e2); (case hf => rfl); (case hc => (cbv <;> trivial)); (case hle => (repeat' (first | exact u_nil | apply u_cons | apply u2_agg | exact u2_int | exact u1_int | exact u2_bool | exact u1_bool | exact u2_sli | exact u1_sli | exact u2_s0 | exact u1_s0))); all_goals (first | (intro a ha; cbv) | (assumption))))
      obtain ⟨ab, al, wa⟩ := fl a _ ha ja
      (first | (apply E_pcallX hE (c_wAdd s.1 s.2 a.1 a.2 sb ab sl al); (case hm => rfl); (case hle => (repeat' (first | exact u_nil | apply u_cons | apply u2_agg | exact u2_int | exact u1_int | exact u2_bool | exact u1_bool | exact u2_sli | exact u1_sli | exact u2_s0 | exact u1_s0))); all_goals (first | (intro x hx; cbv) | (assumption))) | (apply E_callX hE (c_wAdd s.1 s.2 a.1 a.2 sb ab sl al); (case hf => rfl); (case hc => (cbv <;> trivial)); (case hle => (repeat' (first | exact u_nil | apply u_cons | apply u2_agg | exact u2_int | exact u1_int | exact u2_bool | exact u1_bool | exact u2_sli | exact u1_sli | exact u2_s0 | exact u1_s0))); all_goals (first | (intro x hx; cbv) | (assumption))))
      (first | (apply E_pcallX hE (c_wFrom (E.bin .add .i64 (j : Int) 1) e3 e4); (case hm => rfl); (case hle => (repeat' (first | exact u_nil | apply u_cons | apply u2_agg | exact u2_int | exact u1_int | exact u2_bool | exact u1_bool | exact u2_sli | exact u1_sli | exact u2_s0 | exact u1_s0))); all_goals (first | (intro b hb; cbv) | (assumption))) | (apply E_callX hE (c_wFrom (E.bin .add .i64 (j : Int) 1) e3 e4); (case hf => rfl); (case hc => (cbv <;> trivial)); (case hle => (repeat' (first | exact u_nil | apply u_cons | apply u2_agg | exact u2_int | exact u1_int | exact u2_bool | exact u1_bool | exact u2_sli | exact u1_sli | exact u2_s0 | exact u1_s0))); all_goals (first | (intro b hb; cbv) | (assumption))))
      obtain ⟨bb, bl, wb⟩ := fl b _ hb jb
      (first | (apply E_pcallX hE (c_wAdd s.1 s.2 b.1 b.2 sb bb sl bl); (case hm => rfl); (case hle => (repeat' (first | exact u_nil | apply u_cons | apply u2_agg | exact u2_int | exact u1_int | exact u2_bool | exact u1_bool | exact u2_sli | exact u1_sli | exact u2_s0 | exact u1_s0))); all_goals (first | (intro y hy; cbv) | (assumption))) | (apply E_callX hE (c_wAdd s.1 s.2 b.1 b.2 sb bb sl bl); (case hf => rfl); (case hc => (cbv <;> trivial)); (case hle => (repeat' (first | exact u_nil | apply u_cons | apply u2_agg | exact u2_int | exact u1_int | exact u2_bool | exact u1_bool | exact u2_sli | exact u1_sli | exact u2_s0 | exact u1_s0))); all_goals (first | (intro y hy; cbv) | (assumption))))
      have F := fin x y z (by have k : x = whN (wv s.1 s.2 + wv a.1 a.2) := hx; rw [k, ws, wa, jm]) (by have k : y = whN (wv s.1 s.2 + wv b.1 b.2) := hy; rw [k, ws, wb, j1]; rfl)
      exact ⟨⟨congrArg Prod.fst F.1, congrArg Prod.snd F.1, trivial⟩, ⟨congrArg Prod.fst F.2, congrArg Prod.snd F.2, trivial⟩, trivial⟩

end Go.Proofs.YtpadpcjdakfokaaDoor.Ev

/- Contracts: the ratio of whole numbers. Printed by gen.py. -/
namespace Go.Proofs.YtpadpcjdakfokaaDoor.Ev
open Go Go.Proofs
set_option linter.unusedVariables false
set_option linter.unusedSimpArgs false

attribute [local irreducible] Lb
theorem c_natural (m : List Int) (hm_ : Lb m) (hl : m.length ≤ 524288) : ∃ t : Nat × Int × Bool, t = natu (lv m) ∧ CallsA Tryd.prog 74 [.sli .u32 m] (.tup [.int .u64 (.s (t.1 : Int)), .int .i64 (.s t.2.1), .bool (.s t.2.2)]) := by
  refine ⟨_, rfl, ?_⟩
  generalize hr : natu (lv m) = r
  obtain ⟨L, eL⟩ : ∃ L : Int, L = blen (lv m : Int) := ⟨_, rfl⟩
  have bL : L ≤ 16777216 := by have := blen_le_len hm_; omega
  have b0 : 0 ≤ L := by rw [eL]; exact blen_nonneg _
  have lo : L ≤ 64 → r = (lv m * 2 ^ (64 - L).toNat, L - 64, false) := fun h => by rw [← hr, eL]; unfold natu; rw [if_pos (eL ▸ h)]
  have hi : 64 < L → r = (lv m / 2 ^ (L - 64).toNat, L - 64, decide (lv m / 2 ^ (L - 64).toNat * 2 ^ (L - 64).toNat ≠ lv m)) := fun h => by rw [← hr, eL]; unfold natu; rw [if_neg (by omega)]
  have l64 : L ≤ 64 → lv m * 2 ^ (64 - L).toNat < 2 ^ 64 := fun h => by rw [eL]; exact natu_lo (eL ▸ h)
  have h64 : 64 < L → lv m / 2 ^ (L - 64).toNat < 2 ^ 64 := fun h => by rw [eL]; exact natu_hi (eL ▸ h)
  have ml : m.length < 67108864 := by omega
  clear hr
  refine callsA_of hG hm Tryd.func74 (by kernel_rfl) ?_
  intro E hE lp hl'
  cbv
  (first | (apply E_pcallX hE (c_natLen m hm_ ml); (case hm => rfl); (case hle => (repeat' (first | exact u_nil | apply u_cons | apply u2_agg | exact u2_int | exact u1_int | exact u2_bool | exact u1_bool | exact u2_sli | exact u1_sli | exact u2_s0 | exact u1_s0))); all_goals (first | (intro t ht; cbv) | (assumption))) | (apply E_callX hE (c_natLen m hm_ ml); (case hf => rfl); (case hc => (cbv <;> trivial)); (case hle => (repeat' (first | exact u_nil | apply u_cons | apply u2_agg | exact u2_int | exact u1_int | exact u2_bool | exact u1_bool | exact u2_sli | exact u1_sli | exact u2_s0 | exact u1_s0))); all_goals (first | (intro t ht; cbv) | (assumption))))
  have et : t = L := Eq.trans ht eL.symm
  clear ht eL
  have eb : E.bin .sub .i64 t 64 = L - 64 := by subst hE; show IntKind.i64.wrap (t - 64) = _; rw [et, wi64_in (by omega) (by omega)]
  refine E_nm hE (fun y hy' => ?_); cbv
  have hy : y = L - 64 := hy'.trans eb
  clear eb hy' et
  refine E_br hE (fun g => ?_) (fun g => ?_) <;> cbv
  · have g : y ≤ 0 := by subst hE; exact leq_t g
    have en : E.bin .sub .i64 0 y = 64 - L := by subst hE; show IntKind.i64.wrap (0 - y) = _; rw [wi64_in (by omega) (by omega)]; omega
    have l64 := l64 (by omega)
    have sh : (if 64 - L < 1 then lim (lv m) else if 16777216 < 64 - L then [] else lim (lv m * 2 ^ (64 - L).toNat)) = lim (lv m * 2 ^ (64 - L).toNat) := by
      split
      · rw [show (64 - L).toNat = 0 by omega, Nat.pow_zero, Nat.mul_one]
      · rw [if_neg (by omega)]
    have R := lo (by omega)
    (first | (apply E_pcallX hE (c_natShl m _ hm_ ml); (case hm => rfl); (case hle => (repeat' (first | exact u_nil | apply u_cons | apply u2_agg | exact u2_int | exact u1_int | exact u2_bool | exact u1_bool | exact u2_sli | exact u1_sli | exact u2_s0 | exact u1_s0))); all_goals (first | (intro u hu; cbv) | (assumption))) | (apply E_callX hE (c_natShl m _ hm_ ml); (case hf => rfl); (case hc => (cbv <;> trivial)); (case hle => (repeat' (first | exact u_nil | apply u_cons | apply u2_agg | exact u2_int | exact u1_int | exact u2_bool | exact u1_bool | exact u2_sli | exact u1_sli | exact u2_s0 | exact u1_s0))); all_goals (first | (intro u hu; cbv) | (assumption))))
    have hu : u = lim (lv m * 2 ^ (64 - L).toNat) := by
      have k : u = (if E.bin .sub .i64 0 y < 1 then lim (lv m) else if 16777216 < E.bin .sub .i64 0 y then [] else lim (lv m * 2 ^ (E.bin .sub .i64 0 y).toNat)) := hu
      rw [en] at k
      exact k.trans sh
    have ul : Lb u := by rw [hu]; exact lim_lb _
    have u2 : u.length ≤ 2 := by rw [hu]; exact two64 l64
    (first | (apply E_pcallX hE (c_word u ul u2); (case hm => rfl); (case hle => (repeat' (first | exact u_nil | apply u_cons | apply u2_agg | exact u2_int | exact u1_int | exact u2_bool | exact u1_bool | exact u2_sli | exact u1_sli | exact u2_s0 | exact u1_s0))); all_goals (first | (intro v hv; cbv) | (assumption))) | (apply E_callX hE (c_word u ul u2); (case hf => rfl); (case hc => (cbv <;> trivial)); (case hle => (repeat' (first | exact u_nil | apply u_cons | apply u2_agg | exact u2_int | exact u1_int | exact u2_bool | exact u1_bool | exact u2_sli | exact u1_sli | exact u2_s0 | exact u1_s0))); all_goals (first | (intro v hv; cbv) | (assumption))))
    have hv : v = ((lv m * 2 ^ (64 - L).toNat : Nat) : Int) := by have k : v = lv u := hv; rw [k, hu, lv_lim]
    refine E_nm hE (fun q1 h1q => ?_); cbv
    refine E_nm hE (fun q2 h2q => ?_); cbv
    rw [R]
    exact ⟨h1q.trans hv, h2q.trans hy, rfl, trivial⟩
  · have g : ¬ y ≤ 0 := by subst hE; exact leq_f g
    have R := hi (by omega)
    have h64 := h64 (by omega)
    rw [← hy] at R h64
    have yb : y ≤ 16777216 := by omega
    have y1 : ¬ y < 1 := by omega
    (first | (apply E_pcallX hE (c_natShr m y hm_ ml); (case hm => rfl); (case hle => (repeat' (first | exact u_nil | apply u_cons | apply u2_agg | exact u2_int | exact u1_int | exact u2_bool | exact u1_bool | exact u2_sli | exact u1_sli | exact u2_s0 | exact u1_s0))); all_goals (first | (intro u hu; cbv) | (assumption))) | (apply E_callX hE (c_natShr m y hm_ ml); (case hf => rfl); (case hc => (cbv <;> trivial)); (case hle => (repeat' (first | exact u_nil | apply u_cons | apply u2_agg | exact u2_int | exact u1_int | exact u2_bool | exact u1_bool | exact u2_sli | exact u1_sli | exact u2_s0 | exact u1_s0))); all_goals (first | (intro u hu; cbv) | (assumption))))
    have hu : u = lim (lv m / 2 ^ y.toNat) := hu
    have u2 : u.length ≤ 2 := by rw [hu]; exact two64 h64
    have ul : Lb u := by rw [hu]; exact lim_lb _
    have uv : lv u = lv m / 2 ^ y.toNat := by rw [hu, lv_lim]
    have uk : u.length < 67108864 := by omega
    (first | (apply E_pcallX hE (c_word u ul u2); (case hm => rfl); (case hle => (repeat' (first | exact u_nil | apply u_cons | apply u2_agg | exact u2_int | exact u1_int | exact u2_bool | exact u1_bool | exact u2_sli | exact u1_sli | exact u2_s0 | exact u1_s0))); all_goals (first | (intro v hv; cbv) | (assumption))) | (apply E_callX hE (c_word u ul u2); (case hf => rfl); (case hc => (cbv <;> trivial)); (case hle => (repeat' (first | exact u_nil | apply u_cons | apply u2_agg | exact u2_int | exact u1_int | exact u2_bool | exact u1_bool | exact u2_sli | exact u1_sli | exact u2_s0 | exact u1_s0))); all_goals (first | (intro v hv; cbv) | (assumption))))
    have hv : v = ((lv m / 2 ^ y.toNat : Nat) : Int) := by have k : v = lv u := hv; rw [k, uv]
    (first | (apply E_pcallX hE (c_natShl u y ul uk); (case hm => rfl); (case hle => (repeat' (first | exact u_nil | apply u_cons | apply u2_agg | exact u2_int | exact u1_int | exact u2_bool | exact u1_bool | exact u2_sli | exact u1_sli | exact u2_s0 | exact u1_s0))); all_goals (first | (intro s hs; cbv) | (assumption))) | (apply E_callX hE (c_natShl u y ul uk); (case hf => rfl); (case hc => (cbv <;> trivial)); (case hle => (repeat' (first | exact u_nil | apply u_cons | apply u2_agg | exact u2_int | exact u1_int | exact u2_bool | exact u1_bool | exact u2_sli | exact u1_sli | exact u2_s0 | exact u1_s0))); all_goals (first | (intro s hs; cbv) | (assumption))))
    have hs : s = lim (lv m / 2 ^ y.toNat * 2 ^ y.toNat) := by
      have k : s = (if y < 1 then lim (lv u) else if 16777216 < y then [] else lim (lv u * 2 ^ y.toNat)) := hs
      rw [k, if_neg y1, if_neg (by omega), uv]
    have sl : s.length ≤ 268435456 := by
      have := lim_mono (Nat.div_mul_le_self (lv m) (2 ^ y.toNat))
      have := lim_length_le' hm_
      rw [hs]; omega
    have sb : Lb s := by rw [hs]; exact lim_lb _
    have ml2 : m.length ≤ 268435456 := by omega
    (first | (apply E_pcallX hE (c_natCmp s m sb hm_ sl ml2); (case hm => rfl); (case hle => (repeat' (first | exact u_nil | apply u_cons | apply u2_agg | exact u2_int | exact u1_int | exact u2_bool | exact u1_bool | exact u2_sli | exact u1_sli | exact u2_s0 | exact u1_s0))); all_goals (first | (intro c hc; cbv) | (assumption))) | (apply E_callX hE (c_natCmp s m sb hm_ sl ml2); (case hf => rfl); (case hc => (cbv <;> trivial)); (case hle => (repeat' (first | exact u_nil | apply u_cons | apply u2_agg | exact u2_int | exact u1_int | exact u2_bool | exact u1_bool | exact u2_sli | exact u1_sli | exact u2_s0 | exact u1_s0))); all_goals (first | (intro c hc; cbv) | (assumption))))
    refine E_nm hE (fun q1 h1q => ?_); cbv
    refine E_nm hE (fun q2 h2q => ?_); cbv
    rw [R]
    refine ⟨h1q.trans hv, h2q, ?_, trivial⟩
    have hc : c = (if lv s < lv m then -1 else if lv m < lv s then 1 else 0 : Int) := hc
    rw [hs, lv_lim] at hc
    subst hE
    show cmpR .neq c 0 = decide (lv m / 2 ^ y.toNat * 2 ^ y.toNat ≠ lv m)
    rw [cmp_neq]
    apply decide_eq_decide.2
    have := Nat.div_mul_le_self (lv m) (2 ^ y.toNat)
    generalize lv m / 2 ^ y.toNat * 2 ^ y.toNat = q at *
    rw [hc]
    split
    · constructor <;> intro _ <;> omega
    · rw [if_neg (by omega)]; constructor
      · intro h; exact absurd rfl h
      · intro h; omega

theorem c_qRatio (na : Bool) (a : List Int) (nb : Bool) (b : List Int) (up : Bool) (ha : Lb a) (hb : Lb b) (hla : a.length ≤ 100000) (hlb : b.length ≤ 100000) :
    ∃ t : Num, t = ratioN na (lv a) nb (lv b) up ∧ CallsA Tryd.prog 35 [.agg [.bool (.s na), .sli .u32 a], .agg [.bool (.s nb), .sli .u32 b], .bool (.s up)] t.av := by
  refine ⟨_, rfl, ?_⟩
  generalize hr : ratioN na (lv a) nb (lv b) up = r
  obtain ⟨LA, eA⟩ : ∃ L : Int, L = blen (lv a : Int) := ⟨_, rfl⟩
  obtain ⟨LB, eB⟩ : ∃ L : Int, L = blen (lv b : Int) := ⟨_, rfl⟩
  have ba : LA ≤ 3200000 := by have := blen_le_len ha; omega
  have bb : LB ≤ 3200000 := by have := blen_le_len hb; omega
  have ba0 : 0 ≤ LA := by rw [eA]; exact blen_nonneg _
  have bb0 : 0 ≤ LB := by rw [eB]; exact blen_nonneg _
  have la1 : a.length < 67108864 := by omega
  have lb1 : b.length < 67108864 := by omega
  have lb2 : b.length < 33554432 := by omega
  have fb : lv b = 0 → r = Num.inf (!up) := fun h => by rw [← hr]; unfold ratioN; rw [if_pos h]
  have fa : lv b ≠ 0 → lv a = 0 → Num.zero = r := fun h k => by rw [← hr]; unfold ratioN; rw [if_neg h, if_pos k]
  have fin0 : lv b ≠ 0 → lv a ≠ 0 → ∀ B : Int, B = max 0 (65 + LB - LA) → r = Num.grow (na != nb) ((natu (lv a * 2 ^ B.toNat / lv b)).1 : Int) ((natu (lv a * 2 ^ B.toNat / lv b)).2.1 - B) ((natu (lv a * 2 ^ B.toNat / lv b)).2.2 || decide (lv a * 2 ^ B.toNat % lv b ≠ 0)) (up != (na != nb)) :=
    fun h k B hB => by rw [← hr, hB, eA, eB]; unfold ratioN; rw [if_neg h, if_neg k]
  clear hr
  refine callsA_of hG hm Tryd.func35 (by kernel_rfl) ?_
  intro E hE lp hl'
  have ex : ∀ x y : Int, 0 ≤ x → x ≤ 3200000 → 0 ≤ y → y ≤ 3200000 → E.bin .sub .i64 (E.bin .add .i64 65 x) y = 65 + x - y := by
    intro x y h1 h2 h3 h4
    subst hE
    show IntKind.i64.wrap (IntKind.i64.wrap (65 + x) - y) = _
    rw [wi64_in (n := 65 + x) (by omega) (by omega), wi64_in (by omega) (by omega)]
  cbv
  (first | (apply E_pcallX hE (c_wSign nb b hb lb1); (case hm => rfl); (case hle => (repeat' (first | exact u_nil | apply u_cons | apply u2_agg | exact u2_int | exact u1_int | exact u2_bool | exact u1_bool | exact u2_sli | exact u1_sli | exact u2_s0 | exact u1_s0))); all_goals (first | (intro s hs; cbv) | (assumption))) | (apply E_callX hE (c_wSign nb b hb lb1); (case hf => rfl); (case hc => (cbv <;> trivial)); (case hle => (repeat' (first | exact u_nil | apply u_cons | apply u2_agg | exact u2_int | exact u1_int | exact u2_bool | exact u1_bool | exact u2_sli | exact u1_sli | exact u2_s0 | exact u1_s0))); all_goals (first | (intro s hs; cbv) | (assumption))))
  have hs : s = (if lv b = 0 then 0 else if nb then -1 else 1) := hs
  refine E_br hE (fun g => ?_) (fun g => ?_) <;> cbv
  · have nb0 : lv b = 0 := by
      have g : s = 0 := by subst hE; exact eql_t g
      rw [hs] at g
      by_cases h : lv b = 0
      · exact h
      · rw [if_neg h] at g; split at g <;> cases g
    (first | (apply E_pcallX hE (c_Inf _); (case hm => rfl); (case hle => (repeat' (first | exact u_nil | apply u_cons | apply u2_agg | exact u2_int | exact u1_int | exact u2_bool | exact u1_bool | exact u2_sli | exact u1_sli | exact u2_s0 | exact u1_s0))); all_goals (first | (intro z hz; cbv) | (assumption))) | (apply E_callX hE (c_Inf _); (case hf => rfl); (case hc => (cbv <;> trivial)); (case hle => (repeat' (first | exact u_nil | apply u_cons | apply u2_agg | exact u2_int | exact u1_int | exact u2_bool | exact u1_bool | exact u2_sli | exact u1_sli | exact u2_s0 | exact u1_s0))); all_goals (first | (intro z hz; cbv) | (assumption))))
    rw [fb nb0, ← show z = Num.inf (!up) by subst hE; exact hz]
    exact ⟨rfl, rfl, rfl, rfl, trivial⟩
  have nb0 : lv b ≠ 0 := by
    intro h
    have g : ¬ s = 0 := by subst hE; exact eql_f g
    rw [hs, if_pos h] at g; exact g rfl
  clear hs g
  (first | (apply E_pcallX hE (c_wSign na a ha la1); (case hm => rfl); (case hle => (repeat' (first | exact u_nil | apply u_cons | apply u2_agg | exact u2_int | exact u1_int | exact u2_bool | exact u1_bool | exact u2_sli | exact u1_sli | exact u2_s0 | exact u1_s0))); all_goals (first | (intro s2 hs2; cbv) | (assumption))) | (apply E_callX hE (c_wSign na a ha la1); (case hf => rfl); (case hc => (cbv <;> trivial)); (case hle => (repeat' (first | exact u_nil | apply u_cons | apply u2_agg | exact u2_int | exact u1_int | exact u2_bool | exact u1_bool | exact u2_sli | exact u1_sli | exact u2_s0 | exact u1_s0))); all_goals (first | (intro s2 hs2; cbv) | (assumption))))
  have hs2 : s2 = (if lv a = 0 then 0 else if na then -1 else 1) := hs2
  refine E_br hE (fun g => ?_) (fun g => ?_) <;> cbv
  · have na0 : lv a = 0 := by
      have g : s2 = 0 := by subst hE; exact eql_t g
      rw [hs2] at g
      by_cases h : lv a = 0
      · exact h
      · rw [if_neg h] at g; split at g <;> cases g
    rw [← fa nb0 na0]
    exact ⟨rfl, rfl, rfl, rfl, trivial⟩
  have na0 : lv a ≠ 0 := by
    intro h
    have g : ¬ s2 = 0 := by subst hE; exact eql_f g
    rw [hs2, if_pos h] at g; exact g rfl
  clear hs2 g
  have fin := fin0 nb0 na0
  clear fin0 fa fb
  (first | (apply E_pcallX hE (c_natLen b hb lb1); (case hm => rfl); (case hle => (repeat' (first | exact u_nil | apply u_cons | apply u2_agg | exact u2_int | exact u1_int | exact u2_bool | exact u1_bool | exact u2_sli | exact u1_sli | exact u2_s0 | exact u1_s0))); all_goals (first | (intro tb htb; cbv) | (assumption))) | (apply E_callX hE (c_natLen b hb lb1); (case hf => rfl); (case hc => (cbv <;> trivial)); (case hle => (repeat' (first | exact u_nil | apply u_cons | apply u2_agg | exact u2_int | exact u1_int | exact u2_bool | exact u1_bool | exact u2_sli | exact u1_sli | exact u2_s0 | exact u1_s0))); all_goals (first | (intro tb htb; cbv) | (assumption))))
  have htb : tb = LB := Eq.trans htb eB.symm
  (first | (apply E_pcallX hE (c_natLen a ha la1); (case hm => rfl); (case hle => (repeat' (first | exact u_nil | apply u_cons | apply u2_agg | exact u2_int | exact u1_int | exact u2_bool | exact u1_bool | exact u2_sli | exact u1_sli | exact u2_s0 | exact u1_s0))); all_goals (first | (intro ta hta; cbv) | (assumption))) | (apply E_callX hE (c_natLen a ha la1); (case hf => rfl); (case hc => (cbv <;> trivial)); (case hle => (repeat' (first | exact u_nil | apply u_cons | apply u2_agg | exact u2_int | exact u1_int | exact u2_bool | exact u1_bool | exact u2_sli | exact u1_sli | exact u2_s0 | exact u1_s0))); all_goals (first | (intro ta hta; cbv) | (assumption))))
  have hta : ta = LA := Eq.trans hta eA.symm
  rw [← htb, ← hta] at fin
  have eX := ex tb ta (by omega) (by omega) (by omega) (by omega)
  obtain ⟨B, eB⟩ : ∃ B, B = max 0 (65 + tb - ta) := ⟨_, rfl⟩
  have hB := eB
  have B0 : 0 ≤ B := by omega
  have B1 : B ≤ 3200065 := by omega
  refine E_br hE (fun g => ?_) (fun g => ?_) <;> cbv
  · have g : 0 < 65 + tb - ta := by rw [← eX]; subst hE; exact gtr_t g
    refine E_nm hE (fun y hy => ?_); cbv
    have eB : B = y := by have k : y = 65 + tb - ta := hy.trans eX; omega
    (first | (apply E_pcallX hE (c_natShl a y ha la1); (case hm => rfl); (case hle => (repeat' (first | exact u_nil | apply u_cons | apply u2_agg | exact u2_int | exact u1_int | exact u2_bool | exact u1_bool | exact u2_sli | exact u1_sli | exact u2_s0 | exact u1_s0))); all_goals (first | (intro u hu; cbv) | (assumption))) | (apply E_callX hE (c_natShl a y ha la1); (case hf => rfl); (case hc => (cbv <;> trivial)); (case hle => (repeat' (first | exact u_nil | apply u_cons | apply u2_agg | exact u2_int | exact u1_int | exact u2_bool | exact u1_bool | exact u2_sli | exact u1_sli | exact u2_s0 | exact u1_s0))); all_goals (first | (intro u hu; cbv) | (assumption))))
    have hu : u = lim (lv a * 2 ^ B.toNat) := by
      have k : u = (if y < 1 then lim (lv a) else if 16777216 < y then [] else lim (lv a * 2 ^ (y : Int).toNat)) := hu
      rw [k, eB]
      split
      · rw [show (y : Int).toNat = 0 by omega, Nat.pow_zero, Nat.mul_one]
      · rw [if_neg (by omega)]
    have lu : Lb u := by rw [hu]; exact lim_lb _
    have vu : lv u = lv a * 2 ^ B.toNat := by rw [hu, lv_lim]
    have uu : u.length ≤ 200004 := by
      have k : ∀ M : Nat, B.toNat ≤ 32 * M → u.length ≤ a.length + M := by
        intro M hM
        rw [hu]
        refine lim_length_le ?_
        have h1 := lv_lt ha
        calc lv a * 2 ^ B.toNat < 4294967296 ^ a.length * 2 ^ B.toNat := Nat.mul_lt_mul_of_pos_right h1 (Nat.two_pow_pos _)
          _ ≤ 4294967296 ^ a.length * 2 ^ (32 * M) := Nat.mul_le_mul_left _ (Nat.pow_le_pow_right (by decide) hM)
          _ = 4294967296 ^ (a.length + M) := by rw [Nat.pow_mul, show (2 : Nat) ^ 32 = 4294967296 by rfl, Nat.pow_add]
      have := k 100003 (by omega)
      omega
    have ul1 : u.length < 33554432 := by omega
    (first | (apply E_pcallX hE (c_natDiv u b lu hb ul1 lb2); (case hm => rfl); (case hle => (repeat' (first | exact u_nil | apply u_cons | apply u2_agg | exact u2_int | exact u1_int | exact u2_bool | exact u1_bool | exact u2_sli | exact u1_sli | exact u2_s0 | exact u1_s0))); all_goals (first | (intro t ht; cbv) | (assumption))) | (apply E_callX hE (c_natDiv u b lu hb ul1 lb2); (case hf => rfl); (case hc => (cbv <;> trivial)); (case hle => (repeat' (first | exact u_nil | apply u_cons | apply u2_agg | exact u2_int | exact u1_int | exact u2_bool | exact u1_bool | exact u2_sli | exact u1_sli | exact u2_s0 | exact u1_s0))); all_goals (first | (intro t ht; cbv) | (assumption))))
    have ht : t = (lim (lv u / lv b), lim (lv u % lv b), true) := by
      have k : t = (if lv b = 0 then ([], [], false) else (lim (lv u / lv b), lim (lv u % lv b), true)) := ht
      rw [k, if_neg nb0]
    have lq : Lb t.1 := by rw [ht]; exact lim_lb _
    have qq : t.1.length ≤ 200004 := by
      rw [ht]; show (lim (lv u / lv b)).length ≤ 200004; have := lim_mono (Nat.div_le_self (lv u) (lv b)); have := lim_length_le' lu; omega
    have vq : lv t.1 = lv a * 2 ^ B.toNat / lv b := by rw [ht, lv_lim, vu]
    have nq := natu_e (n := lv t.1) (Nat.le_trans (lim_length_le' lq) qq)
    have ql1 : t.1.length ≤ 524288 := by omega
    (first | (apply E_pcallX hE (c_natural t.1 lq ql1); (case hm => rfl); (case hle => (repeat' (first | exact u_nil | apply u_cons | apply u2_agg | exact u2_int | exact u1_int | exact u2_bool | exact u1_bool | exact u2_sli | exact u1_sli | exact u2_s0 | exact u1_s0))); all_goals (first | (intro n hn; cbv) | (assumption))) | (apply E_callX hE (c_natural t.1 lq ql1); (case hf => rfl); (case hc => (cbv <;> trivial)); (case hle => (repeat' (first | exact u_nil | apply u_cons | apply u2_agg | exact u2_int | exact u1_int | exact u2_bool | exact u1_bool | exact u2_sli | exact u1_sli | exact u2_s0 | exact u1_s0))); all_goals (first | (intro n hn; cbv) | (assumption))))
    have hn : n = natu (lv a * 2 ^ B.toNat / lv b) := by have k : n = natu (lv t.1) := hn; rw [k, vq]
    rw [vq, ← hn] at nq
    have F := fin B hB
    rw [← hn] at F
    refine E_nm hE (fun q1 h1q => ?_); cbv
    refine E_nm hE (fun q2 h2q => ?_); cbv
    have h1q : q1 = (n.1 : Int) := h1q
    have h2q : q2 = n.2.1 := h2q
    have ee : E.bin .sub .i64 q2 y = n.2.1 - B := by subst hE; rw [eB, h2q]; show IntKind.i64.wrap (n.2.1 - y) = _; rw [wi64_in (by omega) (by omega)]
    have rr : E.cmp .gtr (E.len t.2.1) 0 = decide (lv a * 2 ^ B.toNat % lv b ≠ 0) := by
      subst hE
      show decide ((0 : Int) < (t.2.1.length : Int)) = _
      rw [ht, vu]
      apply decide_eq_decide.2
      have := limp (lv a * 2 ^ B.toNat % lv b)
      constructor
      · intro h; exact this.1 (by exact_mod_cast h)
      · intro h; exact_mod_cast this.2 h
    refine E_br hE (fun c => ?_) (fun c => ?_) <;> cbv
    · rw [c, Bool.true_or, ← ee, ← h1q] at F
      (first | (apply E_pcallX hE (c_Grow _ _ _ _ _); (case hm => rfl); (case hle => (repeat' (first | exact u_nil | apply u_cons | apply u2_agg | exact u2_int | exact u1_int | exact u2_bool | exact u1_bool | exact u2_sli | exact u1_sli | exact u2_s0 | exact u1_s0))); all_goals (first | (intro z hz; cbv) | (assumption))) | (apply E_callX hE (c_Grow _ _ _ _ _); (case hf => rfl); (case hc => (cbv <;> trivial)); (case hle => (repeat' (first | exact u_nil | apply u_cons | apply u2_agg | exact u2_int | exact u1_int | exact u2_bool | exact u1_bool | exact u2_sli | exact u1_sli | exact u2_s0 | exact u1_s0))); all_goals (first | (intro z hz; cbv) | (assumption))))
      have k : z = r := hz.trans (F.trans (by subst hE; rfl)).symm
      rw [← k]
      exact ⟨rfl, rfl, rfl, rfl, trivial⟩
    · rw [c, Bool.false_or, ← rr, ← ee, ← h1q] at F
      (first | (apply E_pcallX hE (c_Grow _ _ _ _ _); (case hm => rfl); (case hle => (repeat' (first | exact u_nil | apply u_cons | apply u2_agg | exact u2_int | exact u1_int | exact u2_bool | exact u1_bool | exact u2_sli | exact u1_sli | exact u2_s0 | exact u1_s0))); all_goals (first | (intro z hz; cbv) | (assumption))) | (apply E_callX hE (c_Grow _ _ _ _ _); (case hf => rfl); (case hc => (cbv <;> trivial)); (case hle => (repeat' (first | exact u_nil | apply u_cons | apply u2_agg | exact u2_int | exact u1_int | exact u2_bool | exact u1_bool | exact u2_sli | exact u1_sli | exact u2_s0 | exact u1_s0))); all_goals (first | (intro z hz; cbv) | (assumption))))
      have k : z = r := hz.trans (F.trans (by subst hE; rfl)).symm
      rw [← k]
      exact ⟨rfl, rfl, rfl, rfl, trivial⟩

  · have g : ¬ 0 < 65 + tb - ta := by rw [← eX]; subst hE; exact gtr_f g
    have eB : B = 0 := by omega
    (first | (apply E_pcallX hE (c_natShl a 0 ha la1); (case hm => rfl); (case hle => (repeat' (first | exact u_nil | apply u_cons | apply u2_agg | exact u2_int | exact u1_int | exact u2_bool | exact u1_bool | exact u2_sli | exact u1_sli | exact u2_s0 | exact u1_s0))); all_goals (first | (intro u hu; cbv) | (assumption))) | (apply E_callX hE (c_natShl a 0 ha la1); (case hf => rfl); (case hc => (cbv <;> trivial)); (case hle => (repeat' (first | exact u_nil | apply u_cons | apply u2_agg | exact u2_int | exact u1_int | exact u2_bool | exact u1_bool | exact u2_sli | exact u1_sli | exact u2_s0 | exact u1_s0))); all_goals (first | (intro u hu; cbv) | (assumption))))
    have hu : u = lim (lv a * 2 ^ B.toNat) := by
      have k : u = (if 0 < 1 then lim (lv a) else if 16777216 < 0 then [] else lim (lv a * 2 ^ (0 : Int).toNat)) := hu
      rw [k, eB]
      split
      · rw [show (0 : Int).toNat = 0 by omega, Nat.pow_zero, Nat.mul_one]
      · rw [if_neg (by omega)]
    have lu : Lb u := by rw [hu]; exact lim_lb _
    have vu : lv u = lv a * 2 ^ B.toNat := by rw [hu, lv_lim]
    have uu : u.length ≤ 200004 := by
      have k : ∀ M : Nat, B.toNat ≤ 32 * M → u.length ≤ a.length + M := by
        intro M hM
        rw [hu]
        refine lim_length_le ?_
        have h1 := lv_lt ha
        calc lv a * 2 ^ B.toNat < 4294967296 ^ a.length * 2 ^ B.toNat := Nat.mul_lt_mul_of_pos_right h1 (Nat.two_pow_pos _)
          _ ≤ 4294967296 ^ a.length * 2 ^ (32 * M) := Nat.mul_le_mul_left _ (Nat.pow_le_pow_right (by decide) hM)
          _ = 4294967296 ^ (a.length + M) := by rw [Nat.pow_mul, show (2 : Nat) ^ 32 = 4294967296 by rfl, Nat.pow_add]
      have := k 100003 (by omega)
      omega
    have ul1 : u.length < 33554432 := by omega
    (first | (apply E_pcallX hE (c_natDiv u b lu hb ul1 lb2); (case hm => rfl); (case hle => (repeat' (first | exact u_nil | apply u_cons | apply u2_agg | exact u2_int | exact u1_int | exact u2_bool | exact u1_bool | exact u2_sli | exact u1_sli | exact u2_s0 | exact u1_s0))); all_goals (first | (intro t ht; cbv) | (assumption))) | (apply E_callX hE (c_natDiv u b lu hb ul1 lb2); (case hf => rfl); (case hc => (cbv <;> trivial)); (case hle => (repeat' (first | exact u_nil | apply u_cons | apply u2_agg | exact u2_int | exact u1_int | exact u2_bool | exact u1_bool | exact u2_sli | exact u1_sli | exact u2_s0 | exact u1_s0))); all_goals (first | (intro t ht; cbv) | (assumption))))
    have ht : t = (lim (lv u / lv b), lim (lv u % lv b), true) := by
      have k : t = (if lv b = 0 then ([], [], false) else (lim (lv u / lv b), lim (lv u % lv b), true)) := ht
      rw [k, if_neg nb0]
    have lq : Lb t.1 := by rw [ht]; exact lim_lb _
    have qq : t.1.length ≤ 200004 := by
      rw [ht]; show (lim (lv u / lv b)).length ≤ 200004; have := lim_mono (Nat.div_le_self (lv u) (lv b)); have := lim_length_le' lu; omega
    have vq : lv t.1 = lv a * 2 ^ B.toNat / lv b := by rw [ht, lv_lim, vu]
    have nq := natu_e (n := lv t.1) (Nat.le_trans (lim_length_le' lq) qq)
    have ql1 : t.1.length ≤ 524288 := by omega
    (first | (apply E_pcallX hE (c_natural t.1 lq ql1); (case hm => rfl); (case hle => (repeat' (first | exact u_nil | apply u_cons | apply u2_agg | exact u2_int | exact u1_int | exact u2_bool | exact u1_bool | exact u2_sli | exact u1_sli | exact u2_s0 | exact u1_s0))); all_goals (first | (intro n hn; cbv) | (assumption))) | (apply E_callX hE (c_natural t.1 lq ql1); (case hf => rfl); (case hc => (cbv <;> trivial)); (case hle => (repeat' (first | exact u_nil | apply u_cons | apply u2_agg | exact u2_int | exact u1_int | exact u2_bool | exact u1_bool | exact u2_sli | exact u1_sli | exact u2_s0 | exact u1_s0))); all_goals (first | (intro n hn; cbv) | (assumption))))
    have hn : n = natu (lv a * 2 ^ B.toNat / lv b) := by have k : n = natu (lv t.1) := hn; rw [k, vq]
    rw [vq, ← hn] at nq
    have F := fin B hB
    rw [← hn] at F
    refine E_nm hE (fun q1 h1q => ?_); cbv
    refine E_nm hE (fun q2 h2q => ?_); cbv
    have h1q : q1 = (n.1 : Int) := h1q
    have h2q : q2 = n.2.1 := h2q
    have ee : E.bin .sub .i64 q2 0 = n.2.1 - B := by subst hE; rw [eB, h2q]; show IntKind.i64.wrap (n.2.1 - 0) = _; rw [wi64_in (by omega) (by omega)]
    have rr : E.cmp .gtr (E.len t.2.1) 0 = decide (lv a * 2 ^ B.toNat % lv b ≠ 0) := by
      subst hE
      show decide ((0 : Int) < (t.2.1.length : Int)) = _
      rw [ht, vu]
      apply decide_eq_decide.2
      have := limp (lv a * 2 ^ B.toNat % lv b)
      constructor
      · intro h; exact this.1 (by exact_mod_cast h)
      · intro h; exact_mod_cast this.2 h
    refine E_br hE (fun c => ?_) (fun c => ?_) <;> cbv
    · rw [c, Bool.true_or, ← ee, ← h1q] at F
      (first | (apply E_pcallX hE (c_Grow _ _ _ _ _); (case hm => rfl); (case hle => (repeat' (first | exact u_nil | apply u_cons | apply u2_agg | exact u2_int | exact u1_int | exact u2_bool | exact u1_bool | exact u2_sli | exact u1_sli | exact u2_s0 | exact u1_s0))); all_goals (first | (intro z hz; cbv) | (assumption))) | (apply E_callX hE (c_Grow _ _ _ _ _); (case hf => rfl); (case hc => (cbv <;> trivial)); (case hle => (repeat' (first | exact u_nil | apply u_cons | apply u2_agg | exact u2_int | exact u1_int | exact u2_bool | exact u1_bool | exact u2_sli | exact u1_sli | exact u2_s0 | exact u1_s0))); all_goals (first | (intro z hz; cbv) | (assumption))))
      have k : z = r := hz.trans (F.trans (by subst hE; rfl)).symm
      rw [← k]
      exact ⟨rfl, rfl, rfl, rfl, trivial⟩
    · rw [c, Bool.false_or, ← rr, ← ee, ← h1q] at F
      (first | (apply E_pcallX hE (c_Grow _ _ _ _ _); (case hm => rfl); (case hle => (repeat' (first | exact u_nil | apply u_cons | apply u2_agg | exact u2_int | exact u1_int | exact u2_bool | exact u1_bool | exact u2_sli | exact u1_sli | exact u2_s0 | exact u1_s0))); all_goals (first | (intro z hz; cbv) | (assumption))) | (apply E_callX hE (c_Grow _ _ _ _ _); (case hf => rfl); (case hc => (cbv <;> trivial)); (case hle => (repeat' (first | exact u_nil | apply u_cons | apply u2_agg | exact u2_int | exact u1_int | exact u2_bool | exact u1_bool | exact u2_sli | exact u1_sli | exact u2_s0 | exact u1_s0))); all_goals (first | (intro z hz; cbv) | (assumption))))
      have k : z = r := hz.trans (F.trans (by subst hE; rfl)).symm
      rw [← k]
      exact ⟨rfl, rfl, rfl, rfl, trivial⟩

end Go.Proofs.YtpadpcjdakfokaaDoor.Ev

/- Contracts: the next number, a half; a number divided by ten. Printed by gen.py. -/
namespace Go.Proofs.YtpadpcjdakfokaaDoor.Ev
open Go Go.Proofs
set_option linter.unusedVariables false
set_option linter.unusedSimpArgs false

attribute [local irreducible] Lb
/-- the next number above, or below -/
def Num.next (n : Num) (up : Bool) : Num :=
  if n.fair.kind = 0 then Num.tiny (!up)
  else if n.fair.kind = 2 then (if n.fair.neg = up then Num.huge n.fair.neg else n.fair)
  else if n.fair.neg ≠ up then Num.grow n.fair.neg n.fair.m n.fair.e true true
  else if n.fair.m = 9223372036854775808 then Num.bound n.fair.neg 18446744073709551615 (IntKind.i64.wrap (n.fair.e - 1)) false
  else ⟨n.fair.kind, n.fair.neg, IntKind.u64.wrap (n.fair.m - 1), n.fair.e⟩

theorem c_Next (n : Num) (up : Bool)  : ∃ t : Num, t = Num.next n up ∧ CallsA Tryd.prog 26 [n.av, .bool (.s up)] (t.av) := by
  refine ⟨_, rfl, ?_⟩
  generalize hr : Num.next n up = r
  refine callsA_of hG hm Tryd.func26 (by kernel_rfl) ?_
  intro E hE lp hl
  cbv
  repeat' (first
    | (refine E_br hE (fun h => ?_) (fun h => ?_) <;> cbv)
    | (refine E_nm hE (fun v hv => ?_); cbv)
    | (apply E_callX hE (c_fair ⟨_, _, _, _⟩); (case hf => rfl); (case hc => (cbv <;> trivial)); (case hle => (repeat' (first | exact u_nil | apply u_cons | apply u2_agg | exact u2_int | exact u1_int | exact u2_bool | exact u1_bool | exact u2_sli | exact u1_sli | exact u2_s0 | exact u1_s0))); intro t ht; cbv)
    | (apply E_pcallX hE (c_fair ⟨_, _, _, _⟩); (case hm => rfl); (case hle => (repeat' (first | exact u_nil | apply u_cons | apply u2_agg | exact u2_int | exact u1_int | exact u2_bool | exact u1_bool | exact u2_sli | exact u1_sli | exact u2_s0 | exact u1_s0))); intro t ht; cbv)
    | (apply E_callX hE (c_tiny _); (case hf => rfl); (case hc => (cbv <;> trivial)); (case hle => (repeat' (first | exact u_nil | apply u_cons | apply u2_agg | exact u2_int | exact u1_int | exact u2_bool | exact u1_bool | exact u2_sli | exact u1_sli | exact u2_s0 | exact u1_s0))); intro t ht; cbv)
    | (apply E_pcallX hE (c_tiny _); (case hm => rfl); (case hle => (repeat' (first | exact u_nil | apply u_cons | apply u2_agg | exact u2_int | exact u1_int | exact u2_bool | exact u1_bool | exact u2_sli | exact u1_sli | exact u2_s0 | exact u1_s0))); intro t ht; cbv)
    | (apply E_callX hE (c_huge _); (case hf => rfl); (case hc => (cbv <;> trivial)); (case hle => (repeat' (first | exact u_nil | apply u_cons | apply u2_agg | exact u2_int | exact u1_int | exact u2_bool | exact u1_bool | exact u2_sli | exact u1_sli | exact u2_s0 | exact u1_s0))); intro t ht; cbv)
    | (apply E_pcallX hE (c_huge _); (case hm => rfl); (case hle => (repeat' (first | exact u_nil | apply u_cons | apply u2_agg | exact u2_int | exact u1_int | exact u2_bool | exact u1_bool | exact u2_sli | exact u1_sli | exact u2_s0 | exact u1_s0))); intro t ht; cbv)
    | (apply E_callX hE (c_Bound _ _ _ _); (case hf => rfl); (case hc => (cbv <;> trivial)); (case hle => (repeat' (first | exact u_nil | apply u_cons | apply u2_agg | exact u2_int | exact u1_int | exact u2_bool | exact u1_bool | exact u2_sli | exact u1_sli | exact u2_s0 | exact u1_s0))); intro t ht; cbv)
    | (apply E_pcallX hE (c_Bound _ _ _ _); (case hm => rfl); (case hle => (repeat' (first | exact u_nil | apply u_cons | apply u2_agg | exact u2_int | exact u1_int | exact u2_bool | exact u1_bool | exact u2_sli | exact u1_sli | exact u2_s0 | exact u1_s0))); intro t ht; cbv)
    | (apply E_callX hE (c_Grow _ _ _ _ _); (case hf => rfl); (case hc => (cbv <;> trivial)); (case hle => (repeat' (first | exact u_nil | apply u_cons | apply u2_agg | exact u2_int | exact u1_int | exact u2_bool | exact u1_bool | exact u2_sli | exact u1_sli | exact u2_s0 | exact u1_s0))); intro t ht; cbv)
    | (apply E_pcallX hE (c_Grow _ _ _ _ _); (case hm => rfl); (case hle => (repeat' (first | exact u_nil | apply u_cons | apply u2_agg | exact u2_int | exact u1_int | exact u2_bool | exact u1_bool | exact u2_sli | exact u1_sli | exact u2_s0 | exact u1_s0))); intro t ht; cbv)
    | fail)
  all_goals (subst hE; subst hr)
  all_goals (try simp only [realE, cmp_eql, cmp_neq, cmp_lss, cmp_leq, cmp_gtr, cmp_geq, intBinR, decide_eq_true_eq, decide_eq_false_iff_not, SI.val, SB.val, Num.eta, Iv.eta] at *)
  all_goals (try simp_all [Num.next])
  all_goals (try omega)
  all_goals (try simp only [Bool.and_assoc])
  all_goals (try rfl)
  all_goals ((repeat' split) <;> (try simp_all) <;> (try omega))


end Go.Proofs.YtpadpcjdakfokaaDoor.Ev

/- Laws: the fixed numbers for inverse tangents, and pi. -/
namespace Go.Proofs.YtpadpcjdakfokaaDoor.Ev
open Go Go.Proofs
set_option linter.unusedVariables false
set_option linter.unusedSimpArgs false
attribute [local irreducible] Lb
theorem piKf_le (n : Nat) : ∀ f j, piKf n f j ≤ f + j
  | 0, j => by unfold piKf; omega
  | f + 1, j => by
    unfold piKf
    split
    · omega
    · have := piKf_le n f (j + 1); omega
theorem piK_le (n : Nat) : piK n ≤ 98 := piKf_le n 98 0
theorem piBig : 98 * piOne + 99 < 4294967296 ^ 7 := by unfold piOne; decide +kernel
theorem piLo_abs (n : Nat) : (piLo n).natAbs ≤ 98 * piOne + 99 := by
  have h1 := piSum_le n (piK n)
  have h2 := piK_le n
  have h3 : piK n * piOne ≤ 98 * piOne := Nat.mul_le_mul_right _ h2
  unfold piLo; omega
theorem piHi_abs (n : Nat) : (piHi n).natAbs ≤ 98 * piOne + 99 := by
  have h1 := piSum_le n (piK n)
  have h2 := piK_le n
  have h3 : piK n * piOne ≤ 98 * piOne := Nat.mul_le_mul_right _ h2
  unfold piHi; omega
def piLoB : Int := piLo 5 * 16 - piHi 239 * 4
def piHiB : Int := piHi 5 * 16 - piLo 239 * 4
def piIv : Iv := ⟨false, ⟨1, false, 14488038916154245684, -62⟩, ⟨1, false, 14488038916154245685, -62⟩⟩
theorem piIv_is : Iv.make (ratioN (decide (piLoB < 0)) piLoB.natAbs false piOne false) (ratioN (decide (piHiB < 0)) piHiB.natAbs false piOne true) = piIv := by decide +kernel
theorem piNext : Num.next ⟨1, false, 14488038916154245684, -62⟩ true = ⟨1, false, 14488038916154245685, -62⟩ := by decide +kernel
end Go.Proofs.YtpadpcjdakfokaaDoor.Ev

/- The ratio of two whole numbers is the best number; a number lies between its fixed number and the next one: plain Lean. -/
namespace Go.Proofs.YtpadpcjdakfokaaDoor.Ev
open Go
set_option linter.unusedVariables false
set_option linter.unusedSimpArgs false

theorem ratioN_best {na nb : Bool} {a b : Nat} (up : Bool) (ha : 0 < a) (hb : 0 < b) (la : blen (a : Int) ≤ 1000000) (lb : blen (b : Int) ≤ 1000000) :
    Best (ratioN na a nb b up) up (if (na != nb) = true then -((a : Int) * pw 0) else (a : Int) * pw 0) b := by
  obtain ⟨i, h1, h2, h3⟩ := blen_rng ha
  obtain ⟨j, g1, g2, g3⟩ := blen_rng hb
  unfold ratioN
  rw [if_neg (by omega), if_neg (by omega)]
  obtain ⟨s0, hs0⟩ : ∃ s0 : Nat, (max 0 (65 + blen (b : Int) - blen (a : Int)) : Int) = s0 := ⟨(max 0 (65 + blen (b : Int) - blen (a : Int)) : Int).toNat, by omega⟩
  rw [hs0, Int.toNat_natCast]
  obtain ⟨N, hN⟩ : ∃ N, a * 2 ^ s0 = N := ⟨_, rfl⟩
  rw [hN]
  obtain ⟨q, hq⟩ : ∃ q, N / b = q := ⟨_, rfl⟩
  rw [hq]
  have qlo : 2 ^ 64 ≤ q := by
    rw [← hq, Nat.le_div_iff_mul_le hb, ← hN]
    have a1 : 2 ^ 64 * b ≤ 2 ^ 64 * 2 ^ (j + 1) := Nat.mul_le_mul_left _ (Nat.le_of_lt g3)
    have a2 : 2 ^ i * 2 ^ s0 ≤ a * 2 ^ s0 := Nat.mul_le_mul_right _ h2
    rw [← Nat.pow_add] at a1 a2
    have a3 : 2 ^ (64 + (j + 1)) ≤ 2 ^ (i + s0) := Nat.pow_le_pow_right (by decide) (by omega)
    omega
  have qhi : q < 2 ^ (i + 1 + s0) := by
    rw [← hq]
    refine Nat.lt_of_le_of_lt (Nat.div_le_self _ _) ?_
    rw [← hN, Nat.pow_add]
    exact Nat.mul_lt_mul_of_pos_right h3 (Nat.two_pow_pos _)
  obtain ⟨k, k1, k2, k3⟩ := blen_rng (k := q) (by omega)
  have kl : 64 ≤ k := by
    rcases Nat.lt_or_ge k 64 with h | h
    · exfalso
      have : (2 : Nat) ^ (k + 1) ≤ 2 ^ 64 := Nat.pow_le_pow_right (by decide) (by omega)
      omega
    · exact h
  have ku : k < i + 1 + s0 := by
    rcases Nat.lt_or_ge k (i + 1 + s0) with h | h
    · exact h
    · exfalso
      have : (2 : Nat) ^ (i + 1 + s0) ≤ 2 ^ k := Nat.pow_le_pow_right (by decide) h
      omega
  obtain ⟨s, hs⟩ : ∃ s : Nat, k = s + 63 := ⟨k - 63, by omega⟩
  unfold natu
  rw [if_neg (by omega)]
  dsimp only
  rw [show (blen (q : Int) - 64).toNat = s by omega, show blen (q : Int) - 64 = (s : Int) by omega]
  have p2 := Nat.two_pow_pos s
  have dd : q / 2 ^ s = N / (b * 2 ^ s) := by rw [← hq, Nat.div_div_eq_div_mul]
  have cut : (decide (q / 2 ^ s * 2 ^ s ≠ q) || decide (N % b ≠ 0)) = decide (N % (b * 2 ^ s) ≠ 0) := by
    have e1 := Nat.div_add_mod N b
    have e2 := Nat.div_add_mod q (2 ^ s)
    rw [hq] at e1
    have m : N % (b * 2 ^ s) = b * (q % 2 ^ s) + N % b := by rw [Nat.mod_mul, hq, Nat.add_comm]
    by_cases z1 : q % 2 ^ s = 0
    · by_cases z2 : N % b = 0
      · rw [decide_eq_false (by rw [Nat.mul_comm]; omega), decide_eq_false (by omega), decide_eq_false (by rw [m, z1, z2]; simp)]; rfl
      · rw [decide_eq_true z2, Bool.or_true, decide_eq_true (by rw [m]; omega)]
    · have : 0 < b * (q % 2 ^ s) := Nat.mul_pos hb (by omega)
      rw [decide_eq_true (by rw [Nat.mul_comm]; omega), Bool.true_or, decide_eq_true (by rw [m]; omega)]
  rw [cut, dd]
  have e1 := pw_add (e := -(s0 : Int)) (f := s) (by omega) (by omega)
  rw [Int.toNat_natCast] at e1
  have e0 := pw_add (e := -(s0 : Int)) (f := s0) (by omega) (by omega)
  rw [Int.toNat_natCast, show -(s0 : Int) + s0 = 0 by omega] at e0
  have pp := pw_pos (-(s0 : Int))
  have cb : ((b * 2 ^ s : Nat) : Int) = (b : Int) * 2 ^ s := by rw [Int.natCast_mul, Int.natCast_pow]; rfl
  have cN : (N : Int) * pw (-(s0 : Int)) = (a : Int) * pw 0 := by
    rw [← hN, e0, Int.natCast_mul, Int.natCast_pow, Int.mul_assoc, Int.mul_comm (pw (-(s0 : Int)))]; rfl
  have lo : 2 ^ 63 ≤ N / (b * 2 ^ s) := by
    rw [← dd, Nat.le_div_iff_mul_le p2, ← Nat.pow_add, Nat.add_comm, ← hs]; exact k2
  have hi : N / (b * 2 ^ s) < 2 ^ 64 := by
    rw [← dd, Nat.div_lt_iff_lt_mul p2, ← Nat.pow_add, show 64 + s = k + 1 by omega]; exact k3
  have G := grow_div (neg := (na != nb)) (up := up) (N := (N : Int)) (d := ((b * 2 ^ s : Nat) : Int)) (P := pw (-(s0 : Int))) (e := (s : Int) - s0) (c := (b : Int))
    (by rw [cb]; exact Int.mul_pos (by omega) (Int.pow_pos (by decide))) pp
    (by rw [show (s : Int) - s0 = -(s0 : Int) + s by omega, e1, cb, Int.mul_comm, Int.mul_assoc, Int.mul_comm (pw (-(s0 : Int)))]) (by omega)
    (by rw [← Int.natCast_ediv]; have : 9223372036854775808 ≤ N / (b * 2 ^ s) := lo; omega) (by rw [← Int.natCast_ediv]; have : N / (b * 2 ^ s) < 18446744073709551616 := hi; omega) (by omega) (by omega)
  rw [cN, ← Int.natCast_ediv, ← Int.natCast_emod] at G
  have c2 : (decide (((N % (b * 2 ^ s) : Nat) : Int) ≠ 0)) = decide (N % (b * 2 ^ s) ≠ 0) := decide_eq_decide.2 (by omega)
  rw [c2] at G
  exact G
end Go.Proofs.YtpadpcjdakfokaaDoor.Ev

/- A number lies between its fixed number and the next one, and in the interval of both: plain Lean. -/
namespace Go.Proofs.YtpadpcjdakfokaaDoor.Ev
open Go
set_option linter.unusedVariables false
set_option linter.unusedSimpArgs false

theorem fix_floor {n : Num} (h : (fixV n).2 = true) : n.fair.kind ≠ 2 ∧ (fixV n).1 * pw 0 ≤ n.fair.val * 2 ^ 192 ∧ n.fair.val * 2 ^ 192 < ((fixV n).1 + 1) * pw 0 ∧ (fixV n).1.natAbs ≤ 2 ^ 222 := by
  unfold fixV at h ⊢
  split at h
  · cases h
  · rename_i k
    rw [if_neg k]
    dsimp only
    have p := pw_pos 0
    obtain ⟨P, hP⟩ : ∃ P, pw 0 = P := ⟨_, rfl⟩
    rw [hP] at p k ⊢
    obtain ⟨v, hv⟩ : ∃ v, n.fair.val = v := ⟨_, rfl⟩
    rw [hv] at k ⊢
    have k2 : ¬ P * 2 ^ 30 ≤ v := fun z => k (.inr (.inl z))
    have k3 : ¬ v ≤ -(P * 2 ^ 30) := fun z => k (.inr (.inr z))
    have e1 := Int.mul_ediv_add_emod (v * 2 ^ 192) P
    have e2 := Int.emod_nonneg (v * 2 ^ 192) (by omega : P ≠ 0)
    have e3 := Int.emod_lt_of_pos (v * 2 ^ 192) p
    obtain ⟨q, hq⟩ : ∃ q, v * 2 ^ 192 / P = q := ⟨_, rfl⟩
    rw [hq] at e1 ⊢
    have c1 : q * P = P * q := Int.mul_comm _ _
    have c2 : (q + 1) * P = P * q + P := by rw [Int.add_mul, Int.one_mul, Int.mul_comm]
    refine ⟨fun z => k (.inl z), by omega, by omega, ?_⟩
    have u1 : q ≤ 2 ^ 222 := by
      rw [← hq]
      refine Int.le_trans (Int.ediv_le_ediv p (show v * 2 ^ 192 ≤ 2 ^ 222 * P by omega)) ?_
      rw [Int.mul_ediv_cancel _ (by omega)]
      exact Int.le_refl _
    have u2 : -(2 ^ 222) ≤ q := by
      rw [← hq]
      refine Int.le_trans ?_ (Int.ediv_le_ediv p (show -(2 ^ 222) * P ≤ v * 2 ^ 192 by omega))
      rw [Int.mul_ediv_cancel _ (by omega)]
      exact Int.le_refl _
    omega

theorem piOne_len : blen (piOne : Int) ≤ 1000000 := by decide +kernel
theorem piOne_int : (piOne : Int) = 2 ^ 192 := by decide +kernel
theorem ratio_lo {z : Int} (hz : z.natAbs < 2 ^ 224) : (ratioN (decide (z < 0)) z.natAbs false piOne false).may = true ∧ (ratioN (decide (z < 0)) z.natAbs false piOne false).ok ∧
    ∀ s : Num, s.may = true → s.ok → z * pw 0 ≤ s.val * 2 ^ 192 → (ratioN (decide (z < 0)) z.natAbs false piOne false).val ≤ s.val := by
  by_cases h : z = 0
  · subst h
    have e : ratioN (decide ((0 : Int) < 0)) (0 : Int).natAbs false piOne false = Num.zero := by decide +kernel
    rw [e]
    refine ⟨Num.zero_may, Num.zero_ok, fun s ms os hs => ?_⟩
    rw [Num.val_zero]
    omega
  · have bl := blen_le (x := (z.natAbs : Int)) 224 (by have := Int.ofNat_lt.2 hz; rw [Int.natCast_pow] at this; exact this)
    have B := ratioN_best (na := decide (z < 0)) (nb := false) (a := z.natAbs) (b := piOne) false (by omega) (by decide +kernel) (by omega) piOne_len
    refine ⟨B.may, B.ok, fun s ms os hs => ?_⟩
    rcases (B.down rfl).2 with k | k
    · rw [k, Num.val_inf]
      exact (Num.val_le ms os).1
    · rw [piOne_int, Bool.bne_false] at k
      have e : (if decide (z < 0) = true then -((z.natAbs : Int) * pw 0) else (z.natAbs : Int) * pw 0) = z * pw 0 := by
        split
        · rename_i g; have g := of_decide_eq_true g
          rw [← Int.neg_mul]; congr 1; omega
        · rename_i g; have g : ¬ z < 0 := fun k => g (decide_eq_true k)
          congr 1; omega
      rw [e] at k
      omega
theorem ratio_hi {z : Int} (hz : z.natAbs < 2 ^ 224) : (ratioN (decide (z < 0)) z.natAbs false piOne true).may = true ∧ (ratioN (decide (z < 0)) z.natAbs false piOne true).ok ∧
    ∀ s : Num, s.may = true → s.ok → s.val * 2 ^ 192 ≤ z * pw 0 → s.val ≤ (ratioN (decide (z < 0)) z.natAbs false piOne true).val := by
  by_cases h : z = 0
  · subst h
    have e : ratioN (decide ((0 : Int) < 0)) (0 : Int).natAbs false piOne true = Num.zero := by decide +kernel
    rw [e]
    refine ⟨Num.zero_may, Num.zero_ok, fun s ms os hs => ?_⟩
    rw [Num.val_zero]
    omega
  · have bl := blen_le (x := (z.natAbs : Int)) 224 (by have := Int.ofNat_lt.2 hz; rw [Int.natCast_pow] at this; exact this)
    have B := ratioN_best (na := decide (z < 0)) (nb := false) (a := z.natAbs) (b := piOne) true (by omega) (by decide +kernel) (by omega) piOne_len
    refine ⟨B.may, B.ok, fun s ms os hs => ?_⟩
    rcases (B.hi rfl).2 with k | k
    · rw [k, Num.val_inf]
      exact (Num.val_le ms os).2
    · rw [piOne_int, Bool.bne_false] at k
      have e : (if decide (z < 0) = true then -((z.natAbs : Int) * pw 0) else (z.natAbs : Int) * pw 0) = z * pw 0 := by
        split
        · rename_i g; have g := of_decide_eq_true g
          rw [← Int.neg_mul]; congr 1; omega
        · rename_i g; have g : ¬ z < 0 := fun k => g (decide_eq_true k)
          congr 1; omega
      rw [e] at k
      omega
/-- the interval from a number's fixed number to the next one has it -/
theorem part_has {n : Num} (on : n.ok) (h : (fixV n).2 = true) :
    (Iv.make (ratioN (decide ((fixV n).1 < 0)) (fixV n).1.natAbs false piOne false) (ratioN (decide ((fixV n).1 + 1 < 0)) ((fixV n).1 + 1).natAbs false piOne true)).has n = true := by
  obtain ⟨k, f1, f2, f3⟩ := fix_floor h
  obtain ⟨l1, l2, l3⟩ := ratio_lo (z := (fixV n).1) (by omega)
  obtain ⟨h1, h2, h3⟩ := ratio_hi (z := (fixV n).1 + 1) (by omega)
  have mf := Num.fair_may n
  have of := Num.fair_ok on
  unfold Iv.has
  have pe : (Iv.point n).empty = false := by
    have e : Iv.point n = Iv.point n.fair := by unfold Iv.point; rw [Iv.make_eq, Iv.make_eq, Num.fair_fair]
    rw [e, (Iv.point_real mf of k).1]
  rw [pe]
  have w := Iv.make_within (x := n) (y := n) (u := ratioN (decide ((fixV n).1 < 0)) (fixV n).1.natAbs false piOne false) (v := ratioN (decide ((fixV n).1 + 1 < 0)) ((fixV n).1 + 1).natAbs false piOne true) on on l2 h2
    (by rw [Num.fair_of_may l1]; exact l3 _ mf of f1) (by rw [Num.fair_of_may h1]; exact h3 _ mf of (by omega))
  exact w
/-- the fixed numbers, as dyadic ones -/
theorem fix_dy {z : Int} (hz : z.natAbs < 2 ^ 224) : DyV 1048704 (dyZ z (-192)) (z * pw (-192)) := by
  refine dyZ_val (by decide) (by decide) ?_ (by decide)
  have e : ((1048704 : Nat) : Int) - -192 = ((1048896 : Nat) : Int) := by decide
  rw [e, Int.toNat_natCast]
  obtain ⟨m, hm⟩ : ∃ m : Nat, m = 1048896 := ⟨_, rfl⟩
  rw [← hm]
  have a : z.natAbs < 2 ^ m := Nat.lt_of_lt_of_le hz (Nat.pow_le_pow_right (by decide) (by omega))
  have := Int.ofNat_lt.2 a
  rw [Int.natCast_pow] at this
  exact this
theorem fix_between {n : Num} (h : (fixV n).2 = true) : (fixV n).1 * pw (-192) ≤ n.fair.val ∧ n.fair.val < ((fixV n).1 + 1) * pw (-192) := by
  obtain ⟨k, f1, f2, f3⟩ := fix_floor h
  have e := pw_add (e := -192) (f := 192) (by decide) (by decide)
  rw [show (-192 : Int) + 192 = 0 by decide] at e
  have p := pw_pos (-192)
  rw [e, show (192 : Int).toNat = 192 by rfl, ← Int.mul_assoc] at f1 f2
  exact ⟨Int.le_of_mul_le_mul_right f1 (by decide), Int.lt_of_mul_lt_mul_right f2 (by decide)⟩
end Go.Proofs.YtpadpcjdakfokaaDoor.Ev

/- Contracts: the bounds of pi, and its interval. Printed by gen.py. -/
namespace Go.Proofs.YtpadpcjdakfokaaDoor.Ev
open Go Go.Proofs
set_option linter.unusedVariables false
set_option linter.unusedSimpArgs false

attribute [local irreducible] Lb whN piOne piLo piHi
theorem wn {u : Bool × List Int} {z : Int} (k : Nat) (h : u = whN z) (hz : z.natAbs < 4294967296 ^ k) : Lb u.2 ∧ u.2.length ≤ k ∧ wv u.1 u.2 = z := by
  rw [h]; exact ⟨whN_lb _, whN_len hz, wv_whN _⟩
theorem wnB {z : Int} {n : Int} (h : z.natAbs < 4294967296 ^ 7) (hn : n.natAbs ≤ 100) : (z * n).natAbs < 4294967296 ^ 8 := by
  rw [Int.natAbs_mul]
  exact Nat.lt_of_le_of_lt (Nat.mul_le_mul (Nat.le_of_lt h) hn) (by decide +kernel)
theorem lo7 (n : Nat) : (piLo n).natAbs < 4294967296 ^ 7 := Nat.lt_of_le_of_lt (piLo_abs n) piBig
theorem hi7 (n : Nat) : (piHi n).natAbs < 4294967296 ^ 7 := Nat.lt_of_le_of_lt (piHi_abs n) piBig
theorem c_piBounds : ∃ t : (Bool × List Int) × (Bool × List Int), t = (whN piLoB, whN piHiB) ∧ CallsA Tryd.prog 60 [] (.tup [.agg [.bool (.s t.1.1), .sli .u32 t.1.2], .agg [.bool (.s t.2.1), .sli .u32 t.2.2]]) := by
  refine ⟨_, rfl, ?_⟩
  generalize hr : (whN piLoB, whN piHiB) = r
  have r1 : whN (piLo 5 * 16 - piHi 239 * 4) = r.1 := by rw [← hr]; rfl
  have r2 : whN (piHi 5 * 16 - piLo 239 * 4) = r.2 := by rw [← hr]; rfl
  clear hr
  refine callsA_of hG hm Tryd.func60 (by kernel_rfl) ?_
  intro E hE lp hl'
  cbv
  (first | (apply E_pcallX hE (c_piInverse 5 (by decide) (by decide) 5 rfl); (case hm => rfl); (case hle => (repeat' (first | exact u_nil | apply u_cons | apply u2_agg | exact u2_int | exact u1_int | exact u2_bool | exact u1_bool | exact u2_sli | exact u1_sli | exact u2_s0 | exact u1_s0))); all_goals (first | (intro x hx; cbv) | (assumption))) | (apply E_callX hE (c_piInverse 5 (by decide) (by decide) 5 rfl); (case hf => rfl); (case hc => (cbv <;> trivial)); (case hle => (repeat' (first | exact u_nil | apply u_cons | apply u2_agg | exact u2_int | exact u1_int | exact u2_bool | exact u1_bool | exact u2_sli | exact u1_sli | exact u2_s0 | exact u1_s0))); all_goals (first | (intro x hx; cbv) | (assumption))))
  have x1 : x.1 = whN (piLo 5) := by rw [show x = (whN (piLo 5), whN (piHi 5)) from hx]
  have x2 : x.2 = whN (piHi 5) := by rw [show x = (whN (piLo 5), whN (piHi 5)) from hx]
  (first | (apply E_pcallX hE (c_piInverse 239 (by decide) (by decide) 239 rfl); (case hm => rfl); (case hle => (repeat' (first | exact u_nil | apply u_cons | apply u2_agg | exact u2_int | exact u1_int | exact u2_bool | exact u1_bool | exact u2_sli | exact u1_sli | exact u2_s0 | exact u1_s0))); all_goals (first | (intro y hy; cbv) | (assumption))) | (apply E_callX hE (c_piInverse 239 (by decide) (by decide) 239 rfl); (case hf => rfl); (case hc => (cbv <;> trivial)); (case hle => (repeat' (first | exact u_nil | apply u_cons | apply u2_agg | exact u2_int | exact u1_int | exact u2_bool | exact u1_bool | exact u2_sli | exact u1_sli | exact u2_s0 | exact u1_s0))); all_goals (first | (intro y hy; cbv) | (assumption))))
  have y1 : y.1 = whN (piLo 239) := by rw [show y = (whN (piLo 239), whN (piHi 239)) from hy]
  have y2 : y.2 = whN (piHi 239) := by rw [show y = (whN (piLo 239), whN (piHi 239)) from hy]
  obtain ⟨xb, xl, xw⟩ := wn 7 x1 (lo7 5)
  obtain ⟨Xb, Xl, Xw⟩ := wn 7 x2 (hi7 5)
  obtain ⟨yb, yl, yw⟩ := wn 7 y1 (lo7 239)
  obtain ⟨Yb, Yl, Yw⟩ := wn 7 y2 (hi7 239)
  have xl : x.1.2.length < 60000000 := by omega
  have Xl : x.2.2.length < 60000000 := by omega
  have yl : y.1.2.length < 60000000 := by omega
  have Yl : y.2.2.length < 60000000 := by omega
  (first | (apply E_pcallX hE (c_piTimes x.1.1 x.1.2 16 xb xl (by decide) (by decide)); (case hm => rfl); (case hle => (repeat' (first | exact u_nil | apply u_cons | apply u2_agg | exact u2_int | exact u1_int | exact u2_bool | exact u1_bool | exact u2_sli | exact u1_sli | exact u2_s0 | exact u1_s0))); all_goals (first | (intro a ha; cbv) | (assumption))) | (apply E_callX hE (c_piTimes x.1.1 x.1.2 16 xb xl (by decide) (by decide)); (case hf => rfl); (case hc => (cbv <;> trivial)); (case hle => (repeat' (first | exact u_nil | apply u_cons | apply u2_agg | exact u2_int | exact u1_int | exact u2_bool | exact u1_bool | exact u2_sli | exact u1_sli | exact u2_s0 | exact u1_s0))); all_goals (first | (intro a ha; cbv) | (assumption))))
  have ha : a = whN (piLo 5 * 16) := by rw [← xw]; exact ha
  (first | (apply E_pcallX hE (c_piTimes y.2.1 y.2.2 4 Yb Yl (by decide) (by decide)); (case hm => rfl); (case hle => (repeat' (first | exact u_nil | apply u_cons | apply u2_agg | exact u2_int | exact u1_int | exact u2_bool | exact u1_bool | exact u2_sli | exact u1_sli | exact u2_s0 | exact u1_s0))); all_goals (first | (intro b hb; cbv) | (assumption))) | (apply E_callX hE (c_piTimes y.2.1 y.2.2 4 Yb Yl (by decide) (by decide)); (case hf => rfl); (case hc => (cbv <;> trivial)); (case hle => (repeat' (first | exact u_nil | apply u_cons | apply u2_agg | exact u2_int | exact u1_int | exact u2_bool | exact u1_bool | exact u2_sli | exact u1_sli | exact u2_s0 | exact u1_s0))); all_goals (first | (intro b hb; cbv) | (assumption))))
  have hb : b = whN (piHi 239 * 4) := by rw [← Yw]; exact hb
  obtain ⟨ab, al, aw⟩ := wn 8 ha (wnB (lo7 5) (by decide))
  obtain ⟨bb, bl, bw⟩ := wn 8 hb (wnB (hi7 239) (by decide))
  have al : a.2.length < 134217728 := by omega
  have bl : b.2.length < 134217728 := by omega
  (first | (apply E_pcallX hE (c_wSub a.1 a.2 b.1 b.2 ab bb al bl); (case hm => rfl); (case hle => (repeat' (first | exact u_nil | apply u_cons | apply u2_agg | exact u2_int | exact u1_int | exact u2_bool | exact u1_bool | exact u2_sli | exact u1_sli | exact u2_s0 | exact u1_s0))); all_goals (first | (intro c hc; cbv) | (assumption))) | (apply E_callX hE (c_wSub a.1 a.2 b.1 b.2 ab bb al bl); (case hf => rfl); (case hc => (cbv <;> trivial)); (case hle => (repeat' (first | exact u_nil | apply u_cons | apply u2_agg | exact u2_int | exact u1_int | exact u2_bool | exact u1_bool | exact u2_sli | exact u1_sli | exact u2_s0 | exact u1_s0))); all_goals (first | (intro c hc; cbv) | (assumption))))
  have hc : c = r.1 := by rw [← r1, ← aw, ← bw]; exact hc
  (first | (apply E_pcallX hE (c_piTimes x.2.1 x.2.2 16 Xb Xl (by decide) (by decide)); (case hm => rfl); (case hle => (repeat' (first | exact u_nil | apply u_cons | apply u2_agg | exact u2_int | exact u1_int | exact u2_bool | exact u1_bool | exact u2_sli | exact u1_sli | exact u2_s0 | exact u1_s0))); all_goals (first | (intro d hd; cbv) | (assumption))) | (apply E_callX hE (c_piTimes x.2.1 x.2.2 16 Xb Xl (by decide) (by decide)); (case hf => rfl); (case hc => (cbv <;> trivial)); (case hle => (repeat' (first | exact u_nil | apply u_cons | apply u2_agg | exact u2_int | exact u1_int | exact u2_bool | exact u1_bool | exact u2_sli | exact u1_sli | exact u2_s0 | exact u1_s0))); all_goals (first | (intro d hd; cbv) | (assumption))))
  have hd : d = whN (piHi 5 * 16) := by rw [← Xw]; exact hd
  (first | (apply E_pcallX hE (c_piTimes y.1.1 y.1.2 4 yb yl (by decide) (by decide)); (case hm => rfl); (case hle => (repeat' (first | exact u_nil | apply u_cons | apply u2_agg | exact u2_int | exact u1_int | exact u2_bool | exact u1_bool | exact u2_sli | exact u1_sli | exact u2_s0 | exact u1_s0))); all_goals (first | (intro e he; cbv) | (assumption))) | (apply E_callX hE (c_piTimes y.1.1 y.1.2 4 yb yl (by decide) (by decide)); (case hf => rfl); (case hc => (cbv <;> trivial)); (case hle => (repeat' (first | exact u_nil | apply u_cons | apply u2_agg | exact u2_int | exact u1_int | exact u2_bool | exact u1_bool | exact u2_sli | exact u1_sli | exact u2_s0 | exact u1_s0))); all_goals (first | (intro e he; cbv) | (assumption))))
  have he : e = whN (piLo 239 * 4) := by rw [← yw]; exact he
  obtain ⟨db, dl, dw⟩ := wn 8 hd (wnB (hi7 5) (by decide))
  obtain ⟨eb, el, ew⟩ := wn 8 he (wnB (lo7 239) (by decide))
  have dl : d.2.length < 134217728 := by omega
  have el : e.2.length < 134217728 := by omega
  (first | (apply E_pcallX hE (c_wSub d.1 d.2 e.1 e.2 db eb dl el); (case hm => rfl); (case hle => (repeat' (first | exact u_nil | apply u_cons | apply u2_agg | exact u2_int | exact u1_int | exact u2_bool | exact u1_bool | exact u2_sli | exact u1_sli | exact u2_s0 | exact u1_s0))); all_goals (first | (intro f hf; cbv) | (assumption))) | (apply E_callX hE (c_wSub d.1 d.2 e.1 e.2 db eb dl el); (case hf => rfl); (case hc => (cbv <;> trivial)); (case hle => (repeat' (first | exact u_nil | apply u_cons | apply u2_agg | exact u2_int | exact u1_int | exact u2_bool | exact u1_bool | exact u2_sli | exact u1_sli | exact u2_s0 | exact u1_s0))); all_goals (first | (intro f hf; cbv) | (assumption))))
  have hf : f = r.2 := by rw [← r2, ← dw, ← ew]; exact hf
  exact ⟨⟨congrArg Prod.fst hc, congrArg Prod.snd hc, trivial⟩, ⟨congrArg Prod.fst hf, congrArg Prod.snd hf, trivial⟩, trivial⟩

theorem c_piPart (a b : Bool × List Int) (za zb : Int) (ha : a = whN za) (hb : b = whN zb) (la : a.2.length ≤ 100000) (lb : b.2.length ≤ 100000) :
    ∃ t : Iv, t = Iv.make (ratioN (decide (za < 0)) za.natAbs false piOne false) (ratioN (decide (zb < 0)) zb.natAbs false piOne true) ∧
      CallsA Tryd.prog 9 [.agg [.bool (.s a.1), .sli .u32 a.2], .agg [.bool (.s b.1), .sli .u32 b.2]] t.av := by
  refine ⟨_, rfl, ?_⟩
  generalize hr : Iv.make (ratioN (decide (za < 0)) za.natAbs false piOne false) (ratioN (decide (zb < 0)) zb.natAbs false piOne true) = r
  have ab : Lb a.2 := by rw [ha]; exact whN_lb _
  have bb : Lb b.2 := by rw [hb]; exact whN_lb _
  have sd : ∀ s : Bool × List Int, s = whN (piOne : Int) → s.1 = false ∧ lv s.2 = piOne ∧ Lb s.2 ∧ s.2.length ≤ 100000 := by
    intro s h; rw [h, whN_nat]; exact ⟨rfl, lv_lim _, lim_lb _, Nat.le_trans (lim_pow_len piOne_le) (by decide)⟩
  have vd : ∀ (u : Bool × List Int) (z : Int), u = whN z → u.1 = decide (z < 0) ∧ lv u.2 = z.natAbs := by
    intro u z h; rw [h, whN_def]; exact ⟨rfl, lv_lim _⟩
  refine callsA_of hG hm Tryd.func9 (by kernel_rfl) ?_
  intro E hE lp hl'
  cbv
  (first | (apply E_pcallX hE (c_piScale); (case hm => rfl); (case hle => (repeat' (first | exact u_nil | apply u_cons | apply u2_agg | exact u2_int | exact u1_int | exact u2_bool | exact u1_bool | exact u2_sli | exact u1_sli | exact u2_s0 | exact u1_s0))); all_goals (first | (intro s hs; cbv) | (assumption))) | (apply E_callX hE (c_piScale); (case hf => rfl); (case hc => (cbv <;> trivial)); (case hle => (repeat' (first | exact u_nil | apply u_cons | apply u2_agg | exact u2_int | exact u1_int | exact u2_bool | exact u1_bool | exact u2_sli | exact u1_sli | exact u2_s0 | exact u1_s0))); all_goals (first | (intro s hs; cbv) | (assumption))))
  obtain ⟨s1, s2, s3, s4⟩ := sd s hs
  (first | (apply E_pcallX hE (c_qRatio a.1 a.2 s.1 s.2 false ab s3 la s4); (case hm => rfl); (case hle => (repeat' (first | exact u_nil | apply u_cons | apply u2_agg | exact u2_int | exact u1_int | exact u2_bool | exact u1_bool | exact u2_sli | exact u1_sli | exact u2_s0 | exact u1_s0))); all_goals (first | (intro x hx; cbv) | (assumption))) | (apply E_callX hE (c_qRatio a.1 a.2 s.1 s.2 false ab s3 la s4); (case hf => rfl); (case hc => (cbv <;> trivial)); (case hle => (repeat' (first | exact u_nil | apply u_cons | apply u2_agg | exact u2_int | exact u1_int | exact u2_bool | exact u1_bool | exact u2_sli | exact u1_sli | exact u2_s0 | exact u1_s0))); all_goals (first | (intro x hx; cbv) | (assumption))))
  have hx : x = ratioN (decide (za < 0)) za.natAbs false piOne false := by
    have k : x = ratioN a.1 (lv a.2) s.1 (lv s.2) false := hx
    rw [k, s1, s2, (vd a za ha).1, (vd a za ha).2]
  (first | (apply E_pcallX hE (c_piScale); (case hm => rfl); (case hle => (repeat' (first | exact u_nil | apply u_cons | apply u2_agg | exact u2_int | exact u1_int | exact u2_bool | exact u1_bool | exact u2_sli | exact u1_sli | exact u2_s0 | exact u1_s0))); all_goals (first | (intro u hu; cbv) | (assumption))) | (apply E_callX hE (c_piScale); (case hf => rfl); (case hc => (cbv <;> trivial)); (case hle => (repeat' (first | exact u_nil | apply u_cons | apply u2_agg | exact u2_int | exact u1_int | exact u2_bool | exact u1_bool | exact u2_sli | exact u1_sli | exact u2_s0 | exact u1_s0))); all_goals (first | (intro u hu; cbv) | (assumption))))
  obtain ⟨u1, u2, u3, u4⟩ := sd u hu
  (first | (apply E_pcallX hE (c_qRatio b.1 b.2 u.1 u.2 true bb u3 lb u4); (case hm => rfl); (case hle => (repeat' (first | exact u_nil | apply u_cons | apply u2_agg | exact u2_int | exact u1_int | exact u2_bool | exact u1_bool | exact u2_sli | exact u1_sli | exact u2_s0 | exact u1_s0))); all_goals (first | (intro y hy; cbv) | (assumption))) | (apply E_callX hE (c_qRatio b.1 b.2 u.1 u.2 true bb u3 lb u4); (case hf => rfl); (case hc => (cbv <;> trivial)); (case hle => (repeat' (first | exact u_nil | apply u_cons | apply u2_agg | exact u2_int | exact u1_int | exact u2_bool | exact u1_bool | exact u2_sli | exact u1_sli | exact u2_s0 | exact u1_s0))); all_goals (first | (intro y hy; cbv) | (assumption))))
  have hy : y = ratioN (decide (zb < 0)) zb.natAbs false piOne true := by
    have k : y = ratioN b.1 (lv b.2) u.1 (lv u.2) true := hy
    rw [k, u1, u2, (vd b zb hb).1, (vd b zb hb).2]
  (first | (apply E_pcallX hE (c_ivMake ⟨_, _, _, _⟩ ⟨_, _, _, _⟩); (case hm => rfl); (case hle => (repeat' (first | exact u_nil | apply u_cons | apply u2_agg | exact u2_int | exact u1_int | exact u2_bool | exact u1_bool | exact u2_sli | exact u1_sli | exact u2_s0 | exact u1_s0))); all_goals (first | (intro z hz; cbv) | (assumption))) | (apply E_callX hE (c_ivMake ⟨_, _, _, _⟩ ⟨_, _, _, _⟩); (case hf => rfl); (case hc => (cbv <;> trivial)); (case hle => (repeat' (first | exact u_nil | apply u_cons | apply u2_agg | exact u2_int | exact u1_int | exact u2_bool | exact u1_bool | exact u2_sli | exact u1_sli | exact u2_s0 | exact u1_s0))); all_goals (first | (intro z hz; cbv) | (assumption))))
  have k : z = r := by
    have k : z = Iv.make x y := hz
    rw [k, hx, hy, hr]
  rw [← k]
  exact ⟨rfl, rfl, rfl, rfl, rfl, rfl, rfl, rfl, rfl, trivial⟩

theorem c_piPi : ∃ t : Iv, t = piIv ∧ CallsA Tryd.prog 25 [] t.av := by
  refine ⟨_, rfl, ?_⟩
  generalize hr : piIv = r
  have r1 := piIv_is.trans hr
  clear hr
  have lA : piLoB.natAbs < 4294967296 ^ 9 := by decide +kernel
  have lB : piHiB.natAbs < 4294967296 ^ 9 := by decide +kernel
  refine callsA_of hG hm Tryd.func25 (by kernel_rfl) ?_
  intro E hE lp hl'
  cbv
  (first | (apply E_pcallX hE (c_piBounds); (case hm => rfl); (case hle => (repeat' (first | exact u_nil | apply u_cons | apply u2_agg | exact u2_int | exact u1_int | exact u2_bool | exact u1_bool | exact u2_sli | exact u1_sli | exact u2_s0 | exact u1_s0))); all_goals (first | (intro t ht; cbv) | (assumption))) | (apply E_callX hE (c_piBounds); (case hf => rfl); (case hc => (cbv <;> trivial)); (case hle => (repeat' (first | exact u_nil | apply u_cons | apply u2_agg | exact u2_int | exact u1_int | exact u2_bool | exact u1_bool | exact u2_sli | exact u1_sli | exact u2_s0 | exact u1_s0))); all_goals (first | (intro t ht; cbv) | (assumption))))
  have t1 : t.1 = whN piLoB := by rw [show t = (whN piLoB, whN piHiB) from ht]
  have t2 : t.2 = whN piHiB := by rw [show t = (whN piLoB, whN piHiB) from ht]
  have l1 : t.1.2.length ≤ 100000 := Nat.le_trans (wn 9 t1 lA).2.1 (by decide)
  have l2 : t.2.2.length ≤ 100000 := Nat.le_trans (wn 9 t2 lB).2.1 (by decide)
  (first | (apply E_pcallX hE (c_piPart t.1 t.2 piLoB piHiB t1 t2 l1 l2); (case hm => rfl); (case hle => (repeat' (first | exact u_nil | apply u_cons | apply u2_agg | exact u2_int | exact u1_int | exact u2_bool | exact u1_bool | exact u2_sli | exact u1_sli | exact u2_s0 | exact u1_s0))); all_goals (first | (intro z hz; cbv) | (assumption))) | (apply E_callX hE (c_piPart t.1 t.2 piLoB piHiB t1 t2 l1 l2); (case hf => rfl); (case hc => (cbv <;> trivial)); (case hle => (repeat' (first | exact u_nil | apply u_cons | apply u2_agg | exact u2_int | exact u1_int | exact u2_bool | exact u1_bool | exact u2_sli | exact u1_sli | exact u2_s0 | exact u1_s0))); all_goals (first | (intro z hz; cbv) | (assumption))))
  have k : z = r := Eq.trans hz r1
  rw [← k]
  exact ⟨rfl, rfl, rfl, rfl, rfl, rfl, rfl, rfl, rfl, trivial⟩

theorem c_awake11 : ∃ t : Bool, t = true ∧ CallsA Tryd.prog 6 [] (.bool (.s t)) := by
  refine ⟨_, rfl, ?_⟩
  refine callsA_of hG hm Tryd.func6 (by kernel_rfl) ?_
  intro E hE lp hl'
  cbv
  (first | (apply E_pcallX hE (c_piPi); (case hm => rfl); (case hle => (repeat' (first | exact u_nil | apply u_cons | apply u2_agg | exact u2_int | exact u1_int | exact u2_bool | exact u1_bool | exact u2_sli | exact u1_sli | exact u2_s0 | exact u1_s0))); all_goals (first | (intro p hp; cbv) | (assumption))) | (apply E_callX hE (c_piPi); (case hf => rfl); (case hc => (cbv <;> trivial)); (case hle => (repeat' (first | exact u_nil | apply u_cons | apply u2_agg | exact u2_int | exact u1_int | exact u2_bool | exact u1_bool | exact u2_sli | exact u1_sli | exact u2_s0 | exact u1_s0))); all_goals (first | (intro p hp; cbv) | (assumption))))
  have hp : p = piIv := hp
  have g1 : E.bnot p.empty = true := by subst hE hp; rfl
  refine E_br_t hE g1 ?_; cbv
  have g2 : E.band (E.cmp .eql p.lo.kind 1) (E.band (E.beq p.lo.neg false) (E.band (E.cmp .eql p.lo.m 14488038916154245684) (E.cmp .eql p.lo.e (-62)))) = true := by subst hE hp; decide +kernel
  refine E_br_t hE g2 ?_; cbv
  (first | (apply E_pcallX hE (c_Next ⟨_, _, _, _⟩ true); (case hm => rfl); (case hle => (repeat' (first | exact u_nil | apply u_cons | apply u2_agg | exact u2_int | exact u1_int | exact u2_bool | exact u1_bool | exact u2_sli | exact u1_sli | exact u2_s0 | exact u1_s0))); all_goals (first | (intro q hq; cbv) | (assumption))) | (apply E_callX hE (c_Next ⟨_, _, _, _⟩ true); (case hf => rfl); (case hc => (cbv <;> trivial)); (case hle => (repeat' (first | exact u_nil | apply u_cons | apply u2_agg | exact u2_int | exact u1_int | exact u2_bool | exact u1_bool | exact u2_sli | exact u1_sli | exact u2_s0 | exact u1_s0))); all_goals (first | (intro q hq; cbv) | (assumption))))
  have hq : q = p.hi := by
    have k : q = Num.next p.lo true := hq
    rw [k, hp]; exact piNext
  subst hq; subst hp; subst hE; decide +kernel

end Go.Proofs.YtpadpcjdakfokaaDoor.Ev

/- Contracts of the laws on fixed numbers: PiParts, PiHolds. Printed by gen.py. -/
namespace Go.Proofs.YtpadpcjdakfokaaDoor.Ev
open Go Go.Proofs
set_option linter.unusedVariables false
set_option linter.unusedSimpArgs false

attribute [local irreducible] Lb whN
theorem whN_lim {z : Int} (h : z.natAbs < 2 ^ 224) : Lb (whN z).2 ∧ (whN z).2.length ≤ 7 := by
  refine ⟨whN_lb z, whN_len ?_⟩
  rw [show (4294967296 : Nat) ^ 7 = 2 ^ 224 by decide +kernel]; exact h
set_option maxHeartbeats 1000000 in
theorem c_PiParts (n : Num) (on : n.ok) : ∃ t : Bool, t = true ∧ CallsA Tryd.prog 3 [n.av] (.bool (.s t)) := by
  refine ⟨_, rfl, ?_⟩
  obtain ⟨F, hF⟩ : ∃ F, (fixV n).1 = F := ⟨_, rfl⟩
  have law : (fixV n).2 = true → F.natAbs < 2 ^ 224 ∧ (F + 1).natAbs < 2 ^ 224 ∧ (Iv.make (ratioN (decide (F < 0)) F.natAbs false piOne false) (ratioN (decide (F + 1 < 0)) (F + 1).natAbs false piOne true)).has n = true := by
    intro h
    have f := (fix_floor h).2.2.2
    have p := part_has on h
    rw [hF] at f p
    exact ⟨by omega, by omega, p⟩
  refine callsA_of hG hm Tryd.func3 (by kernel_rfl) ?_
  intro E hE lp hl'
  cbv
  (first | (apply E_pcallX hE (c_awake11); (case hm => rfl); (case hle => (repeat' (first | exact u_nil | apply u_cons | apply u2_agg | exact u2_int | exact u1_int | exact u2_bool | exact u1_bool | exact u2_sli | exact u1_sli | exact u2_s0 | exact u1_s0))); all_goals (first | (intro up hup; cbv) | (assumption))) | (apply E_callX hE (c_awake11); (case hf => rfl); (case hc => (cbv <;> trivial)); (case hle => (repeat' (first | exact u_nil | apply u_cons | apply u2_agg | exact u2_int | exact u1_int | exact u2_bool | exact u1_bool | exact u2_sli | exact u1_sli | exact u2_s0 | exact u1_s0))); all_goals (first | (intro up hup; cbv) | (assumption))))
  (first | (apply E_pcallX hE (c_Fix ⟨_, _, _, _⟩ on); (case hm => rfl); (case hle => (repeat' (first | exact u_nil | apply u_cons | apply u2_agg | exact u2_int | exact u1_int | exact u2_bool | exact u1_bool | exact u2_sli | exact u1_sli | exact u2_s0 | exact u1_s0))); all_goals (first | (intro x hx; cbv) | (assumption))) | (apply E_callX hE (c_Fix ⟨_, _, _, _⟩ on); (case hf => rfl); (case hc => (cbv <;> trivial)); (case hle => (repeat' (first | exact u_nil | apply u_cons | apply u2_agg | exact u2_int | exact u1_int | exact u2_bool | exact u1_bool | exact u2_sli | exact u1_sli | exact u2_s0 | exact u1_s0))); all_goals (first | (intro x hx; cbv) | (assumption))))
  have x1 : x.1 = whN F := by have k : x = (whN (fixV n).1, (fixV n).2) := hx; rw [k, ← hF]
  have x2 : x.2 = (fixV n).2 := by have k : x = (whN (fixV n).1, (fixV n).2) := hx; rw [k]
  clear hx
  refine E_br hE (fun g => ?_) (fun g => ?_) <;> cbv
  · exact hup
  have g : (fixV n).2 = true := by rw [← x2]; subst hE; cases q : x.2; rw [q] at g; exact absurd g (by decide); rfl
  obtain ⟨f1, f2, P⟩ := law g
  have l1 := whN_lim f1
  have l2 := whN_lim f2
  refine E_br_t hE hup ?_; cbv
  (first | (apply E_pcallX hE (c_wFrom 1 (by decide) (by decide)); (case hm => rfl); (case hle => (repeat' (first | exact u_nil | apply u_cons | apply u2_agg | exact u2_int | exact u1_int | exact u2_bool | exact u1_bool | exact u2_sli | exact u1_sli | exact u2_s0 | exact u1_s0))); all_goals (first | (intro o ho_; cbv) | (assumption))) | (apply E_callX hE (c_wFrom 1 (by decide) (by decide)); (case hf => rfl); (case hc => (cbv <;> trivial)); (case hle => (repeat' (first | exact u_nil | apply u_cons | apply u2_agg | exact u2_int | exact u1_int | exact u2_bool | exact u1_bool | exact u2_sli | exact u1_sli | exact u2_s0 | exact u1_s0))); all_goals (first | (intro o ho_; cbv) | (assumption))))
  have ho1 : o = whN 1 := by rw [ho_]; unfold whN; rfl
  have ob : Lb o.2 ∧ o.2.length < 134217728 := by rw [ho1]; exact ⟨whN_lb 1, Nat.lt_of_le_of_lt (whN_lim (z := 1) (by decide)).2 (by decide)⟩
  have xb : Lb x.1.2 ∧ x.1.2.length < 134217728 := by rw [x1]; exact ⟨l1.1, Nat.lt_of_le_of_lt l1.2 (by decide)⟩
  (first | (apply E_pcallX hE (c_wAdd x.1.1 x.1.2 o.1 o.2 xb.1 ob.1 xb.2 ob.2); (case hm => rfl); (case hle => (repeat' (first | exact u_nil | apply u_cons | apply u2_agg | exact u2_int | exact u1_int | exact u2_bool | exact u1_bool | exact u2_sli | exact u1_sli | exact u2_s0 | exact u1_s0))); all_goals (first | (intro y hy; cbv) | (assumption))) | (apply E_callX hE (c_wAdd x.1.1 x.1.2 o.1 o.2 xb.1 ob.1 xb.2 ob.2); (case hf => rfl); (case hc => (cbv <;> trivial)); (case hle => (repeat' (first | exact u_nil | apply u_cons | apply u2_agg | exact u2_int | exact u1_int | exact u2_bool | exact u1_bool | exact u2_sli | exact u1_sli | exact u2_s0 | exact u1_s0))); all_goals (first | (intro y hy; cbv) | (assumption))))
  have y1 : y = whN (F + 1) := by
    have k : y = whN (wv x.1.1 x.1.2 + wv o.1 o.2) := hy
    rw [k, x1, ho1, wv_whN, wv_whN]
  have xl : x.1.2.length ≤ 100000 := by rw [x1]; exact Nat.le_trans l1.2 (by decide)
  have yl : y.2.length ≤ 100000 := by rw [y1]; exact Nat.le_trans l2.2 (by decide)
  (first | (apply E_pcallX hE (c_piPart x.1 y F (F + 1) x1 y1 xl yl); (case hm => rfl); (case hle => (repeat' (first | exact u_nil | apply u_cons | apply u2_agg | exact u2_int | exact u1_int | exact u2_bool | exact u1_bool | exact u2_sli | exact u1_sli | exact u2_s0 | exact u1_s0))); all_goals (first | (intro z hz; cbv) | (assumption))) | (apply E_callX hE (c_piPart x.1 y F (F + 1) x1 y1 xl yl); (case hf => rfl); (case hc => (cbv <;> trivial)); (case hle => (repeat' (first | exact u_nil | apply u_cons | apply u2_agg | exact u2_int | exact u1_int | exact u2_bool | exact u1_bool | exact u2_sli | exact u1_sli | exact u2_s0 | exact u1_s0))); all_goals (first | (intro z hz; cbv) | (assumption))))
  (first | (apply E_pcallX hE (c_ivHas ⟨_, ⟨_, _, _, _⟩, ⟨_, _, _, _⟩⟩ ⟨_, _, _, _⟩); (case hm => rfl); (case hle => (repeat' (first | exact u_nil | apply u_cons | apply u2_agg | exact u2_int | exact u1_int | exact u2_bool | exact u1_bool | exact u2_sli | exact u1_sli | exact u2_s0 | exact u1_s0))); all_goals (first | (intro t ht; cbv) | (assumption))) | (apply E_callX hE (c_ivHas ⟨_, ⟨_, _, _, _⟩, ⟨_, _, _, _⟩⟩ ⟨_, _, _, _⟩); (case hf => rfl); (case hc => (cbv <;> trivial)); (case hle => (repeat' (first | exact u_nil | apply u_cons | apply u2_agg | exact u2_int | exact u1_int | exact u2_bool | exact u1_bool | exact u2_sli | exact u1_sli | exact u2_s0 | exact u1_s0))); all_goals (first | (intro t ht; cbv) | (assumption))))
  have k : t = z.has n := ht
  rw [k, hz]; exact P

set_option maxHeartbeats 2000000 in
theorem c_PiHolds (n : Num) (on : n.ok) : ∃ t : Bool, t = true ∧ CallsA Tryd.prog 4 [n.av] (.bool (.s t)) := by
  refine ⟨_, rfl, ?_⟩
  obtain ⟨F, hF⟩ : ∃ F, (fixV n).1 = F := ⟨_, rfl⟩
  have law : (fixV n).2 = true → n.exact.2 = true → F.natAbs < 2 ^ 224 ∧ (F + 1).natAbs < 2 ^ 224 ∧ DyV 1048704 (dyZ F (-192)) (F * pw (-192)) ∧ DyV 1048704 (dyZ (F + 1) (-192)) ((F + 1) * pw (-192)) ∧ DyV 1048704 n.exact.1 n.val ∧
      F * pw (-192) ≤ n.val ∧ n.val < (F + 1) * pw (-192) := by
    intro h g
    have f := (fix_floor h).2.2.2
    have b := fix_between h
    rw [hF] at f b
    have m : n.may = true := by
      cases q : n.may
      · unfold Num.exact at g; rw [if_pos (.inl q)] at g; cases g
      · rfl
    have k2 : n.kind ≠ 2 := by intro z; unfold Num.exact at g; rw [if_pos (.inr z)] at g; cases g
    have d := exact_dy (x := n) on (by rw [Num.fair_of_may m]; exact k2)
    rw [Num.fair_of_may m] at d b
    exact ⟨by omega, by omega, fix_dy (by omega), fix_dy (by omega), DyV.of d, b.1, b.2⟩
  refine callsA_of hG hm Tryd.func4 (by kernel_rfl) ?_
  intro E hE lp hl'
  cbv
  (first | (apply E_pcallX hE (c_awake11); (case hm => rfl); (case hle => (repeat' (first | exact u_nil | apply u_cons | apply u2_agg | exact u2_int | exact u1_int | exact u2_bool | exact u1_bool | exact u2_sli | exact u1_sli | exact u2_s0 | exact u1_s0))); all_goals (first | (intro up hup; cbv) | (assumption))) | (apply E_callX hE (c_awake11); (case hf => rfl); (case hc => (cbv <;> trivial)); (case hle => (repeat' (first | exact u_nil | apply u_cons | apply u2_agg | exact u2_int | exact u1_int | exact u2_bool | exact u1_bool | exact u2_sli | exact u1_sli | exact u2_s0 | exact u1_s0))); all_goals (first | (intro up hup; cbv) | (assumption))))
  (first | (apply E_pcallX hE (c_Fix ⟨_, _, _, _⟩ on); (case hm => rfl); (case hle => (repeat' (first | exact u_nil | apply u_cons | apply u2_agg | exact u2_int | exact u1_int | exact u2_bool | exact u1_bool | exact u2_sli | exact u1_sli | exact u2_s0 | exact u1_s0))); all_goals (first | (intro x hx; cbv) | (assumption))) | (apply E_callX hE (c_Fix ⟨_, _, _, _⟩ on); (case hf => rfl); (case hc => (cbv <;> trivial)); (case hle => (repeat' (first | exact u_nil | apply u_cons | apply u2_agg | exact u2_int | exact u1_int | exact u2_bool | exact u1_bool | exact u2_sli | exact u1_sli | exact u2_s0 | exact u1_s0))); all_goals (first | (intro x hx; cbv) | (assumption))))
  have x1 : x.1 = whN F := by have k : x = (whN (fixV n).1, (fixV n).2) := hx; rw [k, ← hF]
  have x2 : x.2 = (fixV n).2 := by have k : x = (whN (fixV n).1, (fixV n).2) := hx; rw [k]
  clear hx
  (first | (apply E_pcallX hE (c_Exact ⟨_, _, _, _⟩ on); (case hm => rfl); (case hle => (repeat' (first | exact u_nil | apply u_cons | apply u2_agg | exact u2_int | exact u1_int | exact u2_bool | exact u1_bool | exact u2_sli | exact u1_sli | exact u2_s0 | exact u1_s0))); all_goals (first | (intro d hd; cbv) | (assumption))) | (apply E_callX hE (c_Exact ⟨_, _, _, _⟩ on); (case hf => rfl); (case hc => (cbv <;> trivial)); (case hle => (repeat' (first | exact u_nil | apply u_cons | apply u2_agg | exact u2_int | exact u1_int | exact u2_bool | exact u1_bool | exact u2_sli | exact u1_sli | exact u2_s0 | exact u1_s0))); all_goals (first | (intro d hd; cbv) | (assumption))))
  have d1 : d.1 = dyL n.exact.1 := by have k : d = (dyL n.exact.1, n.exact.2) := hd; rw [k]
  have d2 : d.2 = n.exact.2 := by have k : d = (dyL n.exact.1, n.exact.2) := hd; rw [k]
  clear hd
  have b0 : E.bnot up = false := by subst hE; rw [hup]; rfl
  refine E_br_f hE b0 ?_; cbv
  refine E_br hE (fun g => ?_) (fun g => ?_) <;> cbv
  · exact hup
  refine E_br hE (fun g2 => ?_) (fun g2 => ?_) <;> cbv
  · exact hup
  refine E_br hE (fun g3 => ?_) (fun g3 => ?_) <;> cbv
  · exact hup
  have g : (fixV n).2 = true := by rw [← x2]; subst hE; cases q : x.2; rw [q] at g; exact absurd g (by decide); rfl
  have g2 : n.exact.2 = true := by rw [← d2]; subst hE; cases q : d.2; rw [q] at g2; exact absurd g2 (by decide); rfl
  obtain ⟨f1, f2, V1, V2, V3, o1, o2⟩ := law g g2
  have l1 := whN_lim f1
  have l2 := whN_lim f2
  have xb : Lb x.1.2 ∧ x.1.2.length < 67108864 := by rw [x1]; exact ⟨l1.1, Nat.lt_of_le_of_lt l1.2 (by decide)⟩
  have mk : ∀ z : Int, dyMake (whN z).1 (lv (whN z).2) (-192) = dyZ z (-192) := by intro z; unfold whN dyZ; dsimp only; rw [lv_lim]
  (first | (apply E_pcallX hE (c_dyMake x.1.1 x.1.2 (-192) xb.1 xb.2 (by decide) (by decide)); (case hm => rfl); (case hle => (repeat' (first | exact u_nil | apply u_cons | apply u2_agg | exact u2_int | exact u1_int | exact u2_bool | exact u1_bool | exact u2_sli | exact u1_sli | exact u2_s0 | exact u1_s0))); all_goals (first | (intro lo hlo; cbv) | (assumption))) | (apply E_callX hE (c_dyMake x.1.1 x.1.2 (-192) xb.1 xb.2 (by decide) (by decide)); (case hf => rfl); (case hc => (cbv <;> trivial)); (case hle => (repeat' (first | exact u_nil | apply u_cons | apply u2_agg | exact u2_int | exact u1_int | exact u2_bool | exact u1_bool | exact u2_sli | exact u1_sli | exact u2_s0 | exact u1_s0))); all_goals (first | (intro lo hlo; cbv) | (assumption))))
  have hlo : lo = dyL (dyZ F (-192)) := by
    have k : lo = dyL (dyMake x.1.1 (lv x.1.2) (-192)) := hlo
    rw [k, x1, mk]
  (first | (apply E_pcallX hE (c_wFrom 1 (by decide) (by decide)); (case hm => rfl); (case hle => (repeat' (first | exact u_nil | apply u_cons | apply u2_agg | exact u2_int | exact u1_int | exact u2_bool | exact u1_bool | exact u2_sli | exact u1_sli | exact u2_s0 | exact u1_s0))); all_goals (first | (intro o ho_; cbv) | (assumption))) | (apply E_callX hE (c_wFrom 1 (by decide) (by decide)); (case hf => rfl); (case hc => (cbv <;> trivial)); (case hle => (repeat' (first | exact u_nil | apply u_cons | apply u2_agg | exact u2_int | exact u1_int | exact u2_bool | exact u1_bool | exact u2_sli | exact u1_sli | exact u2_s0 | exact u1_s0))); all_goals (first | (intro o ho_; cbv) | (assumption))))
  have ho1 : o = whN 1 := by rw [ho_]; unfold whN; rfl
  have ob : Lb o.2 ∧ o.2.length < 134217728 := by rw [ho1]; exact ⟨whN_lb 1, Nat.lt_of_le_of_lt (whN_lim (z := 1) (by decide)).2 (by decide)⟩
  have xl : x.1.2.length < 134217728 := Nat.lt_trans xb.2 (by decide)
  (first | (apply E_pcallX hE (c_wAdd x.1.1 x.1.2 o.1 o.2 xb.1 ob.1 xl ob.2); (case hm => rfl); (case hle => (repeat' (first | exact u_nil | apply u_cons | apply u2_agg | exact u2_int | exact u1_int | exact u2_bool | exact u1_bool | exact u2_sli | exact u1_sli | exact u2_s0 | exact u1_s0))); all_goals (first | (intro y hy; cbv) | (assumption))) | (apply E_callX hE (c_wAdd x.1.1 x.1.2 o.1 o.2 xb.1 ob.1 xl ob.2); (case hf => rfl); (case hc => (cbv <;> trivial)); (case hle => (repeat' (first | exact u_nil | apply u_cons | apply u2_agg | exact u2_int | exact u1_int | exact u2_bool | exact u1_bool | exact u2_sli | exact u1_sli | exact u2_s0 | exact u1_s0))); all_goals (first | (intro y hy; cbv) | (assumption))))
  have y1 : y = whN (F + 1) := by
    have k : y = whN (wv x.1.1 x.1.2 + wv o.1 o.2) := hy
    rw [k, x1, ho1, wv_whN, wv_whN]
  have yb : Lb y.2 ∧ y.2.length < 67108864 := by rw [y1]; exact ⟨l2.1, Nat.lt_of_le_of_lt l2.2 (by decide)⟩
  (first | (apply E_pcallX hE (c_dyMake y.1 y.2 (-192) yb.1 yb.2 (by decide) (by decide)); (case hm => rfl); (case hle => (repeat' (first | exact u_nil | apply u_cons | apply u2_agg | exact u2_int | exact u1_int | exact u2_bool | exact u1_bool | exact u2_sli | exact u1_sli | exact u2_s0 | exact u1_s0))); all_goals (first | (intro hi hhi; cbv) | (assumption))) | (apply E_callX hE (c_dyMake y.1 y.2 (-192) yb.1 yb.2 (by decide) (by decide)); (case hf => rfl); (case hc => (cbv <;> trivial)); (case hle => (repeat' (first | exact u_nil | apply u_cons | apply u2_agg | exact u2_int | exact u1_int | exact u2_bool | exact u1_bool | exact u2_sli | exact u1_sli | exact u2_s0 | exact u1_s0))); all_goals (first | (intro hi hhi; cbv) | (assumption))))
  have hhi : hi = dyL (dyZ (F + 1) (-192)) := by
    have k : hi = dyL (dyMake y.1 (lv y.2) (-192)) := hhi
    rw [k, y1, mk]
  (first | (apply E_pcallX hE (c_dyCmp 1048704 (by decide) (dyZ F (-192)) n.exact.1 _ _ V1 V3 lo d.1 hlo d1); (case hm => rfl); (case hle => (repeat' (first | exact u_nil | apply u_cons | apply u2_agg | exact u2_int | exact u1_int | exact u2_bool | exact u1_bool | exact u2_sli | exact u1_sli | exact u2_s0 | exact u1_s0))); all_goals (first | (intro c hc; cbv) | (assumption))) | (apply E_callX hE (c_dyCmp 1048704 (by decide) (dyZ F (-192)) n.exact.1 _ _ V1 V3 lo d.1 hlo d1); (case hf => rfl); (case hc => (cbv <;> trivial)); (case hle => (repeat' (first | exact u_nil | apply u_cons | apply u2_agg | exact u2_int | exact u1_int | exact u2_bool | exact u1_bool | exact u2_sli | exact u1_sli | exact u2_s0 | exact u1_s0))); all_goals (first | (intro c hc; cbv) | (assumption))))
  have c1 : E.cmp .leq c 0 = true := by
    have k : c ≤ 0 := by
      rw [hc]
      split
      · decide
      · rw [if_neg (by omega)]; exact Int.le_refl 0
    subst hE; exact decide_eq_true k
  refine E_br_t hE c1 ?_; cbv
  (first | (apply E_pcallX hE (c_dyCmp 1048704 (by decide) n.exact.1 (dyZ (F + 1) (-192)) _ _ V3 V2 d.1 hi d1 hhi); (case hm => rfl); (case hle => (repeat' (first | exact u_nil | apply u_cons | apply u2_agg | exact u2_int | exact u1_int | exact u2_bool | exact u1_bool | exact u2_sli | exact u1_sli | exact u2_s0 | exact u1_s0))); all_goals (first | (intro c2 hc2; cbv) | (assumption))) | (apply E_callX hE (c_dyCmp 1048704 (by decide) n.exact.1 (dyZ (F + 1) (-192)) _ _ V3 V2 d.1 hi d1 hhi); (case hf => rfl); (case hc => (cbv <;> trivial)); (case hle => (repeat' (first | exact u_nil | apply u_cons | apply u2_agg | exact u2_int | exact u1_int | exact u2_bool | exact u1_bool | exact u2_sli | exact u1_sli | exact u2_s0 | exact u1_s0))); all_goals (first | (intro c2 hc2; cbv) | (assumption))))
  have k : c2 < 0 := by rw [hc2, if_pos o2]; decide
  subst hE; exact decide_eq_true k

end Go.Proofs.YtpadpcjdakfokaaDoor.Ev

/- What an argument that reads as data stands for: numbers and intervals. -/
namespace Go.Proofs.YtpadpcjdakfokaaDoor.Ev
open Go Go.ChangeShapes Go.WideShapes Go.RowKit
set_option linter.unusedVariables false
set_option maxRecDepth 100000

section
variable {H : Type} {enc : TypeId × Value → H} {w : World} {base : Nat} {spare : Nat → Bool} {held : Bool}

theorem wf_u64 {n : Int} (h : (Lit.int .u64 n).wf = true) : 0 ≤ n ∧ n < 18446744073709551616 := by
  simp only [Lit.wf, IntKind.min, IntKind.max, IntKind.signed, IntKind.bits, Bool.and_eq_true] at h
  have := h.1; have := h.2
  simp at *
  omega
theorem wf_i64 {n : Int} (h : (Lit.int .i64 n).wf = true) : -9223372036854775808 ≤ n ∧ n < 9223372036854775808 := by
  simp only [Lit.wf, IntKind.min, IntKind.max, IntKind.signed, IntKind.bits, Bool.and_eq_true] at h
  have := h.1; have := h.2
  simp at *
  omega

/-- a number's fields are of their words -/
def Num.wf (n : Num) : Prop := n.ok ∧ (-9223372036854775808 ≤ n.e ∧ n.e < 9223372036854775808) ∧ (-9223372036854775808 ≤ n.kind ∧ n.kind < 9223372036854775808)
def Num.vals (n : Num) : List Value := [.int .i64 n.kind, .bool n.neg, .int .u64 n.m, .int .i64 n.e]

theorem read_num {fuel : Nat} {cs : List Value} {x : DataW H × List MemPlace} (h : DataW.trod enc Tryd.prog w base spare held fuel 24 cs = some x) : ∃ n : Num, cs = n.vals ∧ n.wf := by
  obtain ⟨xs, m, rfl, _, hl, hxs, hf⟩ := DataW.trod_struct Tryd.underlying24 h
  rw [show Tryd.prog.cellsOf 24 = 4 by kernel_rfl] at hl
  obtain ⟨c0, c1, c2, c3, rfl⟩ : ∃ a b c d, cs = [a, b, c, d] := by
    rcases cs with _ | ⟨a, _ | ⟨b, _ | ⟨c, _ | ⟨d, _ | ⟨e, r⟩⟩⟩⟩⟩ <;> simp at hl
    exact ⟨a, b, c, d, rfl⟩
  have get : ∀ i, i < 4 → ∃ y, xs[i]? = some y := fun i hi => ⟨_, List.getElem?_eq_getElem (by rw [hxs]; exact hi)⟩
  obtain ⟨y0, e0⟩ := get 0 (by omega)
  obtain ⟨y1, e1⟩ := get 1 (by omega)
  obtain ⟨y2, e2⟩ := get 2 (by omega)
  obtain ⟨y3, e3⟩ := get 3 (by omega)
  have z3 : Tryd.prog.cellsOf 3 = 1 := by kernel_rfl
  have z4 : Tryd.prog.cellsOf 4 = 1 := by kernel_rfl
  have z22 : Tryd.prog.cellsOf 22 = 1 := by kernel_rfl
  have h0 : DataW.trod enc Tryd.prog w base spare held m 3 (([c0, c1, c2, c3].drop 0).take (Tryd.prog.cellsOf 3)) = some y0 := (hf 0 _ rfl).trans e0
  have h1 : DataW.trod enc Tryd.prog w base spare held m 4 (([c0, c1, c2, c3].drop 1).take (Tryd.prog.cellsOf 4)) = some y1 := (hf 1 _ rfl).trans e1
  have h2 : DataW.trod enc Tryd.prog w base spare held m 22 (([c0, c1, c2, c3].drop 2).take (Tryd.prog.cellsOf 22)) = some y2 := (hf 2 _ rfl).trans e2
  have h3 : DataW.trod enc Tryd.prog w base spare held m 3 (([c0, c1, c2, c3].drop 3).take (Tryd.prog.cellsOf 3)) = some y3 := (hf 3 _ rfl).trans e3
  rw [z3] at h0 h3
  rw [z4] at h1
  rw [z22] at h2
  obtain ⟨n0, q0, _, w0⟩ := DataW.trod_int Tryd.underlying3 h0
  obtain ⟨n1, q1, _⟩ := DataW.trod_bool Tryd.underlying4 h1
  obtain ⟨n2, q2, _, w2⟩ := DataW.trod_int Tryd.underlying22 h2
  obtain ⟨n3, q3, _, w3⟩ := DataW.trod_int Tryd.underlying3 h3
  refine ⟨⟨n0, n1, n2, n3⟩, ?_, wf_u64 w2, wf_i64 w3, wf_i64 w0⟩
  obtain ⟨rfl⟩ : c0 = _ := (List.cons.inj q0).1
  obtain ⟨rfl⟩ : c1 = _ := (List.cons.inj q1).1
  obtain ⟨rfl⟩ : c2 = _ := (List.cons.inj q2).1
  obtain ⟨rfl⟩ : c3 = _ := (List.cons.inj q3).1
  rfl

def Iv.vals (x : Iv) : List Value := .bool x.empty :: (x.lo.vals ++ x.hi.vals)

theorem ro_num (O : Nat → Prop) (w : World) (n : Num) (ys : Array Value) (h : ys.toList = n.vals) : RoV O w n.av (.agg ys) := by
  obtain ⟨l⟩ := ys
  dsimp only at h
  subst h
  refine .agg _ _ rfl (fun j c hj => ?_)
  match j, hj with
  | 0, hj => simp at hj; subst hj; exact .int _ _ _ rfl
  | 1, hj => simp at hj; subst hj; exact .bool _ _ rfl
  | 2, hj => simp at hj; subst hj; exact .int _ _ _ rfl
  | 3, hj => simp at hj; subst hj; exact .int _ _ _ rfl
  | j + 4, hj => simp at hj

theorem arg_num {r : Reach} {b0 : Nat} {v : Value} {d : DataW H} {ps : List MemPlace} (hval : Value.okWide Tryd.prog w r b0 24 v) (hd : DataW.Trod enc Tryd.prog w base spare held 24 v d ps) :
    ∃ n : Num, n.wf ∧ ∀ O w', RoV O w' n.av v := by
  obtain ⟨cs, rfl, _⟩ := okWide_struct Tryd.underlying24 hval
  obtain ⟨fuel, hf⟩ := hd
  obtain ⟨n, e, hw⟩ := read_num hf
  exact ⟨n, hw, fun O w' => ro_num O w' n cs e⟩
end
end Go.Proofs.YtpadpcjdakfokaaDoor.Ev
