/- Texts of the proof, joined: W8 R33 W3 W4 Br17 W9 R34 R35 R36 C36 Rd -/
import Derived.Test.YtaiillbjhdoikaaGreatB5
import Derived.ChangeArms
import Derived.ProofKit
import Derived.RowKit
import Derived.Carry
set_option linter.unusedVariables false
set_option linter.unusedSimpArgs false

/- Contracts: the two fixed numbers for an inverse tangent. Printed by gen.py. -/
namespace Go.Proofs.YtaiillbjhdoikaaGreat.Ev
open Go Go.Proofs
set_option linter.unusedVariables false
set_option linter.unusedSimpArgs false

attribute [local irreducible] Lb whN piOne
theorem h_terms (N : Int) (h1 : -9223372036854775808 ≤ N) (h2 : N < 9223372036854775808) : CallsH Tryz.prog 15 [.int .i64 (.s N)] [zwB, zwB]
    (fun v h => ∃ p : Bool × List Int, v = .fn 41 [.ptr 4 1 (.l 0) 0, .ptr 3 2 (.l 0) 0, .ptr 2 1 (.l 0) 0] ∧ h = [zwB, zwB, nbB N, pwB p, odB (-1)] ∧ p = whN N) := by
  refine callsH_turn (K' := fun v h => ∃ p : Bool × List Int, v = .fn 41 [.ptr 4 1 (.l 0) 0, .ptr 3 2 (.l 0) 0, .ptr 2 1 (.l 0) 0] ∧ h = [zwB, zwB, nbB N, pwB p, .rows true 1 [.int .i64 (.l 0)] [[.int .i64 (.l (-1))]]] ∧ p = whN N) ?_ ?_
  · refine callsH_of hG hm Tryz.func15 (by kernel_rfl) ?_
    intro E hE lp hl'
    cbv
    (first | (apply E_pcallX hE (c_wFrom N h1 h2); (case hm => rfl); (case hle => (repeat' (first | exact u_nil | apply u_cons | apply u2_agg | exact u2_int | exact u1_int | exact u2_bool | exact u1_bool | exact u2_sli | exact u1_sli | exact u2_s0 | exact u1_s0))); all_goals (first | (intro u hu; cbv) | (assumption))) | (apply E_callX hE (c_wFrom N h1 h2); (case hf => rfl); (case hc => (cbv <;> trivial)); (case hle => (repeat' (first | exact u_nil | apply u_cons | apply u2_agg | exact u2_int | exact u1_int | exact u2_bool | exact u1_bool | exact u2_sli | exact u1_sli | exact u2_s0 | exact u1_s0))); all_goals (first | (intro u hu; cbv) | (assumption))))
    exact ⟨u, rfl, rfl, Eq.trans hu (whN_def N).symm⟩
  · rintro v h ⟨p, rfl, rfl, hp⟩
    exact ⟨4, odB (-1), _, rfl, rfl, rfl, fun x1 x2 g hw hb => blk_lit x1 x2 g hw hb, p, rfl, rfl, hp⟩


def piSum (n : Nat) : Nat → Int
  | 0 => 0
  | j + 1 => piSum n j + (if j % 2 = 1 then -(piTerm n j : Int) else (piTerm n j : Int))
def piKf (n : Nat) : Nat → Nat → Nat
  | 0, j => j
  | f + 1, j => if piTerm n j = 0 then j else piKf n f (j + 1)
def piK (n : Nat) : Nat := piKf n 98 0
def piLo (n : Nat) : Int := piSum n (piK n) - (piK n : Int) - 1
def piHi (n : Nat) : Int := piSum n (piK n) + (piK n : Int) + 1
theorem piKf_go {n j : Nat} (hj : j ≤ 97) (h : piTerm n j ≠ 0) : piKf n (98 - j) j = piKf n (98 - (j + 1)) (j + 1) := by
  rw [show 98 - j = (98 - (j + 1)) + 1 by omega]
  show (if piTerm n j = 0 then j else _) = _
  rw [if_neg h]
theorem piKf_end {n j : Nat} (hj : j ≤ 97) (h : piTerm n j = 0) : piKf n (98 - j) j = j := by
  rw [show 98 - j = (98 - (j + 1)) + 1 by omega]
  show (if piTerm n j = 0 then j else _) = _
  rw [if_pos h]
theorem piTerm97 {n : Nat} (h : 2 ≤ n) : piTerm n 97 = 0 := by
  unfold piTerm
  refine Nat.div_eq_of_lt ?_
  have h1 : 2 ^ 195 ≤ n ^ 195 := Nat.pow_le_pow_left h 195
  have h2 : piOne < 2 ^ 195 := by unfold piOne; decide +kernel
  show piOne < n ^ 195 * 195
  omega
theorem piTerm_le (n j : Nat) : piTerm n j ≤ piOne := Nat.div_le_self _ _
theorem piSum_le (n j : Nat) : (piSum n j).natAbs ≤ j * piOne := by
  induction j with
  | zero => simp [piSum]
  | succ j ih =>
    have := piTerm_le n j
    rw [Nat.succ_mul]
    unfold piSum
    generalize piSum n j = s at *
    generalize j * piOne = q at *
    split <;> omega
theorem piSum_len {n j : Nat} (hj : j ≤ 98) : (whN (piSum n j)).2.length ≤ 7 := by
  refine whN_len ?_
  have h1 := piSum_le n j
  have h2 : j * piOne ≤ 98 * piOne := Nat.mul_le_mul_right _ hj
  have h3 : 98 * piOne < 4294967296 ^ 7 := by unfold piOne; decide +kernel
  omega
theorem piTerm_len (n j : Nat) : (whN (piTerm n j : Int)).2.length ≤ 101 := by
  rw [whN_nat]; exact lim_pow_len (Nat.le_trans (piTerm_le n j) piOne_le)
def sumB : Option (Bool × List Int) → Blk
  | none => zwB
  | some s => pwB s
def piS (N : Int) : Nat × Option (Bool × List Int) × (Bool × List Int) × (Bool × List Int) × Int → St := fun p =>
  ⟨[(2, .ptr 0 2 (.l 0) 0), (3, .ptr 1 2 (.l 0) 0), (4, .fn 41 [.ptr 4 1 (.l 0) 0, .ptr 3 2 (.l 0) 0, .ptr 2 1 (.l 0) 0]), (5, .ptr 5 2 (.l 0) 0), (6, .int .i64 (.s (p.1 : Int))), (7, .ptr 7 2 (.l 0) 0)],
    [zwB, zwB, nbB N, pwB p.2.2.2.1, odB p.2.2.2.2, sumB p.2.1, .dead, pwB p.2.2.1]⟩
def piOK (n : Nat) (p : Nat × Option (Bool × List Int) × (Bool × List Int) × (Bool × List Int) × Int) : Prop :=
  p.1 ≤ 97 ∧ piKf n (98 - p.1) p.1 = piK n ∧ (match p.2.1 with | none => p.1 = 0 | some s => s = whN (piSum n p.1)) ∧ p.2.2.1 = whN (piTerm n p.1 : Int) ∧ p.2.2.2.1 = whN ((n ^ (2 * (p.1 + 1) + 1) : Nat) : Int) ∧ p.2.2.2.2 = 2 * ((p.1 + 1 : Nat) : Int) - 1


set_option maxHeartbeats 4000000 in
theorem c_piInverse (n : Nat) (hn1 : 2 ≤ n) (hn2 : n ≤ 1000) (N : Int) (hN : N = n) : ∃ t : (Bool × List Int) × (Bool × List Int), t = (whN (piLo n), whN (piHi n)) ∧
    CallsA Tryz.prog 5 [.int .i64 (.s N)] (.tup [.agg [.bool (.s t.1.1), .sli .u32 t.1.2], .agg [.bool (.s t.2.1), .sli .u32 t.2.2]]) := by
  refine ⟨_, rfl, ?_⟩
  generalize hr : (whN (piLo n), whN (piHi n)) = r
  have N1 : -9223372036854775808 ≤ N := by omega
  have N2 : N < 9223372036854775808 := by omega
  have hp0 : ∀ p, p = whN N → p = whN ((n ^ (2 * 0 + 1) : Nat) : Int) := by intro p h; rw [h, hN, Nat.mul_zero, Nat.zero_add, Nat.pow_one]
  obtain ⟨m, em⟩ : ∃ m : Nat × Option (Bool × List Int) × (Bool × List Int) × (Bool × List Int) × Int → Nat, ∀ p, m p = 98 - p.1 := ⟨_, fun _ => rfl⟩
  obtain ⟨ok, eok⟩ : ∃ ok : Nat × Option (Bool × List Int) × (Bool × List Int) × (Bool × List Int) × Int → Prop, ∀ p, ok p ↔ piOK n p := ⟨_, fun _ => Iff.rfl⟩
  refine callsA_of hG hm Tryz.func5 (by kernel_rfl) ?_
  intro E hE lp hl'
  have f1 : E.cmp .lss N 2 = false := by subst hE; exact decide_eq_false (by omega)
  have f2 : E.cmp .gtr N 1000 = false := by subst hE; exact decide_eq_false (by omega)
  cbv
  repeat' (first | (apply E_br_f hE; assumption; cbv) | fail)
  refine E_callH hE (h_terms N N1 N2) ?_
  rintro v h1 ⟨p0, rfl, rfl, hp⟩
  cbv
  refine E_callH hE (h_term1 n 0 hn1 hn2 (by decide) N hN p0 (hp0 p0 hp) (-1) (by decide)) ?_
  rintro v h1 ⟨t0, p1, o1, rfl, rfl, ht0, hp1, ho1⟩
  cbv
  refine E_loopM hE hG hm hl' (piS N) m ok ⟨(0, none, t0, p1, o1), [0, 1, 2, 3, 4, 5, 6, 6], (eok _).2 ⟨by show 0 ≤ 97; decide, rfl, rfl, ht0, hp1, ho1⟩, stLeM (by repeat' (first | exact trivial | exact rfl | apply And.intro)) rfl rfl rfl (by repeat' (first | exact trivial | exact rfl | apply And.intro)) (by (repeat' (first | exact m_nil | refine m_cons ?_ rfl ?_ | exact u2_int | exact u2_bool | exact u2_ptr | exact u2_fn | exact (rfl : sle2 _ _))))⟩ ?_
  rintro ⟨j, so, t, p, o⟩ hok
  have hok := (eok _).1 hok
  obtain ⟨hj, hk, hs, ht, hp, ho⟩ := hok
  dsimp only at hj hk hs ht hp ho
  have tb : Lb t.2 := by rw [ht]; exact whN_lb _
  have t101 : t.2.length ≤ 101 := by rw [ht]; exact piTerm_len n j
  have tl : t.2.length < 67108864 := by omega
  have tl2 : t.2.length ≤ 268435456 := by omega
  have tl3 : t.2.length < 134217728 := by omega
  have lt : lv t.2 = piTerm n j := by rw [ht, whN_nat, lv_lim]
  have wt : wv t.1 t.2 = (piTerm n j : Int) := by rw [ht]; exact wv_nat _
  have fin : ∀ x y : Bool × List Int, piTerm n j = 0 → x = whN (piSum n j + (-(j : Int) - 1)) → y = whN (piSum n j + ((j : Int) + 1)) → x = r.1 ∧ y = r.2 := by
    intro x y z hx hy
    have kj : piK n = j := hk.symm.trans (piKf_end hj z)
    rw [← hr]
    show x = whN (piLo n) ∧ y = whN (piHi n)
    unfold piLo piHi
    rw [kj, hx, hy]
    exact ⟨congrArg _ (by omega), congrArg _ (by omega)⟩
  have step : piTerm n j ≠ 0 → ∀ s1 t' p' : Bool × List Int, ∀ o' : Int, s1 = whN (piSum n (j + 1)) → t' = whN (piTerm n (j + 1) : Int) → p' = whN ((n ^ (2 * (j + 1 + 1) + 1) : Nat) : Int) → o' = 2 * ((j + 1 + 1 : Nat) : Int) - 1 →
      m (j + 1, some s1, t', p', o') < m (j, so, t, p, o) ∧ ok (j + 1, some s1, t', p', o') := by
    intro nz s1 t' p' o' h1 h2 h3 h4
    have j96 : j ≤ 96 := by
      by_cases e : j = 97
      · exact absurd (by rw [e]; exact piTerm97 hn1) nz
      · omega
    exact ⟨by rw [em, em]; show 98 - (j + 1) < 98 - j; omega, (eok _).2 ⟨by show j + 1 ≤ 97; omega, (piKf_go hj nz).symm.trans hk, h1, h2, h3, h4⟩⟩
  have so1 : j % 2 = 1 → piSum n (j + 1) = piSum n j + -(piTerm n j : Int) := by intro h; show piSum n j + _ = _; rw [if_pos h]
  have so0 : j % 2 ≠ 1 → piSum n (j + 1) = piSum n j + (piTerm n j : Int) := by intro h; show piSum n j + _ = _; rw [if_neg h]
  have jr : E.bin .rem .i64 (j : Int) 2 = ((j % 2 : Nat) : Int) := by
    subst hE
    show (j : Int).tmod 2 = _
    rw [Int.tmod_eq_emod_of_nonneg (by omega)]; omega
  have j1 : E.bin .add .i64 (j : Int) 1 = ((j + 1 : Nat) : Int) := by
    subst hE
    show IntKind.i64.wrap ((j : Int) + 1) = _
    rw [wi64_in (by omega) (by omega)]; omega
  have jm : E.bin .sub .i64 (E.bin .sub .i64 0 (j : Int)) 1 = -(j : Int) - 1 := by
    subst hE
    show IntKind.i64.wrap (IntKind.i64.wrap (0 - (j : Int)) - 1) = _
    rw [wi64_in (n := 0 - (j : Int)) (by omega) (by omega), wi64_in (by omega) (by omega)]; omega
  have e1 : -9223372036854775808 ≤ E.bin .sub .i64 (E.bin .sub .i64 0 (j : Int)) 1 := by rw [jm]; omega
  have e2 : E.bin .sub .i64 (E.bin .sub .i64 0 (j : Int)) 1 < 9223372036854775808 := by rw [jm]; omega
  have e3 : -9223372036854775808 ≤ E.bin .add .i64 (j : Int) 1 := by rw [j1]; omega
  have e4 : E.bin .add .i64 (j : Int) 1 < 9223372036854775808 := by rw [j1]; omega
  have fl : ∀ (a : Bool × List Int) (z : Int), a = (decide (z < 0), lim z.natAbs) → z.natAbs < 1000 → Lb a.2 ∧ a.2.length < 134217728 ∧ wv a.1 a.2 = z := by
    intro a z h hz
    rw [← whN_def] at h
    rw [h]
    exact ⟨whN_lb _, Nat.lt_of_le_of_lt (whN_len (k := 1) (by rw [Nat.pow_one]; omega)) (by decide), wv_whN _⟩
  have nz_of : ∀ sg : Int, sg = (if lv t.2 = 0 then 0 else if t.1 then -1 else 1) → (0 < sg ↔ piTerm n j ≠ 0) := by
    intro sg h
    have t1 : t.1 = false := by rw [ht, whN_nat]
    rw [h, lt, t1]
    by_cases z : piTerm n j = 0
    · rw [if_pos z]; constructor
      · intro h; exact absurd h (by decide)
      · intro h; exact absurd z h
    · rw [if_neg z]; exact ⟨fun _ => z, fun _ => by decide⟩
  have jl : j ≤ 98 := by omega
  have j2 : j + 1 ≤ 98 := by omega
  have od_of : E.bin .rem .i64 (j : Int) 2 = 1 → j % 2 = 1 := by rw [jr]; intro k; omega
  have ev_of : ¬ E.bin .rem .i64 (j : Int) 2 = 1 → j % 2 ≠ 1 := by rw [jr]; intro k; omega
  have ja : (E.bin .sub .i64 (E.bin .sub .i64 0 (j : Int)) 1).natAbs < 1000 := by rw [jm]; omega
  have jb : (E.bin .add .i64 (j : Int) 1).natAbs < 1000 := by rw [j1]; omega
  have hp2 := hp
  have ho2 := ho
  clear hp ho hok em eok hr hk
  cases so with
  | none =>
    have j0 : j = 0 := hs
    have sb : Lb ([] : List Int) := Lb.nil
    have sl : ([] : List Int).length < 134217728 := by decide
    have ws : wv false [] = piSum n j := by rw [j0]; rfl
    clear hs
    cbv
    (first | (apply E_pcallX hE (c_wSign t.1 t.2 tb tl); (case hm => rfl); (case hle => (repeat' (first | exact u_nil | apply u_cons | apply u2_agg | exact u2_int | exact u1_int | exact u2_bool | exact u1_bool | exact u2_sli | exact u1_sli | exact u2_s0 | exact u1_s0))); all_goals (first | (intro sg hsg; cbv) | (assumption))) | (apply E_callX hE (c_wSign t.1 t.2 tb tl); (case hf => rfl); (case hc => (cbv <;> trivial)); (case hle => (repeat' (first | exact u_nil | apply u_cons | apply u2_agg | exact u2_int | exact u1_int | exact u2_bool | exact u1_bool | exact u2_sli | exact u1_sli | exact u2_s0 | exact u1_s0))); all_goals (first | (intro sg hsg; cbv) | (assumption))))
    refine E_br hE (fun g => ?_) (fun g => ?_) <;> cbv
    · have nz : piTerm n j ≠ 0 := (nz_of sg hsg).1 (by subst hE; exact gtr_t g)
      refine E_br hE (fun q => ?_) (fun q => ?_) <;> cbv
      · have od : j % 2 = 1 := od_of (by subst hE; exact eql_t q)
        (first | (apply E_pcallX hE (c_wNeg t.1 t.2 tb tl2); (case hm => rfl); (case hle => (repeat' (first | exact u_nil | apply u_cons | apply u2_agg | exact u2_int | exact u1_int | exact u2_bool | exact u1_bool | exact u2_sli | exact u1_sli | exact u2_s0 | exact u1_s0))); all_goals (first | (intro u hu; cbv) | (assumption))) | (apply E_callX hE (c_wNeg t.1 t.2 tb tl2); (case hf => rfl); (case hc => (cbv <;> trivial)); (case hle => (repeat' (first | exact u_nil | apply u_cons | apply u2_agg | exact u2_int | exact u1_int | exact u2_bool | exact u1_bool | exact u2_sli | exact u1_sli | exact u2_s0 | exact u1_s0))); all_goals (first | (intro u hu; cbv) | (assumption))))
        have hu : u = (!t.1 && decide (lv t.2 ≠ 0), lim (lv t.2)) := hu
        have ub : Lb u.2 := by rw [hu]; exact lim_lb _
        have ul : u.2.length < 134217728 := by rw [hu]; exact Nat.lt_of_le_of_lt (lim_length_le' tb) tl3
        have wu : wv u.1 u.2 = -(piTerm n j : Int) := by
          have t1 : t.1 = false := by rw [ht, whN_nat]
          rw [hu, whN_of, wv_whN, t1, lt]; rfl
        (first | (apply E_pcallX hE (c_wAdd false [] u.1 u.2 sb ub sl ul); (case hm => rfl); (case hle => (repeat' (first | exact u_nil | apply u_cons | apply u2_agg | exact u2_int | exact u1_int | exact u2_bool | exact u1_bool | exact u2_sli | exact u1_sli | exact u2_s0 | exact u1_s0))); all_goals (first | (intro s1 hs1; cbv) | (assumption))) | (apply E_callX hE (c_wAdd false [] u.1 u.2 sb ub sl ul); (case hf => rfl); (case hc => (cbv <;> trivial)); (case hle => (repeat' (first | exact u_nil | apply u_cons | apply u2_agg | exact u2_int | exact u1_int | exact u2_bool | exact u1_bool | exact u2_sli | exact u1_sli | exact u2_s0 | exact u1_s0))); all_goals (first | (intro s1 hs1; cbv) | (assumption))))
        have hs1 : s1 = whN (piSum n (j + 1)) := by
          have k : s1 = whN (wv false [] + wv u.1 u.2) := hs1
          rw [k, ws, wu, so1 od]
        refine E_nm hE (fun kk hkk => ?_); cbv
        have hkk : kk = ((j + 1 : Nat) : Int) := Eq.trans hkk j1
        refine E_callH hE (h_term4 n (j + 1) hn1 hn2 j2 N hN p hp2 o ho2 s1 u u) ?_
        rintro v h1 ⟨t', p', o', rfl, rfl, ht', hp', ho'⟩
        cbv
        exact ⟨(j + 1, some s1, t', p', o'), [0, 1, 2, 3, 4, 5, 6, 8], (step nz s1 t' p' o' hs1 ht' hp' ho').1, (step nz s1 t' p' o' hs1 ht' hp' ho').2, stLeM (by repeat' (first | exact trivial | exact rfl | apply And.intro)) rfl rfl rfl (by repeat' (first | exact trivial | exact rfl | apply And.intro)) (by (repeat' (first | exact m_nil | refine m_cons ?_ rfl ?_ | exact u2_int | exact u2_bool | exact u2_ptr | exact u2_fn | exact (rfl : sle2 _ _) | exact ⟨rfl, hkk⟩)))⟩
      · have od : j % 2 ≠ 1 := ev_of (by subst hE; exact eql_f q)
        have tl := tl3
        (first | (apply E_pcallX hE (c_wAdd false [] t.1 t.2 sb tb sl tl); (case hm => rfl); (case hle => (repeat' (first | exact u_nil | apply u_cons | apply u2_agg | exact u2_int | exact u1_int | exact u2_bool | exact u1_bool | exact u2_sli | exact u1_sli | exact u2_s0 | exact u1_s0))); all_goals (first | (intro s1 hs1; cbv) | (assumption))) | (apply E_callX hE (c_wAdd false [] t.1 t.2 sb tb sl tl); (case hf => rfl); (case hc => (cbv <;> trivial)); (case hle => (repeat' (first | exact u_nil | apply u_cons | apply u2_agg | exact u2_int | exact u1_int | exact u2_bool | exact u1_bool | exact u2_sli | exact u1_sli | exact u2_s0 | exact u1_s0))); all_goals (first | (intro s1 hs1; cbv) | (assumption))))
        have hs1 : s1 = whN (piSum n (j + 1)) := by
          have k : s1 = whN (wv false [] + wv t.1 t.2) := hs1
          rw [k, ws, wt, so0 od]
        refine E_nm hE (fun kk hkk => ?_); cbv
        have hkk : kk = ((j + 1 : Nat) : Int) := Eq.trans hkk j1
        refine E_callH hE (h_term4 n (j + 1) hn1 hn2 j2 N hN p hp2 o ho2 s1 t t) ?_
        rintro v h1 ⟨t', p', o', rfl, rfl, ht', hp', ho'⟩
        cbv
        exact ⟨(j + 1, some s1, t', p', o'), [0, 1, 2, 3, 4, 5, 6, 8], (step nz s1 t' p' o' hs1 ht' hp' ho').1, (step nz s1 t' p' o' hs1 ht' hp' ho').2, stLeM (by repeat' (first | exact trivial | exact rfl | apply And.intro)) rfl rfl rfl (by repeat' (first | exact trivial | exact rfl | apply And.intro)) (by (repeat' (first | exact m_nil | refine m_cons ?_ rfl ?_ | exact u2_int | exact u2_bool | exact u2_ptr | exact u2_fn | exact (rfl : sle2 _ _) | exact ⟨rfl, hkk⟩)))⟩
    · have z : piTerm n j = 0 := by
        by_cases z : piTerm n j = 0
        · exact z
        · exact absurd ((nz_of sg hsg).2 z) (by subst hE; exact gtr_f g)
      (first | (apply E_pcallX hE (c_wFrom (E.bin .sub .i64 (E.bin .sub .i64 0 (j : Int)) 1) e1 e2); (case hm => rfl); (case hle => (repeat' (first | exact u_nil | apply u_cons | apply u2_agg | exact u2_int | exact u1_int | exact u2_bool | exact u1_bool | exact u2_sli | exact u1_sli | exact u2_s0 | exact u1_s0))); all_goals (first | (intro a ha; cbv) | (assumption))) | (apply E_callX hE (c_wFrom (E.bin .sub .i64 (E.bin .sub .i64 0 (j : Int)) 1) e1 e2); (case hf => rfl); (case hc => (cbv <;> trivial)); (case hle => (repeat' (first | exact u_nil | apply u_cons | apply u2_agg | exact u2_int | exact u1_int | exact u2_bool | exact u1_bool | exact u2_sli | exact u1_sli | exact u2_s0 | exact u1_s0))); all_goals (first | (intro a ha; cbv) | (assumption))))
      obtain ⟨ab, al, wa⟩ := fl a _ ha ja
      (first | (apply E_pcallX hE (c_wAdd false [] a.1 a.2 sb ab sl al); (case hm => rfl); (case hle => (repeat' (first | exact u_nil | apply u_cons | apply u2_agg | exact u2_int | exact u1_int | exact u2_bool | exact u1_bool | exact u2_sli | exact u1_sli | exact u2_s0 | exact u1_s0))); all_goals (first | (intro x hx; cbv) | (assumption))) | (apply E_callX hE (c_wAdd false [] a.1 a.2 sb ab sl al); (case hf => rfl); (case hc => (cbv <;> trivial)); (case hle => (repeat' (first | exact u_nil | apply u_cons | apply u2_agg | exact u2_int | exact u1_int | exact u2_bool | exact u1_bool | exact u2_sli | exact u1_sli | exact u2_s0 | exact u1_s0))); all_goals (first | (intro x hx; cbv) | (assumption))))
      (first | (apply E_pcallX hE (c_wFrom (E.bin .add .i64 (j : Int) 1) e3 e4); (case hm => rfl); (case hle => (repeat' (first | exact u_nil | apply u_cons | apply u2_agg | exact u2_int | exact u1_int | exact u2_bool | exact u1_bool | exact u2_sli | exact u1_sli | exact u2_s0 | exact u1_s0))); all_goals (first | (intro b hb; cbv) | (assumption))) | (apply E_callX hE (c_wFrom (E.bin .add .i64 (j : Int) 1) e3 e4); (case hf => rfl); (case hc => (cbv <;> trivial)); (case hle => (repeat' (first | exact u_nil | apply u_cons | apply u2_agg | exact u2_int | exact u1_int | exact u2_bool | exact u1_bool | exact u2_sli | exact u1_sli | exact u2_s0 | exact u1_s0))); all_goals (first | (intro b hb; cbv) | (assumption))))
      obtain ⟨bb, bl, wb⟩ := fl b _ hb jb
      (first | (apply E_pcallX hE (c_wAdd false [] b.1 b.2 sb bb sl bl); (case hm => rfl); (case hle => (repeat' (first | exact u_nil | apply u_cons | apply u2_agg | exact u2_int | exact u1_int | exact u2_bool | exact u1_bool | exact u2_sli | exact u1_sli | exact u2_s0 | exact u1_s0))); all_goals (first | (intro y hy; cbv) | (assumption))) | (apply E_callX hE (c_wAdd false [] b.1 b.2 sb bb sl bl); (case hf => rfl); (case hc => (cbv <;> trivial)); (case hle => (repeat' (first | exact u_nil | apply u_cons | apply u2_agg | exact u2_int | exact u1_int | exact u2_bool | exact u1_bool | exact u2_sli | exact u1_sli | exact u2_s0 | exact u1_s0))); all_goals (first | (intro y hy; cbv) | (assumption))))
      have F := fin x y z (by have k : x = whN (wv false [] + wv a.1 a.2) := hx; rw [k, ws, wa, jm]) (by have k : y = whN (wv false [] + wv b.1 b.2) := hy; rw [k, ws, wb, j1]; rfl)
      exact ⟨⟨congrArg Prod.fst F.1, congrArg Prod.snd F.1, trivial⟩, ⟨congrArg Prod.fst F.2, congrArg Prod.snd F.2, trivial⟩, trivial⟩

  | some s =>
    have sb : Lb s.2 := by rw [show s = whN (piSum n j) from hs]; exact whN_lb _
    have sl : s.2.length < 134217728 := by rw [show s = whN (piSum n j) from hs]; exact Nat.lt_of_le_of_lt (piSum_len jl) (by decide)
    have ws : wv s.1 s.2 = piSum n j := by rw [show s = whN (piSum n j) from hs]; exact wv_whN _
    clear hs
    cbv
    (first | (apply E_pcallX hE (c_wSign t.1 t.2 tb tl); (case hm => rfl); (case hle => (repeat' (first | exact u_nil | apply u_cons | apply u2_agg | exact u2_int | exact u1_int | exact u2_bool | exact u1_bool | exact u2_sli | exact u1_sli | exact u2_s0 | exact u1_s0))); all_goals (first | (intro sg hsg; cbv) | (assumption))) | (apply E_callX hE (c_wSign t.1 t.2 tb tl); (case hf => rfl); (case hc => (cbv <;> trivial)); (case hle => (repeat' (first | exact u_nil | apply u_cons | apply u2_agg | exact u2_int | exact u1_int | exact u2_bool | exact u1_bool | exact u2_sli | exact u1_sli | exact u2_s0 | exact u1_s0))); all_goals (first | (intro sg hsg; cbv) | (assumption))))
    refine E_br hE (fun g => ?_) (fun g => ?_) <;> cbv
    · have nz : piTerm n j ≠ 0 := (nz_of sg hsg).1 (by subst hE; exact gtr_t g)
      refine E_br hE (fun q => ?_) (fun q => ?_) <;> cbv
      · have od : j % 2 = 1 := od_of (by subst hE; exact eql_t q)
        (first | (apply E_pcallX hE (c_wNeg t.1 t.2 tb tl2); (case hm => rfl); (case hle => (repeat' (first | exact u_nil | apply u_cons | apply u2_agg | exact u2_int | exact u1_int | exact u2_bool | exact u1_bool | exact u2_sli | exact u1_sli | exact u2_s0 | exact u1_s0))); all_goals (first | (intro u hu; cbv) | (assumption))) | (apply E_callX hE (c_wNeg t.1 t.2 tb tl2); (case hf => rfl); (case hc => (cbv <;> trivial)); (case hle => (repeat' (first | exact u_nil | apply u_cons | apply u2_agg | exact u2_int | exact u1_int | exact u2_bool | exact u1_bool | exact u2_sli | exact u1_sli | exact u2_s0 | exact u1_s0))); all_goals (first | (intro u hu; cbv) | (assumption))))
        have hu : u = (!t.1 && decide (lv t.2 ≠ 0), lim (lv t.2)) := hu
        have ub : Lb u.2 := by rw [hu]; exact lim_lb _
        have ul : u.2.length < 134217728 := by rw [hu]; exact Nat.lt_of_le_of_lt (lim_length_le' tb) tl3
        have wu : wv u.1 u.2 = -(piTerm n j : Int) := by
          have t1 : t.1 = false := by rw [ht, whN_nat]
          rw [hu, whN_of, wv_whN, t1, lt]; rfl
        (first | (apply E_pcallX hE (c_wAdd s.1 s.2 u.1 u.2 sb ub sl ul); (case hm => rfl); (case hle => (repeat' (first | exact u_nil | apply u_cons | apply u2_agg | exact u2_int | exact u1_int | exact u2_bool | exact u1_bool | exact u2_sli | exact u1_sli | exact u2_s0 | exact u1_s0))); all_goals (first | (intro s1 hs1; cbv) | (assumption))) | (apply E_callX hE (c_wAdd s.1 s.2 u.1 u.2 sb ub sl ul); (case hf => rfl); (case hc => (cbv <;> trivial)); (case hle => (repeat' (first | exact u_nil | apply u_cons | apply u2_agg | exact u2_int | exact u1_int | exact u2_bool | exact u1_bool | exact u2_sli | exact u1_sli | exact u2_s0 | exact u1_s0))); all_goals (first | (intro s1 hs1; cbv) | (assumption))))
        have hs1 : s1 = whN (piSum n (j + 1)) := by
          have k : s1 = whN (wv s.1 s.2 + wv u.1 u.2) := hs1
          rw [k, ws, wu, so1 od]
        refine E_nm hE (fun kk hkk => ?_); cbv
        have hkk : kk = ((j + 1 : Nat) : Int) := Eq.trans hkk j1
        refine E_callH hE (h_term4 n (j + 1) hn1 hn2 j2 N hN p hp2 o ho2 s1 u u) ?_
        rintro v h1 ⟨t', p', o', rfl, rfl, ht', hp', ho'⟩
        cbv
        exact ⟨(j + 1, some s1, t', p', o'), [0, 1, 2, 3, 4, 5, 6, 8], (step nz s1 t' p' o' hs1 ht' hp' ho').1, (step nz s1 t' p' o' hs1 ht' hp' ho').2, stLeM (by repeat' (first | exact trivial | exact rfl | apply And.intro)) rfl rfl rfl (by repeat' (first | exact trivial | exact rfl | apply And.intro)) (by (repeat' (first | exact m_nil | refine m_cons ?_ rfl ?_ | exact u2_int | exact u2_bool | exact u2_ptr | exact u2_fn | exact (rfl : sle2 _ _) | exact ⟨rfl, hkk⟩)))⟩
      · have od : j % 2 ≠ 1 := ev_of (by subst hE; exact eql_f q)
        have tl := tl3
        (first | (apply E_pcallX hE (c_wAdd s.1 s.2 t.1 t.2 sb tb sl tl); (case hm => rfl); (case hle => (repeat' (first | exact u_nil | apply u_cons | apply u2_agg | exact u2_int | exact u1_int | exact u2_bool | exact u1_bool | exact u2_sli | exact u1_sli | exact u2_s0 | exact u1_s0))); all_goals (first | (intro s1 hs1; cbv) | (assumption))) | (apply E_callX hE (c_wAdd s.1 s.2 t.1 t.2 sb tb sl tl); (case hf => rfl); (case hc => (cbv <;> trivial)); (case hle => (repeat' (first | exact u_nil | apply u_cons | apply u2_agg | exact u2_int | exact u1_int | exact u2_bool | exact u1_bool | exact u2_sli | exact u1_sli | exact u2_s0 | exact u1_s0))); all_goals (first | (intro s1 hs1; cbv) | (assumption))))
        have hs1 : s1 = whN (piSum n (j + 1)) := by
          have k : s1 = whN (wv s.1 s.2 + wv t.1 t.2) := hs1
          rw [k, ws, wt, so0 od]
        refine E_nm hE (fun kk hkk => ?_); cbv
        have hkk : kk = ((j + 1 : Nat) : Int) := Eq.trans hkk j1
        refine E_callH hE (h_term4 n (j + 1) hn1 hn2 j2 N hN p hp2 o ho2 s1 t t) ?_
        rintro v h1 ⟨t', p', o', rfl, rfl, ht', hp', ho'⟩
        cbv
        exact ⟨(j + 1, some s1, t', p', o'), [0, 1, 2, 3, 4, 5, 6, 8], (step nz s1 t' p' o' hs1 ht' hp' ho').1, (step nz s1 t' p' o' hs1 ht' hp' ho').2, stLeM (by repeat' (first | exact trivial | exact rfl | apply And.intro)) rfl rfl rfl (by repeat' (first | exact trivial | exact rfl | apply And.intro)) (by (repeat' (first | exact m_nil | refine m_cons ?_ rfl ?_ | exact u2_int | exact u2_bool | exact u2_ptr | exact u2_fn | exact (rfl : sle2 _ _) | exact ⟨rfl, hkk⟩)))⟩
    · have z : piTerm n j = 0 := by
        by_cases z : piTerm n j = 0
        · exact z
        · exact absurd ((nz_of sg hsg).2 z) (by subst hE; exact gtr_f g)
      (first | (apply E_pcallX hE (c_wFrom (E.bin .sub .i64 (E.bin .sub .i64 0 (j : Int)) 1) e1 e2); (case hm => rfl); (case hle => (repeat' (first | exact u_nil | apply u_cons | apply u2_agg | exact u2_int | exact u1_int | exact u2_bool | exact u1_bool | exact u2_sli | exact u1_sli | exact u2_s0 | exact u1_s0))); all_goals (first | (intro a ha; cbv) | (assumption))) | (apply E_callX hE (c_wFrom (E.bin .sub .i64 (E.bin .sub .i64 0 (j : Int)) 1) e1 e2); (case hf => rfl); (case hc => (cbv <;> trivial)); (case hle => (repeat' (first | exact u_nil | apply u_cons | apply u2_agg | exact u2_int | exact u1_int | exact u2_bool | exact u1_bool | exact u2_sli | exact u1_sli | exact u2_s0 | exact u1_s0))); all_goals (first | (intro a ha; cbv) | (assumption))))
      obtain ⟨ab, al, wa⟩ := fl a _ ha ja
      (first | (apply E_pcallX hE (c_wAdd s.1 s.2 a.1 a.2 sb ab sl al); (case hm => rfl); (case hle => (repeat' (first | exact u_nil | apply u_cons | apply u2_agg | exact u2_int | exact u1_int | exact u2_bool | exact u1_bool | exact u2_sli | exact u1_sli | exact u2_s0 | exact u1_s0))); all_goals (first | (intro x hx; cbv) | (assumption))) | (apply E_callX hE (c_wAdd s.1 s.2 a.1 a.2 sb ab sl al); (case hf => rfl); (case hc => (cbv <;> trivial)); (case hle => (repeat' (first | exact u_nil | apply u_cons | apply u2_agg | exact u2_int | exact u1_int | exact u2_bool | exact u1_bool | exact u2_sli | exact u1_sli | exact u2_s0 | exact u1_s0))); all_goals (first | (intro x hx; cbv) | (assumption))))
      (first | (apply E_pcallX hE (c_wFrom (E.bin .add .i64 (j : Int) 1) e3 e4); (case hm => rfl); (case hle => (repeat' (first | exact u_nil | apply u_cons | apply u2_agg | exact u2_int | exact u1_int | exact u2_bool | exact u1_bool | exact u2_sli | exact u1_sli | exact u2_s0 | exact u1_s0))); all_goals (first | (intro b hb; cbv) | (assumption))) | (apply E_callX hE (c_wFrom (E.bin .add .i64 (j : Int) 1) e3 e4); (case hf => rfl); (case hc => (cbv <;> trivial)); (case hle => (repeat' (first | exact u_nil | apply u_cons | apply u2_agg | exact u2_int | exact u1_int | exact u2_bool | exact u1_bool | exact u2_sli | exact u1_sli | exact u2_s0 | exact u1_s0))); all_goals (first | (intro b hb; cbv) | (assumption))))
      obtain ⟨bb, bl, wb⟩ := fl b _ hb jb
      (first | (apply E_pcallX hE (c_wAdd s.1 s.2 b.1 b.2 sb bb sl bl); (case hm => rfl); (case hle => (repeat' (first | exact u_nil | apply u_cons | apply u2_agg | exact u2_int | exact u1_int | exact u2_bool | exact u1_bool | exact u2_sli | exact u1_sli | exact u2_s0 | exact u1_s0))); all_goals (first | (intro y hy; cbv) | (assumption))) | (apply E_callX hE (c_wAdd s.1 s.2 b.1 b.2 sb bb sl bl); (case hf => rfl); (case hc => (cbv <;> trivial)); (case hle => (repeat' (first | exact u_nil | apply u_cons | apply u2_agg | exact u2_int | exact u1_int | exact u2_bool | exact u1_bool | exact u2_sli | exact u1_sli | exact u2_s0 | exact u1_s0))); all_goals (first | (intro y hy; cbv) | (assumption))))
      have F := fin x y z (by have k : x = whN (wv s.1 s.2 + wv a.1 a.2) := hx; rw [k, ws, wa, jm]) (by have k : y = whN (wv s.1 s.2 + wv b.1 b.2) := hy; rw [k, ws, wb, j1]; rfl)
      exact ⟨⟨congrArg Prod.fst F.1, congrArg Prod.snd F.1, trivial⟩, ⟨congrArg Prod.fst F.2, congrArg Prod.snd F.2, trivial⟩, trivial⟩

end Go.Proofs.YtaiillbjhdoikaaGreat.Ev

/- Contracts of the reference: quotients of numbers above nought; the scale, so many times. Printed by gen.py. -/
namespace Go.Proofs.YtaiillbjhdoikaaGreat.Ev
open Go Go.Proofs
set_option linter.unusedVariables false
set_option linter.unusedSimpArgs false

attribute [local irreducible] Lb whN
theorem c_r11Scale : ∃ t : Bool × List Int, t = whN (piOne : Int) ∧ CallsA Tryz.prog 11 [] (.agg [.bool (.s t.1), .sli .u32 t.2]) := by
  refine ⟨_, rfl, ?_⟩
  generalize hr : whN (piOne : Int) = r
  have l1 : Lb [(1 : Int)] := Lb.cons (by decide) (by decide) Lb.nil
  have v1 : lv [(1 : Int)] = 1 := rfl
  have fin : (false && decide (2 ^ 192 ≠ 0), lim (2 ^ 192)) = r := by rw [← hr, show piOne = 2 ^ 192 from rfl, whN_of]; rfl
  have len : (lim (2 ^ 192)).length ≤ 268435456 := Nat.le_trans (lim_length_le (k := 7) (by decide +kernel)) (by decide)
  clear hr
  refine callsA_of hG hm Tryz.func11 (by kernel_rfl) ?_
  intro E hE lp hl'
  have es : E.sub [1] 0 1 = [1] := by subst hE; rfl
  cbv
  (first | (apply E_pcallX hE (c_rShl _ 192 ?_ ?_); (case hm => rfl); (case hle => (repeat' (first | exact u_nil | apply u_cons | apply u2_agg | exact u2_int | exact u1_int | exact u2_bool | exact u1_bool | exact u2_sli | exact u1_sli | exact u2_s0 | exact u1_s0))); all_goals (first | (intro u hu; cbv) | (first | (show Lb (E.sub [1] 0 1); rw [es]; exact l1) | (show (E.sub [1] 0 1).length < 33554432; rw [es]; decide)))) | (apply E_callX hE (c_rShl _ 192 ?_ ?_); (case hf => rfl); (case hc => (cbv <;> trivial)); (case hle => (repeat' (first | exact u_nil | apply u_cons | apply u2_agg | exact u2_int | exact u1_int | exact u2_bool | exact u1_bool | exact u2_sli | exact u1_sli | exact u2_s0 | exact u1_s0))); all_goals (first | (intro u hu; cbv) | (first | (show Lb (E.sub [1] 0 1); rw [es]; exact l1) | (show (E.sub [1] 0 1).length < 33554432; rw [es]; decide)))))
  have hu : u = lim (2 ^ 192) := by
    have k : u = (if (192 : Int) < 1 then lim (lv (E.sub [1] 0 1)) else if 16777216 < (192 : Int) then [] else lim (lv (E.sub [1] 0 1) * 2 ^ (192 : Int).toNat)) := hu
    rw [k, es, v1, if_neg (by decide), if_neg (by decide), Nat.one_mul]; rfl
  have ub : Lb u := by rw [hu]; exact lim_lb _
  have ul : u.length ≤ 268435456 := by rw [hu]; exact len
  (first | (apply E_pcallX hE (c_r2Make false u ub ul); (case hm => rfl); (case hle => (repeat' (first | exact u_nil | apply u_cons | apply u2_agg | exact u2_int | exact u1_int | exact u2_bool | exact u1_bool | exact u2_sli | exact u1_sli | exact u2_s0 | exact u1_s0))); all_goals (first | (intro t ht; cbv) | (assumption))) | (apply E_callX hE (c_r2Make false u ub ul); (case hf => rfl); (case hc => (cbv <;> trivial)); (case hle => (repeat' (first | exact u_nil | apply u_cons | apply u2_agg | exact u2_int | exact u1_int | exact u2_bool | exact u1_bool | exact u2_sli | exact u1_sli | exact u2_s0 | exact u1_s0))); all_goals (first | (intro t ht; cbv) | (assumption))))
  have k : t = r := by
    have k : t = (false && decide (lv u ≠ 0), lim (lv u)) := ht
    rw [k, hu, lv_lim]; exact fin
  rw [← k]; exact ⟨rfl, rfl, trivial⟩

theorem c_r11Times (na : Bool) (a : List Int) (n : Int) (ha : Lb a) (hla : a.length < 60000000) (h1 : -9223372036854775808 ≤ n) (h2 : n < 9223372036854775808) :
    ∃ t : Bool × List Int, t = whN (wv na a * n) ∧ CallsA Tryz.prog 22 [.agg [.bool (.s na), .sli .u32 a], .int .i64 (.s n)] (.agg [.bool (.s t.1), .sli .u32 t.2]) := by
  refine ⟨_, rfl, ?_⟩
  generalize hr : whN (wv na a * n) = r
  have la : a.length < 67108864 := by omega
  have fu : ∀ u : Bool × List Int, u = whN n → Lb u.2 ∧ u.2.length < 67108864 ∧ wv u.1 u.2 = n := by
    intro u hu
    rw [hu]
    exact ⟨whN_lb _, Nat.lt_of_le_of_lt (whN_len (k := 2) (by rw [show (4294967296 : Nat) ^ 2 = 18446744073709551616 by decide +kernel]; omega)) (by decide), wv_whN _⟩
  have fin : ∀ (u t : Bool × List Int), u = whN n → t = ((na != u.1) && decide (lv a * lv u.2 ≠ 0), lim (lv a * lv u.2)) → t = r := by
    intro u t hu ht
    rw [ht, mulN, ← hr, (fu u hu).2.2]
  clear hr
  refine callsA_of hG hm Tryz.func22 (by kernel_rfl) ?_
  intro E hE lp hl'
  cbv
  (first | (apply E_pcallX hE (c_r2From n h1 h2); (case hm => rfl); (case hle => (repeat' (first | exact u_nil | apply u_cons | apply u2_agg | exact u2_int | exact u1_int | exact u2_bool | exact u1_bool | exact u2_sli | exact u1_sli | exact u2_s0 | exact u1_s0))); all_goals (first | (intro u hu; cbv) | (assumption))) | (apply E_callX hE (c_r2From n h1 h2); (case hf => rfl); (case hc => (cbv <;> trivial)); (case hle => (repeat' (first | exact u_nil | apply u_cons | apply u2_agg | exact u2_int | exact u1_int | exact u2_bool | exact u1_bool | exact u2_sli | exact u1_sli | exact u2_s0 | exact u1_s0))); all_goals (first | (intro u hu; cbv) | (assumption))))
  obtain ⟨u1, u2, u3⟩ := fu u hu
  (first | (apply E_pcallX hE (c_r2Two na a u.1 u.2 ha u1 la u2); (case hm => rfl); (case hle => (repeat' (first | exact u_nil | apply u_cons | apply u2_agg | exact u2_int | exact u1_int | exact u2_bool | exact u1_bool | exact u2_sli | exact u1_sli | exact u2_s0 | exact u1_s0))); all_goals (first | (intro t ht; cbv) | (assumption))) | (apply E_callX hE (c_r2Two na a u.1 u.2 ha u1 la u2); (case hf => rfl); (case hc => (cbv <;> trivial)); (case hle => (repeat' (first | exact u_nil | apply u_cons | apply u2_agg | exact u2_int | exact u1_int | exact u2_bool | exact u1_bool | exact u2_sli | exact u1_sli | exact u2_s0 | exact u1_s0))); all_goals (first | (intro t ht; cbv) | (assumption))))
  have k : t = r := fin u t hu ht
  rw [← k]; exact ⟨rfl, rfl, trivial⟩

theorem c_r2DivP (na : Bool) (a : List Int) (nb : Bool) (b : List Int) (hna : na = false) (hnb : nb = false) (ha : Lb a) (hb : Lb b) (hla : a.length < 67108864) (hlb : b.length < 67108864) (hb0 : lv b ≠ 0) :
    ∃ t : (Bool × List Int) × (Bool × List Int), t = (whN ((lv a / lv b : Nat) : Int), whN ((lv a % lv b : Nat) : Int)) ∧
      CallsA Tryz.prog 46 [.agg [.bool (.s na), .sli .u32 a], .agg [.bool (.s nb), .sli .u32 b]] (.tup [.agg [.bool (.s t.1.1), .sli .u32 t.1.2], .agg [.bool (.s t.2.1), .sli .u32 t.2.2], .bool (.s true)]) := by
  subst hna hnb
  refine ⟨_, rfl, ?_⟩
  generalize hr : (whN ((lv a / lv b : Nat) : Int), whN ((lv a % lv b : Nat) : Int)) = r
  have qn : ∀ (t : Bool × List Int), t = (false && decide (lv a / lv b ≠ 0), lim (lv a / lv b)) → t = r.1 := by
    intro t h; rw [h, ← hr, whN_of]; rfl
  have rn : ∀ (t : Bool × List Int), t = (false && decide (lv a % lv b ≠ 0), lim (lv a % lv b)) → t = r.2 := by
    intro t h; rw [h, ← hr, whN_of]; rfl
  have b1 : b.length ≤ 268435456 := by omega
  have l1 : (lim (lv a / lv b)).length ≤ 268435456 := by have := lim_mono (Nat.div_le_self (lv a) (lv b)); have := lim_length_le' ha; omega
  have l3 : (lim (lv a % lv b)).length ≤ 268435456 := by have := lim_mono (Nat.mod_le (lv a) (lv b)); have := lim_length_le' ha; omega
  clear hr
  refine callsA_of hG hm Tryz.func46 (by kernel_rfl) ?_
  intro E hE lp hl'
  cbv
  (first | (apply E_pcallX hE (c_r2Sign false b hb b1); (case hm => rfl); (case hle => (repeat' (first | exact u_nil | apply u_cons | apply u2_agg | exact u2_int | exact u1_int | exact u2_bool | exact u1_bool | exact u2_sli | exact u1_sli | exact u2_s0 | exact u1_s0))); all_goals (first | (intro z hz; cbv) | (assumption))) | (apply E_callX hE (c_r2Sign false b hb b1); (case hf => rfl); (case hc => (cbv <;> trivial)); (case hle => (repeat' (first | exact u_nil | apply u_cons | apply u2_agg | exact u2_int | exact u1_int | exact u2_bool | exact u1_bool | exact u2_sli | exact u1_sli | exact u2_s0 | exact u1_s0))); all_goals (first | (intro z hz; cbv) | (assumption))))
  have hz : z = 1 := by
    have k : z = (if lv b = 0 then 0 else if false = true then -1 else 1) := hz
    rw [k, if_neg hb0]; rfl
  (try (refine E_nm hE (fun z1 e1 => ?_); cbv))
  have hz1 : z1 = 1 := Eq.trans e1 hz
  refine E_br_f hE (show E.cmp .eql z1 0 = false by subst hE hz1; rfl) ?_; cbv
  (first | (apply E_pcallX hE (c_rDiv a b ha hb hla hlb); (case hm => rfl); (case hle => (repeat' (first | exact u_nil | apply u_cons | apply u2_agg | exact u2_int | exact u1_int | exact u2_bool | exact u1_bool | exact u2_sli | exact u1_sli | exact u2_s0 | exact u1_s0))); all_goals (first | (intro d hd; cbv) | (assumption))) | (apply E_callX hE (c_rDiv a b ha hb hla hlb); (case hf => rfl); (case hc => (cbv <;> trivial)); (case hle => (repeat' (first | exact u_nil | apply u_cons | apply u2_agg | exact u2_int | exact u1_int | exact u2_bool | exact u1_bool | exact u2_sli | exact u1_sli | exact u2_s0 | exact u1_s0))); all_goals (first | (intro d hd; cbv) | (assumption))))
  have hd : d = (lim (lv a / lv b), lim (lv a % lv b), true) := by
    have k : d = (if lv b = 0 then ([], [], false) else (lim (lv a / lv b), lim (lv a % lv b), true)) := hd
    rw [k, if_neg hb0]
  have d1 : d.1 = lim (lv a / lv b) := by rw [hd]
  have d2 : d.2.1 = lim (lv a % lv b) := by rw [hd]
  have db : Lb d.1 := by rw [d1]; exact lim_lb _
  have dc : Lb d.2.1 := by rw [d2]; exact lim_lb _
  have dl : d.1.length ≤ 268435456 := by rw [d1]; exact l1
  have dm : d.2.1.length ≤ 268435456 := by rw [d2]; exact l3
  (first | (apply E_pcallX hE (c_r2Make _ d.1 db dl); (case hm => rfl); (case hle => (repeat' (first | exact u_nil | apply u_cons | apply u2_agg | exact u2_int | exact u1_int | exact u2_bool | exact u1_bool | exact u2_sli | exact u1_sli | exact u2_s0 | exact u1_s0))); all_goals (first | (intro x hx; cbv) | (assumption))) | (apply E_callX hE (c_r2Make _ d.1 db dl); (case hf => rfl); (case hc => (cbv <;> trivial)); (case hle => (repeat' (first | exact u_nil | apply u_cons | apply u2_agg | exact u2_int | exact u1_int | exact u2_bool | exact u1_bool | exact u2_sli | exact u1_sli | exact u2_s0 | exact u1_s0))); all_goals (first | (intro x hx; cbv) | (assumption))))
  (first | (apply E_pcallX hE (c_r2Make _ d.2.1 dc dm); (case hm => rfl); (case hle => (repeat' (first | exact u_nil | apply u_cons | apply u2_agg | exact u2_int | exact u1_int | exact u2_bool | exact u1_bool | exact u2_sli | exact u1_sli | exact u2_s0 | exact u1_s0))); all_goals (first | (intro y hy; cbv) | (assumption))) | (apply E_callX hE (c_r2Make _ d.2.1 dc dm); (case hf => rfl); (case hc => (cbv <;> trivial)); (case hle => (repeat' (first | exact u_nil | apply u_cons | apply u2_agg | exact u2_int | exact u1_int | exact u2_bool | exact u1_bool | exact u2_sli | exact u1_sli | exact u2_s0 | exact u1_s0))); all_goals (first | (intro y hy; cbv) | (assumption))))
  have ex : x = r.1 := qn x (by have k : x = ((E.bnot (E.beq false false)) && decide (lv d.1 ≠ 0), lim (lv d.1)) := hx; rw [k, d1, lv_lim]; subst hE; rfl)
  have ey : y = r.2 := rn y (by have k : y = (false && decide (lv d.2.1 ≠ 0), lim (lv d.2.1)) := hy; rw [k, d2, lv_lim])
  have y0 : y = (false, lim (lv a % lv b)) := by have k : y = (false && decide (lv d.2.1 ≠ 0), lim (lv d.2.1)) := hy; rw [k, d2, lv_lim]; rfl
  have yb : Lb y.2 := by rw [y0]; exact lim_lb _
  have yl : y.2.length ≤ 268435456 := by rw [y0]; exact l3
  (first | (apply E_pcallX hE (c_r2Sign y.1 y.2 yb yl); (case hm => rfl); (case hle => (repeat' (first | exact u_nil | apply u_cons | apply u2_agg | exact u2_int | exact u1_int | exact u2_bool | exact u1_bool | exact u2_sli | exact u1_sli | exact u2_s0 | exact u1_s0))); all_goals (first | (intro s hs; cbv) | (assumption))) | (apply E_callX hE (c_r2Sign y.1 y.2 yb yl); (case hf => rfl); (case hc => (cbv <;> trivial)); (case hle => (repeat' (first | exact u_nil | apply u_cons | apply u2_agg | exact u2_int | exact u1_int | exact u2_bool | exact u1_bool | exact u2_sli | exact u1_sli | exact u2_s0 | exact u1_s0))); all_goals (first | (intro s hs; cbv) | (assumption))))
  have hs : s = 0 ∨ s = 1 := by
    have k : s = (if lv y.2 = 0 then 0 else if y.1 = true then -1 else 1) := hs
    rw [k, y0]; split
    · exact .inl rfl
    · exact .inr rfl
  refine E_br_f hE (show E.cmp .eql s (E.bin .sub .i64 0 z1) = false by subst hE hz1; rcases hs with h | h <;> (rw [h]; rfl)) ?_; cbv
  exact ⟨⟨congrArg Prod.fst ex, congrArg Prod.snd ex, trivial⟩, ⟨congrArg Prod.fst ey, congrArg Prod.snd ey, trivial⟩, trivial⟩

theorem c_r11Down (na : Bool) (a : List Int) (nb : Bool) (b : List Int) (hna : na = false) (hnb : nb = false) (ha : Lb a) (hb : Lb b) (hla : a.length < 67108864) (hlb : b.length < 67108864) (hb0 : lv b ≠ 0) :
    ∃ t : Bool × List Int, t = whN ((lv a / lv b : Nat) : Int) ∧ CallsA Tryz.prog 21 [.agg [.bool (.s na), .sli .u32 a], .agg [.bool (.s nb), .sli .u32 b]] (.agg [.bool (.s t.1), .sli .u32 t.2]) := by
  refine ⟨_, rfl, ?_⟩
  generalize hr : whN ((lv a / lv b : Nat) : Int) = r
  refine callsA_of hG hm Tryz.func21 (by kernel_rfl) ?_
  intro E hE lp hl'
  cbv
  (first | (apply E_pcallX hE (c_r2DivP na a nb b hna hnb ha hb hla hlb hb0); (case hm => rfl); (case hle => (repeat' (first | exact u_nil | apply u_cons | apply u2_agg | exact u2_int | exact u1_int | exact u2_bool | exact u1_bool | exact u2_sli | exact u1_sli | exact u2_s0 | exact u1_s0))); all_goals (first | (intro d hd; cbv) | (assumption))) | (apply E_callX hE (c_r2DivP na a nb b hna hnb ha hb hla hlb hb0); (case hf => rfl); (case hc => (cbv <;> trivial)); (case hle => (repeat' (first | exact u_nil | apply u_cons | apply u2_agg | exact u2_int | exact u1_int | exact u2_bool | exact u1_bool | exact u2_sli | exact u1_sli | exact u2_s0 | exact u1_s0))); all_goals (first | (intro d hd; cbv) | (assumption))))
  have k : d.1 = r := by rw [show d = (whN ((lv a / lv b : Nat) : Int), whN ((lv a % lv b : Nat) : Int)) from hd, hr]
  exact ⟨congrArg Prod.fst k, congrArg Prod.snd k, trivial⟩

end Go.Proofs.YtaiillbjhdoikaaGreat.Ev

/- Contracts: the ratio of whole numbers. Printed by gen.py. -/
namespace Go.Proofs.YtaiillbjhdoikaaGreat.Ev
open Go Go.Proofs
set_option linter.unusedVariables false
set_option linter.unusedSimpArgs false

attribute [local irreducible] Lb
theorem c_natural (m : List Int) (hm_ : Lb m) (hl : m.length ≤ 524288) : ∃ t : Nat × Int × Bool, t = natu (lv m) ∧ CallsA Tryz.prog 73 [.sli .u32 m] (.tup [.int .u64 (.s (t.1 : Int)), .int .i64 (.s t.2.1), .bool (.s t.2.2)]) := by
  refine ⟨_, rfl, ?_⟩
  generalize hr : natu (lv m) = r
  obtain ⟨L, eL⟩ : ∃ L : Int, L = blen (lv m : Int) := ⟨_, rfl⟩
  have bL : L ≤ 16777216 := by have := blen_le_len hm_; omega
  have b0 : 0 ≤ L := by rw [eL]; exact blen_nonneg _
  have lo : L ≤ 64 → r = (lv m * 2 ^ (64 - L).toNat, L - 64, false) := fun h => by rw [← hr, eL]; unfold natu; rw [if_pos (eL ▸ h)]
  have hi : 64 < L → r = (lv m / 2 ^ (L - 64).toNat, L - 64, decide (lv m / 2 ^ (L - 64).toNat * 2 ^ (L - 64).toNat ≠ lv m)) := fun h => by rw [← hr, eL]; unfold natu; rw [if_neg (by omega)]
  have l64 : L ≤ 64 → lv m * 2 ^ (64 - L).toNat < 2 ^ 64 := fun h => by rw [eL]; exact natu_lo (eL ▸ h)
  have h64 : 64 < L → lv m / 2 ^ (L - 64).toNat < 2 ^ 64 := fun h => by rw [eL]; exact natu_hi (eL ▸ h)
  have ml : m.length < 67108864 := by omega
  clear hr
  refine callsA_of hG hm Tryz.func73 (by kernel_rfl) ?_
  intro E hE lp hl'
  cbv
  (first | (apply E_pcallX hE (c_natLen m hm_ ml); (case hm => rfl); (case hle => (repeat' (first | exact u_nil | apply u_cons | apply u2_agg | exact u2_int | exact u1_int | exact u2_bool | exact u1_bool | exact u2_sli | exact u1_sli | exact u2_s0 | exact u1_s0))); all_goals (first | (intro t ht; cbv) | (assumption))) | (apply E_callX hE (c_natLen m hm_ ml); (case hf => rfl); (case hc => (cbv <;> trivial)); (case hle => (repeat' (first | exact u_nil | apply u_cons | apply u2_agg | exact u2_int | exact u1_int | exact u2_bool | exact u1_bool | exact u2_sli | exact u1_sli | exact u2_s0 | exact u1_s0))); all_goals (first | (intro t ht; cbv) | (assumption))))
  have et : t = L := Eq.trans ht eL.symm
  clear ht eL
  have eb : E.bin .sub .i64 t 64 = L - 64 := by subst hE; show IntKind.i64.wrap (t - 64) = _; rw [et, wi64_in (by omega) (by omega)]
  refine E_nm hE (fun y hy' => ?_); cbv
  have hy : y = L - 64 := hy'.trans eb
  clear eb hy' et
  refine E_br hE (fun g => ?_) (fun g => ?_) <;> cbv
  · have g : y ≤ 0 := by subst hE; exact leq_t g
    have en : E.bin .sub .i64 0 y = 64 - L := by subst hE; show IntKind.i64.wrap (0 - y) = _; rw [wi64_in (by omega) (by omega)]; omega
    have l64 := l64 (by omega)
    have sh : (if 64 - L < 1 then lim (lv m) else if 16777216 < 64 - L then [] else lim (lv m * 2 ^ (64 - L).toNat)) = lim (lv m * 2 ^ (64 - L).toNat) := by
      split
      · rw [show (64 - L).toNat = 0 by omega, Nat.pow_zero, Nat.mul_one]
      · rw [if_neg (by omega)]
    have R := lo (by omega)
    (first | (apply E_pcallX hE (c_natShl m _ hm_ ml); (case hm => rfl); (case hle => (repeat' (first | exact u_nil | apply u_cons | apply u2_agg | exact u2_int | exact u1_int | exact u2_bool | exact u1_bool | exact u2_sli | exact u1_sli | exact u2_s0 | exact u1_s0))); all_goals (first | (intro u hu; cbv) | (assumption))) | (apply E_callX hE (c_natShl m _ hm_ ml); (case hf => rfl); (case hc => (cbv <;> trivial)); (case hle => (repeat' (first | exact u_nil | apply u_cons | apply u2_agg | exact u2_int | exact u1_int | exact u2_bool | exact u1_bool | exact u2_sli | exact u1_sli | exact u2_s0 | exact u1_s0))); all_goals (first | (intro u hu; cbv) | (assumption))))
    have hu : u = lim (lv m * 2 ^ (64 - L).toNat) := by
      have k : u = (if E.bin .sub .i64 0 y < 1 then lim (lv m) else if 16777216 < E.bin .sub .i64 0 y then [] else lim (lv m * 2 ^ (E.bin .sub .i64 0 y).toNat)) := hu
      rw [en] at k
      exact k.trans sh
    have ul : Lb u := by rw [hu]; exact lim_lb _
    have u2 : u.length ≤ 2 := by rw [hu]; exact two64 l64
    (first | (apply E_pcallX hE (c_word u ul u2); (case hm => rfl); (case hle => (repeat' (first | exact u_nil | apply u_cons | apply u2_agg | exact u2_int | exact u1_int | exact u2_bool | exact u1_bool | exact u2_sli | exact u1_sli | exact u2_s0 | exact u1_s0))); all_goals (first | (intro v hv; cbv) | (assumption))) | (apply E_callX hE (c_word u ul u2); (case hf => rfl); (case hc => (cbv <;> trivial)); (case hle => (repeat' (first | exact u_nil | apply u_cons | apply u2_agg | exact u2_int | exact u1_int | exact u2_bool | exact u1_bool | exact u2_sli | exact u1_sli | exact u2_s0 | exact u1_s0))); all_goals (first | (intro v hv; cbv) | (assumption))))
    have hv : v = ((lv m * 2 ^ (64 - L).toNat : Nat) : Int) := by have k : v = lv u := hv; rw [k, hu, lv_lim]
    refine E_nm hE (fun q1 h1q => ?_); cbv
    refine E_nm hE (fun q2 h2q => ?_); cbv
    rw [R]
    exact ⟨h1q.trans hv, h2q.trans hy, rfl, trivial⟩
  · have g : ¬ y ≤ 0 := by subst hE; exact leq_f g
    have R := hi (by omega)
    have h64 := h64 (by omega)
    rw [← hy] at R h64
    have yb : y ≤ 16777216 := by omega
    have y1 : ¬ y < 1 := by omega
    (first | (apply E_pcallX hE (c_natShr m y hm_ ml); (case hm => rfl); (case hle => (repeat' (first | exact u_nil | apply u_cons | apply u2_agg | exact u2_int | exact u1_int | exact u2_bool | exact u1_bool | exact u2_sli | exact u1_sli | exact u2_s0 | exact u1_s0))); all_goals (first | (intro u hu; cbv) | (assumption))) | (apply E_callX hE (c_natShr m y hm_ ml); (case hf => rfl); (case hc => (cbv <;> trivial)); (case hle => (repeat' (first | exact u_nil | apply u_cons | apply u2_agg | exact u2_int | exact u1_int | exact u2_bool | exact u1_bool | exact u2_sli | exact u1_sli | exact u2_s0 | exact u1_s0))); all_goals (first | (intro u hu; cbv) | (assumption))))
    have hu : u = lim (lv m / 2 ^ y.toNat) := hu
    have u2 : u.length ≤ 2 := by rw [hu]; exact two64 h64
    have ul : Lb u := by rw [hu]; exact lim_lb _
    have uv : lv u = lv m / 2 ^ y.toNat := by rw [hu, lv_lim]
    have uk : u.length < 67108864 := by omega
    (first | (apply E_pcallX hE (c_word u ul u2); (case hm => rfl); (case hle => (repeat' (first | exact u_nil | apply u_cons | apply u2_agg | exact u2_int | exact u1_int | exact u2_bool | exact u1_bool | exact u2_sli | exact u1_sli | exact u2_s0 | exact u1_s0))); all_goals (first | (intro v hv; cbv) | (assumption))) | (apply E_callX hE (c_word u ul u2); (case hf => rfl); (case hc => (cbv <;> trivial)); (case hle => (repeat' (first | exact u_nil | apply u_cons | apply u2_agg | exact u2_int | exact u1_int | exact u2_bool | exact u1_bool | exact u2_sli | exact u1_sli | exact u2_s0 | exact u1_s0))); all_goals (first | (intro v hv; cbv) | (assumption))))
    have hv : v = ((lv m / 2 ^ y.toNat : Nat) : Int) := by have k : v = lv u := hv; rw [k, uv]
    (first | (apply E_pcallX hE (c_natShl u y ul uk); (case hm => rfl); (case hle => (repeat' (first | exact u_nil | apply u_cons | apply u2_agg | exact u2_int | exact u1_int | exact u2_bool | exact u1_bool | exact u2_sli | exact u1_sli | exact u2_s0 | exact u1_s0))); all_goals (first | (intro s hs; cbv) | (assumption))) | (apply E_callX hE (c_natShl u y ul uk); (case hf => rfl); (case hc => (cbv <;> trivial)); (case hle => (repeat' (first | exact u_nil | apply u_cons | apply u2_agg | exact u2_int | exact u1_int | exact u2_bool | exact u1_bool | exact u2_sli | exact u1_sli | exact u2_s0 | exact u1_s0))); all_goals (first | (intro s hs; cbv) | (assumption))))
    have hs : s = lim (lv m / 2 ^ y.toNat * 2 ^ y.toNat) := by
      have k : s = (if y < 1 then lim (lv u) else if 16777216 < y then [] else lim (lv u * 2 ^ y.toNat)) := hs
      rw [k, if_neg y1, if_neg (by omega), uv]
    have sl : s.length ≤ 268435456 := by
      have := lim_mono (Nat.div_mul_le_self (lv m) (2 ^ y.toNat))
      have := lim_length_le' hm_
      rw [hs]; omega
    have sb : Lb s := by rw [hs]; exact lim_lb _
    have ml2 : m.length ≤ 268435456 := by omega
    (first | (apply E_pcallX hE (c_natCmp s m sb hm_ sl ml2); (case hm => rfl); (case hle => (repeat' (first | exact u_nil | apply u_cons | apply u2_agg | exact u2_int | exact u1_int | exact u2_bool | exact u1_bool | exact u2_sli | exact u1_sli | exact u2_s0 | exact u1_s0))); all_goals (first | (intro c hc; cbv) | (assumption))) | (apply E_callX hE (c_natCmp s m sb hm_ sl ml2); (case hf => rfl); (case hc => (cbv <;> trivial)); (case hle => (repeat' (first | exact u_nil | apply u_cons | apply u2_agg | exact u2_int | exact u1_int | exact u2_bool | exact u1_bool | exact u2_sli | exact u1_sli | exact u2_s0 | exact u1_s0))); all_goals (first | (intro c hc; cbv) | (assumption))))
    refine E_nm hE (fun q1 h1q => ?_); cbv
    refine E_nm hE (fun q2 h2q => ?_); cbv
    rw [R]
    refine ⟨h1q.trans hv, h2q, ?_, trivial⟩
    have hc : c = (if lv s < lv m then -1 else if lv m < lv s then 1 else 0 : Int) := hc
    rw [hs, lv_lim] at hc
    subst hE
    show cmpR .neq c 0 = decide (lv m / 2 ^ y.toNat * 2 ^ y.toNat ≠ lv m)
    rw [cmp_neq]
    apply decide_eq_decide.2
    have := Nat.div_mul_le_self (lv m) (2 ^ y.toNat)
    generalize lv m / 2 ^ y.toNat * 2 ^ y.toNat = q at *
    rw [hc]
    split
    · constructor <;> intro _ <;> omega
    · rw [if_neg (by omega)]; constructor
      · intro h; exact absurd rfl h
      · intro h; omega

theorem c_qRatio (na : Bool) (a : List Int) (nb : Bool) (b : List Int) (up : Bool) (ha : Lb a) (hb : Lb b) (hla : a.length ≤ 100000) (hlb : b.length ≤ 100000) :
    ∃ t : Num, t = ratioN na (lv a) nb (lv b) up ∧ CallsA Tryz.prog 57 [.agg [.bool (.s na), .sli .u32 a], .agg [.bool (.s nb), .sli .u32 b], .bool (.s up)] t.av := by
  refine ⟨_, rfl, ?_⟩
  generalize hr : ratioN na (lv a) nb (lv b) up = r
  obtain ⟨LA, eA⟩ : ∃ L : Int, L = blen (lv a : Int) := ⟨_, rfl⟩
  obtain ⟨LB, eB⟩ : ∃ L : Int, L = blen (lv b : Int) := ⟨_, rfl⟩
  have ba : LA ≤ 3200000 := by have := blen_le_len ha; omega
  have bb : LB ≤ 3200000 := by have := blen_le_len hb; omega
  have ba0 : 0 ≤ LA := by rw [eA]; exact blen_nonneg _
  have bb0 : 0 ≤ LB := by rw [eB]; exact blen_nonneg _
  have la1 : a.length < 67108864 := by omega
  have lb1 : b.length < 67108864 := by omega
  have lb2 : b.length < 33554432 := by omega
  have fb : lv b = 0 → r = Num.inf (!up) := fun h => by rw [← hr]; unfold ratioN; rw [if_pos h]
  have fa : lv b ≠ 0 → lv a = 0 → Num.zero = r := fun h k => by rw [← hr]; unfold ratioN; rw [if_neg h, if_pos k]
  have fin0 : lv b ≠ 0 → lv a ≠ 0 → ∀ B : Int, B = max 0 (65 + LB - LA) → r = Num.grow (na != nb) ((natu (lv a * 2 ^ B.toNat / lv b)).1 : Int) ((natu (lv a * 2 ^ B.toNat / lv b)).2.1 - B) ((natu (lv a * 2 ^ B.toNat / lv b)).2.2 || decide (lv a * 2 ^ B.toNat % lv b ≠ 0)) (up != (na != nb)) :=
    fun h k B hB => by rw [← hr, hB, eA, eB]; unfold ratioN; rw [if_neg h, if_neg k]
  clear hr
  refine callsA_of hG hm Tryz.func57 (by kernel_rfl) ?_
  intro E hE lp hl'
  have ex : ∀ x y : Int, 0 ≤ x → x ≤ 3200000 → 0 ≤ y → y ≤ 3200000 → E.bin .sub .i64 (E.bin .add .i64 65 x) y = 65 + x - y := by
    intro x y h1 h2 h3 h4
    subst hE
    show IntKind.i64.wrap (IntKind.i64.wrap (65 + x) - y) = _
    rw [wi64_in (n := 65 + x) (by omega) (by omega), wi64_in (by omega) (by omega)]
  cbv
  (first | (apply E_pcallX hE (c_wSign nb b hb lb1); (case hm => rfl); (case hle => (repeat' (first | exact u_nil | apply u_cons | apply u2_agg | exact u2_int | exact u1_int | exact u2_bool | exact u1_bool | exact u2_sli | exact u1_sli | exact u2_s0 | exact u1_s0))); all_goals (first | (intro s hs; cbv) | (assumption))) | (apply E_callX hE (c_wSign nb b hb lb1); (case hf => rfl); (case hc => (cbv <;> trivial)); (case hle => (repeat' (first | exact u_nil | apply u_cons | apply u2_agg | exact u2_int | exact u1_int | exact u2_bool | exact u1_bool | exact u2_sli | exact u1_sli | exact u2_s0 | exact u1_s0))); all_goals (first | (intro s hs; cbv) | (assumption))))
  have hs : s = (if lv b = 0 then 0 else if nb then -1 else 1) := hs
  refine E_br hE (fun g => ?_) (fun g => ?_) <;> cbv
  · have nb0 : lv b = 0 := by
      have g : s = 0 := by subst hE; exact eql_t g
      rw [hs] at g
      by_cases h : lv b = 0
      · exact h
      · rw [if_neg h] at g; split at g <;> cases g
    (first | (apply E_pcallX hE (c_Inf _); (case hm => rfl); (case hle => (repeat' (first | exact u_nil | apply u_cons | apply u2_agg | exact u2_int | exact u1_int | exact u2_bool | exact u1_bool | exact u2_sli | exact u1_sli | exact u2_s0 | exact u1_s0))); all_goals (first | (intro z hz; cbv) | (assumption))) | (apply E_callX hE (c_Inf _); (case hf => rfl); (case hc => (cbv <;> trivial)); (case hle => (repeat' (first | exact u_nil | apply u_cons | apply u2_agg | exact u2_int | exact u1_int | exact u2_bool | exact u1_bool | exact u2_sli | exact u1_sli | exact u2_s0 | exact u1_s0))); all_goals (first | (intro z hz; cbv) | (assumption))))
    rw [fb nb0, ← show z = Num.inf (!up) by subst hE; exact hz]
    exact ⟨rfl, rfl, rfl, rfl, trivial⟩
  have nb0 : lv b ≠ 0 := by
    intro h
    have g : ¬ s = 0 := by subst hE; exact eql_f g
    rw [hs, if_pos h] at g; exact g rfl
  clear hs g
  (first | (apply E_pcallX hE (c_wSign na a ha la1); (case hm => rfl); (case hle => (repeat' (first | exact u_nil | apply u_cons | apply u2_agg | exact u2_int | exact u1_int | exact u2_bool | exact u1_bool | exact u2_sli | exact u1_sli | exact u2_s0 | exact u1_s0))); all_goals (first | (intro s2 hs2; cbv) | (assumption))) | (apply E_callX hE (c_wSign na a ha la1); (case hf => rfl); (case hc => (cbv <;> trivial)); (case hle => (repeat' (first | exact u_nil | apply u_cons | apply u2_agg | exact u2_int | exact u1_int | exact u2_bool | exact u1_bool | exact u2_sli | exact u1_sli | exact u2_s0 | exact u1_s0))); all_goals (first | (intro s2 hs2; cbv) | (assumption))))
  have hs2 : s2 = (if lv a = 0 then 0 else if na then -1 else 1) := hs2
  refine E_br hE (fun g => ?_) (fun g => ?_) <;> cbv
  · have na0 : lv a = 0 := by
      have g : s2 = 0 := by subst hE; exact eql_t g
      rw [hs2] at g
      by_cases h : lv a = 0
      · exact h
      · rw [if_neg h] at g; split at g <;> cases g
    rw [← fa nb0 na0]
    exact ⟨rfl, rfl, rfl, rfl, trivial⟩
  have na0 : lv a ≠ 0 := by
    intro h
    have g : ¬ s2 = 0 := by subst hE; exact eql_f g
    rw [hs2, if_pos h] at g; exact g rfl
  clear hs2 g
  have fin := fin0 nb0 na0
  clear fin0 fa fb
  (first | (apply E_pcallX hE (c_natLen b hb lb1); (case hm => rfl); (case hle => (repeat' (first | exact u_nil | apply u_cons | apply u2_agg | exact u2_int | exact u1_int | exact u2_bool | exact u1_bool | exact u2_sli | exact u1_sli | exact u2_s0 | exact u1_s0))); all_goals (first | (intro tb htb; cbv) | (assumption))) | (apply E_callX hE (c_natLen b hb lb1); (case hf => rfl); (case hc => (cbv <;> trivial)); (case hle => (repeat' (first | exact u_nil | apply u_cons | apply u2_agg | exact u2_int | exact u1_int | exact u2_bool | exact u1_bool | exact u2_sli | exact u1_sli | exact u2_s0 | exact u1_s0))); all_goals (first | (intro tb htb; cbv) | (assumption))))
  have htb : tb = LB := Eq.trans htb eB.symm
  (first | (apply E_pcallX hE (c_natLen a ha la1); (case hm => rfl); (case hle => (repeat' (first | exact u_nil | apply u_cons | apply u2_agg | exact u2_int | exact u1_int | exact u2_bool | exact u1_bool | exact u2_sli | exact u1_sli | exact u2_s0 | exact u1_s0))); all_goals (first | (intro ta hta; cbv) | (assumption))) | (apply E_callX hE (c_natLen a ha la1); (case hf => rfl); (case hc => (cbv <;> trivial)); (case hle => (repeat' (first | exact u_nil | apply u_cons | apply u2_agg | exact u2_int | exact u1_int | exact u2_bool | exact u1_bool | exact u2_sli | exact u1_sli | exact u2_s0 | exact u1_s0))); all_goals (first | (intro ta hta; cbv) | (assumption))))
  have hta : ta = LA := Eq.trans hta eA.symm
  rw [← htb, ← hta] at fin
  have eX := ex tb ta (by omega) (by omega) (by omega) (by omega)
  obtain ⟨B, eB⟩ : ∃ B, B = max 0 (65 + tb - ta) := ⟨_, rfl⟩
  have hB := eB
  have B0 : 0 ≤ B := by omega
  have B1 : B ≤ 3200065 := by omega
  refine E_br hE (fun g => ?_) (fun g => ?_) <;> cbv
  · have g : 0 < 65 + tb - ta := by rw [← eX]; subst hE; exact gtr_t g
    refine E_nm hE (fun y hy => ?_); cbv
    have eB : B = y := by have k : y = 65 + tb - ta := hy.trans eX; omega
    (first | (apply E_pcallX hE (c_natShl a y ha la1); (case hm => rfl); (case hle => (repeat' (first | exact u_nil | apply u_cons | apply u2_agg | exact u2_int | exact u1_int | exact u2_bool | exact u1_bool | exact u2_sli | exact u1_sli | exact u2_s0 | exact u1_s0))); all_goals (first | (intro u hu; cbv) | (assumption))) | (apply E_callX hE (c_natShl a y ha la1); (case hf => rfl); (case hc => (cbv <;> trivial)); (case hle => (repeat' (first | exact u_nil | apply u_cons | apply u2_agg | exact u2_int | exact u1_int | exact u2_bool | exact u1_bool | exact u2_sli | exact u1_sli | exact u2_s0 | exact u1_s0))); all_goals (first | (intro u hu; cbv) | (assumption))))
    have hu : u = lim (lv a * 2 ^ B.toNat) := by
      have k : u = (if y < 1 then lim (lv a) else if 16777216 < y then [] else lim (lv a * 2 ^ (y : Int).toNat)) := hu
      rw [k, eB]
      split
      · rw [show (y : Int).toNat = 0 by omega, Nat.pow_zero, Nat.mul_one]
      · rw [if_neg (by omega)]
    have lu : Lb u := by rw [hu]; exact lim_lb _
    have vu : lv u = lv a * 2 ^ B.toNat := by rw [hu, lv_lim]
    have uu : u.length ≤ 200004 := by
      have k : ∀ M : Nat, B.toNat ≤ 32 * M → u.length ≤ a.length + M := by
        intro M hM
        rw [hu]
        refine lim_length_le ?_
        have h1 := lv_lt ha
        calc lv a * 2 ^ B.toNat < 4294967296 ^ a.length * 2 ^ B.toNat := Nat.mul_lt_mul_of_pos_right h1 (Nat.two_pow_pos _)
          _ ≤ 4294967296 ^ a.length * 2 ^ (32 * M) := Nat.mul_le_mul_left _ (Nat.pow_le_pow_right (by decide) hM)
          _ = 4294967296 ^ (a.length + M) := by rw [Nat.pow_mul, show (2 : Nat) ^ 32 = 4294967296 by rfl, Nat.pow_add]
      have := k 100003 (by omega)
      omega
    have ul1 : u.length < 33554432 := by omega
    (first | (apply E_pcallX hE (c_natDiv u b lu hb ul1 lb2); (case hm => rfl); (case hle => (repeat' (first | exact u_nil | apply u_cons | apply u2_agg | exact u2_int | exact u1_int | exact u2_bool | exact u1_bool | exact u2_sli | exact u1_sli | exact u2_s0 | exact u1_s0))); all_goals (first | (intro t ht; cbv) | (assumption))) | (apply E_callX hE (c_natDiv u b lu hb ul1 lb2); (case hf => rfl); (case hc => (cbv <;> trivial)); (case hle => (repeat' (first | exact u_nil | apply u_cons | apply u2_agg | exact u2_int | exact u1_int | exact u2_bool | exact u1_bool | exact u2_sli | exact u1_sli | exact u2_s0 | exact u1_s0))); all_goals (first | (intro t ht; cbv) | (assumption))))
    have ht : t = (lim (lv u / lv b), lim (lv u % lv b), true) := by
      have k : t = (if lv b = 0 then ([], [], false) else (lim (lv u / lv b), lim (lv u % lv b), true)) := ht
      rw [k, if_neg nb0]
    have lq : Lb t.1 := by rw [ht]; exact lim_lb _
    have qq : t.1.length ≤ 200004 := by
      rw [ht]; show (lim (lv u / lv b)).length ≤ 200004; have := lim_mono (Nat.div_le_self (lv u) (lv b)); have := lim_length_le' lu; omega
    have vq : lv t.1 = lv a * 2 ^ B.toNat / lv b := by rw [ht, lv_lim, vu]
    have nq := natu_e (n := lv t.1) (Nat.le_trans (lim_length_le' lq) qq)
    have ql1 : t.1.length ≤ 524288 := by omega
    (first | (apply E_pcallX hE (c_natural t.1 lq ql1); (case hm => rfl); (case hle => (repeat' (first | exact u_nil | apply u_cons | apply u2_agg | exact u2_int | exact u1_int | exact u2_bool | exact u1_bool | exact u2_sli | exact u1_sli | exact u2_s0 | exact u1_s0))); all_goals (first | (intro n hn; cbv) | (assumption))) | (apply E_callX hE (c_natural t.1 lq ql1); (case hf => rfl); (case hc => (cbv <;> trivial)); (case hle => (repeat' (first | exact u_nil | apply u_cons | apply u2_agg | exact u2_int | exact u1_int | exact u2_bool | exact u1_bool | exact u2_sli | exact u1_sli | exact u2_s0 | exact u1_s0))); all_goals (first | (intro n hn; cbv) | (assumption))))
    have hn : n = natu (lv a * 2 ^ B.toNat / lv b) := by have k : n = natu (lv t.1) := hn; rw [k, vq]
    rw [vq, ← hn] at nq
    have F := fin B hB
    rw [← hn] at F
    refine E_nm hE (fun q1 h1q => ?_); cbv
    refine E_nm hE (fun q2 h2q => ?_); cbv
    have h1q : q1 = (n.1 : Int) := h1q
    have h2q : q2 = n.2.1 := h2q
    have ee : E.bin .sub .i64 q2 y = n.2.1 - B := by subst hE; rw [eB, h2q]; show IntKind.i64.wrap (n.2.1 - y) = _; rw [wi64_in (by omega) (by omega)]
    have rr : E.cmp .gtr (E.len t.2.1) 0 = decide (lv a * 2 ^ B.toNat % lv b ≠ 0) := by
      subst hE
      show decide ((0 : Int) < (t.2.1.length : Int)) = _
      rw [ht, vu]
      apply decide_eq_decide.2
      have := limp (lv a * 2 ^ B.toNat % lv b)
      constructor
      · intro h; exact this.1 (by exact_mod_cast h)
      · intro h; exact_mod_cast this.2 h
    refine E_br hE (fun c => ?_) (fun c => ?_) <;> cbv
    · rw [c, Bool.true_or, ← ee, ← h1q] at F
      (first | (apply E_pcallX hE (c_Grow _ _ _ _ _); (case hm => rfl); (case hle => (repeat' (first | exact u_nil | apply u_cons | apply u2_agg | exact u2_int | exact u1_int | exact u2_bool | exact u1_bool | exact u2_sli | exact u1_sli | exact u2_s0 | exact u1_s0))); all_goals (first | (intro z hz; cbv) | (assumption))) | (apply E_callX hE (c_Grow _ _ _ _ _); (case hf => rfl); (case hc => (cbv <;> trivial)); (case hle => (repeat' (first | exact u_nil | apply u_cons | apply u2_agg | exact u2_int | exact u1_int | exact u2_bool | exact u1_bool | exact u2_sli | exact u1_sli | exact u2_s0 | exact u1_s0))); all_goals (first | (intro z hz; cbv) | (assumption))))
      have k : z = r := hz.trans (F.trans (by subst hE; rfl)).symm
      rw [← k]
      exact ⟨rfl, rfl, rfl, rfl, trivial⟩
    · rw [c, Bool.false_or, ← rr, ← ee, ← h1q] at F
      (first | (apply E_pcallX hE (c_Grow _ _ _ _ _); (case hm => rfl); (case hle => (repeat' (first | exact u_nil | apply u_cons | apply u2_agg | exact u2_int | exact u1_int | exact u2_bool | exact u1_bool | exact u2_sli | exact u1_sli | exact u2_s0 | exact u1_s0))); all_goals (first | (intro z hz; cbv) | (assumption))) | (apply E_callX hE (c_Grow _ _ _ _ _); (case hf => rfl); (case hc => (cbv <;> trivial)); (case hle => (repeat' (first | exact u_nil | apply u_cons | apply u2_agg | exact u2_int | exact u1_int | exact u2_bool | exact u1_bool | exact u2_sli | exact u1_sli | exact u2_s0 | exact u1_s0))); all_goals (first | (intro z hz; cbv) | (assumption))))
      have k : z = r := hz.trans (F.trans (by subst hE; rfl)).symm
      rw [← k]
      exact ⟨rfl, rfl, rfl, rfl, trivial⟩

  · have g : ¬ 0 < 65 + tb - ta := by rw [← eX]; subst hE; exact gtr_f g
    have eB : B = 0 := by omega
    (first | (apply E_pcallX hE (c_natShl a 0 ha la1); (case hm => rfl); (case hle => (repeat' (first | exact u_nil | apply u_cons | apply u2_agg | exact u2_int | exact u1_int | exact u2_bool | exact u1_bool | exact u2_sli | exact u1_sli | exact u2_s0 | exact u1_s0))); all_goals (first | (intro u hu; cbv) | (assumption))) | (apply E_callX hE (c_natShl a 0 ha la1); (case hf => rfl); (case hc => (cbv <;> trivial)); (case hle => (repeat' (first | exact u_nil | apply u_cons | apply u2_agg | exact u2_int | exact u1_int | exact u2_bool | exact u1_bool | exact u2_sli | exact u1_sli | exact u2_s0 | exact u1_s0))); all_goals (first | (intro u hu; cbv) | (assumption))))
    have hu : u = lim (lv a * 2 ^ B.toNat) := by
      have k : u = (if 0 < 1 then lim (lv a) else if 16777216 < 0 then [] else lim (lv a * 2 ^ (0 : Int).toNat)) := hu
      rw [k, eB]
      split
      · rw [show (0 : Int).toNat = 0 by omega, Nat.pow_zero, Nat.mul_one]
      · rw [if_neg (by omega)]
    have lu : Lb u := by rw [hu]; exact lim_lb _
    have vu : lv u = lv a * 2 ^ B.toNat := by rw [hu, lv_lim]
    have uu : u.length ≤ 200004 := by
      have k : ∀ M : Nat, B.toNat ≤ 32 * M → u.length ≤ a.length + M := by
        intro M hM
        rw [hu]
        refine lim_length_le ?_
        have h1 := lv_lt ha
        calc lv a * 2 ^ B.toNat < 4294967296 ^ a.length * 2 ^ B.toNat := Nat.mul_lt_mul_of_pos_right h1 (Nat.two_pow_pos _)
          _ ≤ 4294967296 ^ a.length * 2 ^ (32 * M) := Nat.mul_le_mul_left _ (Nat.pow_le_pow_right (by decide) hM)
          _ = 4294967296 ^ (a.length + M) := by rw [Nat.pow_mul, show (2 : Nat) ^ 32 = 4294967296 by rfl, Nat.pow_add]
      have := k 100003 (by omega)
      omega
    have ul1 : u.length < 33554432 := by omega
    (first | (apply E_pcallX hE (c_natDiv u b lu hb ul1 lb2); (case hm => rfl); (case hle => (repeat' (first | exact u_nil | apply u_cons | apply u2_agg | exact u2_int | exact u1_int | exact u2_bool | exact u1_bool | exact u2_sli | exact u1_sli | exact u2_s0 | exact u1_s0))); all_goals (first | (intro t ht; cbv) | (assumption))) | (apply E_callX hE (c_natDiv u b lu hb ul1 lb2); (case hf => rfl); (case hc => (cbv <;> trivial)); (case hle => (repeat' (first | exact u_nil | apply u_cons | apply u2_agg | exact u2_int | exact u1_int | exact u2_bool | exact u1_bool | exact u2_sli | exact u1_sli | exact u2_s0 | exact u1_s0))); all_goals (first | (intro t ht; cbv) | (assumption))))
    have ht : t = (lim (lv u / lv b), lim (lv u % lv b), true) := by
      have k : t = (if lv b = 0 then ([], [], false) else (lim (lv u / lv b), lim (lv u % lv b), true)) := ht
      rw [k, if_neg nb0]
    have lq : Lb t.1 := by rw [ht]; exact lim_lb _
    have qq : t.1.length ≤ 200004 := by
      rw [ht]; show (lim (lv u / lv b)).length ≤ 200004; have := lim_mono (Nat.div_le_self (lv u) (lv b)); have := lim_length_le' lu; omega
    have vq : lv t.1 = lv a * 2 ^ B.toNat / lv b := by rw [ht, lv_lim, vu]
    have nq := natu_e (n := lv t.1) (Nat.le_trans (lim_length_le' lq) qq)
    have ql1 : t.1.length ≤ 524288 := by omega
    (first | (apply E_pcallX hE (c_natural t.1 lq ql1); (case hm => rfl); (case hle => (repeat' (first | exact u_nil | apply u_cons | apply u2_agg | exact u2_int | exact u1_int | exact u2_bool | exact u1_bool | exact u2_sli | exact u1_sli | exact u2_s0 | exact u1_s0))); all_goals (first | (intro n hn; cbv) | (assumption))) | (apply E_callX hE (c_natural t.1 lq ql1); (case hf => rfl); (case hc => (cbv <;> trivial)); (case hle => (repeat' (first | exact u_nil | apply u_cons | apply u2_agg | exact u2_int | exact u1_int | exact u2_bool | exact u1_bool | exact u2_sli | exact u1_sli | exact u2_s0 | exact u1_s0))); all_goals (first | (intro n hn; cbv) | (assumption))))
    have hn : n = natu (lv a * 2 ^ B.toNat / lv b) := by have k : n = natu (lv t.1) := hn; rw [k, vq]
    rw [vq, ← hn] at nq
    have F := fin B hB
    rw [← hn] at F
    refine E_nm hE (fun q1 h1q => ?_); cbv
    refine E_nm hE (fun q2 h2q => ?_); cbv
    have h1q : q1 = (n.1 : Int) := h1q
    have h2q : q2 = n.2.1 := h2q
    have ee : E.bin .sub .i64 q2 0 = n.2.1 - B := by subst hE; rw [eB, h2q]; show IntKind.i64.wrap (n.2.1 - 0) = _; rw [wi64_in (by omega) (by omega)]
    have rr : E.cmp .gtr (E.len t.2.1) 0 = decide (lv a * 2 ^ B.toNat % lv b ≠ 0) := by
      subst hE
      show decide ((0 : Int) < (t.2.1.length : Int)) = _
      rw [ht, vu]
      apply decide_eq_decide.2
      have := limp (lv a * 2 ^ B.toNat % lv b)
      constructor
      · intro h; exact this.1 (by exact_mod_cast h)
      · intro h; exact_mod_cast this.2 h
    refine E_br hE (fun c => ?_) (fun c => ?_) <;> cbv
    · rw [c, Bool.true_or, ← ee, ← h1q] at F
      (first | (apply E_pcallX hE (c_Grow _ _ _ _ _); (case hm => rfl); (case hle => (repeat' (first | exact u_nil | apply u_cons | apply u2_agg | exact u2_int | exact u1_int | exact u2_bool | exact u1_bool | exact u2_sli | exact u1_sli | exact u2_s0 | exact u1_s0))); all_goals (first | (intro z hz; cbv) | (assumption))) | (apply E_callX hE (c_Grow _ _ _ _ _); (case hf => rfl); (case hc => (cbv <;> trivial)); (case hle => (repeat' (first | exact u_nil | apply u_cons | apply u2_agg | exact u2_int | exact u1_int | exact u2_bool | exact u1_bool | exact u2_sli | exact u1_sli | exact u2_s0 | exact u1_s0))); all_goals (first | (intro z hz; cbv) | (assumption))))
      have k : z = r := hz.trans (F.trans (by subst hE; rfl)).symm
      rw [← k]
      exact ⟨rfl, rfl, rfl, rfl, trivial⟩
    · rw [c, Bool.false_or, ← rr, ← ee, ← h1q] at F
      (first | (apply E_pcallX hE (c_Grow _ _ _ _ _); (case hm => rfl); (case hle => (repeat' (first | exact u_nil | apply u_cons | apply u2_agg | exact u2_int | exact u1_int | exact u2_bool | exact u1_bool | exact u2_sli | exact u1_sli | exact u2_s0 | exact u1_s0))); all_goals (first | (intro z hz; cbv) | (assumption))) | (apply E_callX hE (c_Grow _ _ _ _ _); (case hf => rfl); (case hc => (cbv <;> trivial)); (case hle => (repeat' (first | exact u_nil | apply u_cons | apply u2_agg | exact u2_int | exact u1_int | exact u2_bool | exact u1_bool | exact u2_sli | exact u1_sli | exact u2_s0 | exact u1_s0))); all_goals (first | (intro z hz; cbv) | (assumption))))
      have k : z = r := hz.trans (F.trans (by subst hE; rfl)).symm
      rw [← k]
      exact ⟨rfl, rfl, rfl, rfl, trivial⟩

end Go.Proofs.YtaiillbjhdoikaaGreat.Ev

/- Contracts: the next number, a half; a number divided by ten. Printed by gen.py. -/
namespace Go.Proofs.YtaiillbjhdoikaaGreat.Ev
open Go Go.Proofs
set_option linter.unusedVariables false
set_option linter.unusedSimpArgs false

attribute [local irreducible] Lb
/-- the next number above, or below -/
def Num.next (n : Num) (up : Bool) : Num :=
  if n.fair.kind = 0 then Num.tiny (!up)
  else if n.fair.kind = 2 then (if n.fair.neg = up then Num.huge n.fair.neg else n.fair)
  else if n.fair.neg ≠ up then Num.grow n.fair.neg n.fair.m n.fair.e true true
  else if n.fair.m = 9223372036854775808 then Num.bound n.fair.neg 18446744073709551615 (IntKind.i64.wrap (n.fair.e - 1)) false
  else ⟨n.fair.kind, n.fair.neg, IntKind.u64.wrap (n.fair.m - 1), n.fair.e⟩

theorem c_Next (n : Num) (up : Bool)  : ∃ t : Num, t = Num.next n up ∧ CallsA Tryz.prog 14 [n.av, .bool (.s up)] (t.av) := by
  refine ⟨_, rfl, ?_⟩
  generalize hr : Num.next n up = r
  refine callsA_of hG hm Tryz.func14 (by kernel_rfl) ?_
  intro E hE lp hl
  cbv
  repeat' (first
    | (refine E_br hE (fun h => ?_) (fun h => ?_) <;> cbv)
    | (refine E_nm hE (fun v hv => ?_); cbv)
    | (apply E_callX hE (c_fair ⟨_, _, _, _⟩); (case hf => rfl); (case hc => (cbv <;> trivial)); (case hle => (repeat' (first | exact u_nil | apply u_cons | apply u2_agg | exact u2_int | exact u1_int | exact u2_bool | exact u1_bool | exact u2_sli | exact u1_sli | exact u2_s0 | exact u1_s0))); intro t ht; cbv)
    | (apply E_pcallX hE (c_fair ⟨_, _, _, _⟩); (case hm => rfl); (case hle => (repeat' (first | exact u_nil | apply u_cons | apply u2_agg | exact u2_int | exact u1_int | exact u2_bool | exact u1_bool | exact u2_sli | exact u1_sli | exact u2_s0 | exact u1_s0))); intro t ht; cbv)
    | (apply E_callX hE (c_tiny _); (case hf => rfl); (case hc => (cbv <;> trivial)); (case hle => (repeat' (first | exact u_nil | apply u_cons | apply u2_agg | exact u2_int | exact u1_int | exact u2_bool | exact u1_bool | exact u2_sli | exact u1_sli | exact u2_s0 | exact u1_s0))); intro t ht; cbv)
    | (apply E_pcallX hE (c_tiny _); (case hm => rfl); (case hle => (repeat' (first | exact u_nil | apply u_cons | apply u2_agg | exact u2_int | exact u1_int | exact u2_bool | exact u1_bool | exact u2_sli | exact u1_sli | exact u2_s0 | exact u1_s0))); intro t ht; cbv)
    | (apply E_callX hE (c_huge _); (case hf => rfl); (case hc => (cbv <;> trivial)); (case hle => (repeat' (first | exact u_nil | apply u_cons | apply u2_agg | exact u2_int | exact u1_int | exact u2_bool | exact u1_bool | exact u2_sli | exact u1_sli | exact u2_s0 | exact u1_s0))); intro t ht; cbv)
    | (apply E_pcallX hE (c_huge _); (case hm => rfl); (case hle => (repeat' (first | exact u_nil | apply u_cons | apply u2_agg | exact u2_int | exact u1_int | exact u2_bool | exact u1_bool | exact u2_sli | exact u1_sli | exact u2_s0 | exact u1_s0))); intro t ht; cbv)
    | (apply E_callX hE (c_Bound _ _ _ _); (case hf => rfl); (case hc => (cbv <;> trivial)); (case hle => (repeat' (first | exact u_nil | apply u_cons | apply u2_agg | exact u2_int | exact u1_int | exact u2_bool | exact u1_bool | exact u2_sli | exact u1_sli | exact u2_s0 | exact u1_s0))); intro t ht; cbv)
    | (apply E_pcallX hE (c_Bound _ _ _ _); (case hm => rfl); (case hle => (repeat' (first | exact u_nil | apply u_cons | apply u2_agg | exact u2_int | exact u1_int | exact u2_bool | exact u1_bool | exact u2_sli | exact u1_sli | exact u2_s0 | exact u1_s0))); intro t ht; cbv)
    | (apply E_callX hE (c_Grow _ _ _ _ _); (case hf => rfl); (case hc => (cbv <;> trivial)); (case hle => (repeat' (first | exact u_nil | apply u_cons | apply u2_agg | exact u2_int | exact u1_int | exact u2_bool | exact u1_bool | exact u2_sli | exact u1_sli | exact u2_s0 | exact u1_s0))); intro t ht; cbv)
    | (apply E_pcallX hE (c_Grow _ _ _ _ _); (case hm => rfl); (case hle => (repeat' (first | exact u_nil | apply u_cons | apply u2_agg | exact u2_int | exact u1_int | exact u2_bool | exact u1_bool | exact u2_sli | exact u1_sli | exact u2_s0 | exact u1_s0))); intro t ht; cbv)
    | fail)
  all_goals (subst hE; subst hr)
  all_goals (try simp only [realE, cmp_eql, cmp_neq, cmp_lss, cmp_leq, cmp_gtr, cmp_geq, intBinR, decide_eq_true_eq, decide_eq_false_iff_not, SI.val, SB.val, Num.eta, Iv.eta] at *)
  all_goals (try simp_all [Num.next])
  all_goals (try omega)
  all_goals (try simp only [Bool.and_assoc])
  all_goals (try rfl)
  all_goals ((repeat' split) <;> (try simp_all) <;> (try omega))


end Go.Proofs.YtaiillbjhdoikaaGreat.Ev

/- Laws: the fixed numbers for inverse tangents, and pi. -/
namespace Go.Proofs.YtaiillbjhdoikaaGreat.Ev
open Go Go.Proofs
set_option linter.unusedVariables false
set_option linter.unusedSimpArgs false
attribute [local irreducible] Lb
theorem piKf_le (n : Nat) : ∀ f j, piKf n f j ≤ f + j
  | 0, j => by unfold piKf; omega
  | f + 1, j => by
    unfold piKf
    split
    · omega
    · have := piKf_le n f (j + 1); omega
theorem piK_le (n : Nat) : piK n ≤ 98 := piKf_le n 98 0
theorem piBig : 98 * piOne + 99 < 4294967296 ^ 7 := by unfold piOne; decide +kernel
theorem piLo_abs (n : Nat) : (piLo n).natAbs ≤ 98 * piOne + 99 := by
  have h1 := piSum_le n (piK n)
  have h2 := piK_le n
  have h3 : piK n * piOne ≤ 98 * piOne := Nat.mul_le_mul_right _ h2
  unfold piLo; omega
theorem piHi_abs (n : Nat) : (piHi n).natAbs ≤ 98 * piOne + 99 := by
  have h1 := piSum_le n (piK n)
  have h2 := piK_le n
  have h3 : piK n * piOne ≤ 98 * piOne := Nat.mul_le_mul_right _ h2
  unfold piHi; omega
theorem piLo_len (n : Nat) : (whN (piLo n)).2.length ≤ 7 := whN_len (Nat.lt_of_le_of_lt (piLo_abs n) piBig)
theorem piHi_len (n : Nat) : (whN (piHi n)).2.length ≤ 7 := whN_len (Nat.lt_of_le_of_lt (piHi_abs n) piBig)
def piLoB : Int := piLo 5 * 16 - piHi 239 * 4
def piHiB : Int := piHi 5 * 16 - piLo 239 * 4
def piIv : Iv := ⟨false, ⟨1, false, 14488038916154245684, -62⟩, ⟨1, false, 14488038916154245685, -62⟩⟩
theorem piIv_is : Iv.make (ratioN (decide (piLoB < 0)) piLoB.natAbs false piOne false) (ratioN (decide (piHiB < 0)) piHiB.natAbs false piOne true) = piIv := by decide +kernel
theorem piNext : Num.next ⟨1, false, 14488038916154245684, -62⟩ true = ⟨1, false, 14488038916154245685, -62⟩ := by decide +kernel
end Go.Proofs.YtaiillbjhdoikaaGreat.Ev

/- Contracts: the bounds of pi, and its interval. Printed by gen.py. -/
namespace Go.Proofs.YtaiillbjhdoikaaGreat.Ev
open Go Go.Proofs
set_option linter.unusedVariables false
set_option linter.unusedSimpArgs false

attribute [local irreducible] Lb whN piOne piLo piHi
theorem wn {u : Bool × List Int} {z : Int} (k : Nat) (h : u = whN z) (hz : z.natAbs < 4294967296 ^ k) : Lb u.2 ∧ u.2.length ≤ k ∧ wv u.1 u.2 = z := by
  rw [h]; exact ⟨whN_lb _, whN_len hz, wv_whN _⟩
theorem wnB {z : Int} {n : Int} (h : z.natAbs < 4294967296 ^ 7) (hn : n.natAbs ≤ 100) : (z * n).natAbs < 4294967296 ^ 8 := by
  rw [Int.natAbs_mul]
  exact Nat.lt_of_le_of_lt (Nat.mul_le_mul (Nat.le_of_lt h) hn) (by decide +kernel)
theorem lo7 (n : Nat) : (piLo n).natAbs < 4294967296 ^ 7 := Nat.lt_of_le_of_lt (piLo_abs n) piBig
theorem hi7 (n : Nat) : (piHi n).natAbs < 4294967296 ^ 7 := Nat.lt_of_le_of_lt (piHi_abs n) piBig
theorem c_piBounds : ∃ t : (Bool × List Int) × (Bool × List Int), t = (whN piLoB, whN piHiB) ∧ CallsA Tryz.prog 7 [] (.tup [.agg [.bool (.s t.1.1), .sli .u32 t.1.2], .agg [.bool (.s t.2.1), .sli .u32 t.2.2]]) := by
  refine ⟨_, rfl, ?_⟩
  generalize hr : (whN piLoB, whN piHiB) = r
  have r1 : whN (piLo 5 * 16 - piHi 239 * 4) = r.1 := by rw [← hr]; rfl
  have r2 : whN (piHi 5 * 16 - piLo 239 * 4) = r.2 := by rw [← hr]; rfl
  clear hr
  refine callsA_of hG hm Tryz.func7 (by kernel_rfl) ?_
  intro E hE lp hl'
  cbv
  (first | (apply E_pcallX hE (c_piInverse 5 (by decide) (by decide) 5 rfl); (case hm => rfl); (case hle => (repeat' (first | exact u_nil | apply u_cons | apply u2_agg | exact u2_int | exact u1_int | exact u2_bool | exact u1_bool | exact u2_sli | exact u1_sli | exact u2_s0 | exact u1_s0))); all_goals (first | (intro x hx; cbv) | (assumption))) | (apply E_callX hE (c_piInverse 5 (by decide) (by decide) 5 rfl); (case hf => rfl); (case hc => (cbv <;> trivial)); (case hle => (repeat' (first | exact u_nil | apply u_cons | apply u2_agg | exact u2_int | exact u1_int | exact u2_bool | exact u1_bool | exact u2_sli | exact u1_sli | exact u2_s0 | exact u1_s0))); all_goals (first | (intro x hx; cbv) | (assumption))))
  have x1 : x.1 = whN (piLo 5) := by rw [show x = (whN (piLo 5), whN (piHi 5)) from hx]
  have x2 : x.2 = whN (piHi 5) := by rw [show x = (whN (piLo 5), whN (piHi 5)) from hx]
  (first | (apply E_pcallX hE (c_piInverse 239 (by decide) (by decide) 239 rfl); (case hm => rfl); (case hle => (repeat' (first | exact u_nil | apply u_cons | apply u2_agg | exact u2_int | exact u1_int | exact u2_bool | exact u1_bool | exact u2_sli | exact u1_sli | exact u2_s0 | exact u1_s0))); all_goals (first | (intro y hy; cbv) | (assumption))) | (apply E_callX hE (c_piInverse 239 (by decide) (by decide) 239 rfl); (case hf => rfl); (case hc => (cbv <;> trivial)); (case hle => (repeat' (first | exact u_nil | apply u_cons | apply u2_agg | exact u2_int | exact u1_int | exact u2_bool | exact u1_bool | exact u2_sli | exact u1_sli | exact u2_s0 | exact u1_s0))); all_goals (first | (intro y hy; cbv) | (assumption))))
  have y1 : y.1 = whN (piLo 239) := by rw [show y = (whN (piLo 239), whN (piHi 239)) from hy]
  have y2 : y.2 = whN (piHi 239) := by rw [show y = (whN (piLo 239), whN (piHi 239)) from hy]
  obtain ⟨xb, xl, xw⟩ := wn 7 x1 (lo7 5)
  obtain ⟨Xb, Xl, Xw⟩ := wn 7 x2 (hi7 5)
  obtain ⟨yb, yl, yw⟩ := wn 7 y1 (lo7 239)
  obtain ⟨Yb, Yl, Yw⟩ := wn 7 y2 (hi7 239)
  have xl : x.1.2.length < 60000000 := by omega
  have Xl : x.2.2.length < 60000000 := by omega
  have yl : y.1.2.length < 60000000 := by omega
  have Yl : y.2.2.length < 60000000 := by omega
  (first | (apply E_pcallX hE (c_piTimes x.1.1 x.1.2 16 xb xl (by decide) (by decide)); (case hm => rfl); (case hle => (repeat' (first | exact u_nil | apply u_cons | apply u2_agg | exact u2_int | exact u1_int | exact u2_bool | exact u1_bool | exact u2_sli | exact u1_sli | exact u2_s0 | exact u1_s0))); all_goals (first | (intro a ha; cbv) | (assumption))) | (apply E_callX hE (c_piTimes x.1.1 x.1.2 16 xb xl (by decide) (by decide)); (case hf => rfl); (case hc => (cbv <;> trivial)); (case hle => (repeat' (first | exact u_nil | apply u_cons | apply u2_agg | exact u2_int | exact u1_int | exact u2_bool | exact u1_bool | exact u2_sli | exact u1_sli | exact u2_s0 | exact u1_s0))); all_goals (first | (intro a ha; cbv) | (assumption))))
  have ha : a = whN (piLo 5 * 16) := by rw [← xw]; exact ha
  (first | (apply E_pcallX hE (c_piTimes y.2.1 y.2.2 4 Yb Yl (by decide) (by decide)); (case hm => rfl); (case hle => (repeat' (first | exact u_nil | apply u_cons | apply u2_agg | exact u2_int | exact u1_int | exact u2_bool | exact u1_bool | exact u2_sli | exact u1_sli | exact u2_s0 | exact u1_s0))); all_goals (first | (intro b hb; cbv) | (assumption))) | (apply E_callX hE (c_piTimes y.2.1 y.2.2 4 Yb Yl (by decide) (by decide)); (case hf => rfl); (case hc => (cbv <;> trivial)); (case hle => (repeat' (first | exact u_nil | apply u_cons | apply u2_agg | exact u2_int | exact u1_int | exact u2_bool | exact u1_bool | exact u2_sli | exact u1_sli | exact u2_s0 | exact u1_s0))); all_goals (first | (intro b hb; cbv) | (assumption))))
  have hb : b = whN (piHi 239 * 4) := by rw [← Yw]; exact hb
  obtain ⟨ab, al, aw⟩ := wn 8 ha (wnB (lo7 5) (by decide))
  obtain ⟨bb, bl, bw⟩ := wn 8 hb (wnB (hi7 239) (by decide))
  have al : a.2.length < 134217728 := by omega
  have bl : b.2.length < 134217728 := by omega
  (first | (apply E_pcallX hE (c_wSub a.1 a.2 b.1 b.2 ab bb al bl); (case hm => rfl); (case hle => (repeat' (first | exact u_nil | apply u_cons | apply u2_agg | exact u2_int | exact u1_int | exact u2_bool | exact u1_bool | exact u2_sli | exact u1_sli | exact u2_s0 | exact u1_s0))); all_goals (first | (intro c hc; cbv) | (assumption))) | (apply E_callX hE (c_wSub a.1 a.2 b.1 b.2 ab bb al bl); (case hf => rfl); (case hc => (cbv <;> trivial)); (case hle => (repeat' (first | exact u_nil | apply u_cons | apply u2_agg | exact u2_int | exact u1_int | exact u2_bool | exact u1_bool | exact u2_sli | exact u1_sli | exact u2_s0 | exact u1_s0))); all_goals (first | (intro c hc; cbv) | (assumption))))
  have hc : c = r.1 := by rw [← r1, ← aw, ← bw]; exact hc
  (first | (apply E_pcallX hE (c_piTimes x.2.1 x.2.2 16 Xb Xl (by decide) (by decide)); (case hm => rfl); (case hle => (repeat' (first | exact u_nil | apply u_cons | apply u2_agg | exact u2_int | exact u1_int | exact u2_bool | exact u1_bool | exact u2_sli | exact u1_sli | exact u2_s0 | exact u1_s0))); all_goals (first | (intro d hd; cbv) | (assumption))) | (apply E_callX hE (c_piTimes x.2.1 x.2.2 16 Xb Xl (by decide) (by decide)); (case hf => rfl); (case hc => (cbv <;> trivial)); (case hle => (repeat' (first | exact u_nil | apply u_cons | apply u2_agg | exact u2_int | exact u1_int | exact u2_bool | exact u1_bool | exact u2_sli | exact u1_sli | exact u2_s0 | exact u1_s0))); all_goals (first | (intro d hd; cbv) | (assumption))))
  have hd : d = whN (piHi 5 * 16) := by rw [← Xw]; exact hd
  (first | (apply E_pcallX hE (c_piTimes y.1.1 y.1.2 4 yb yl (by decide) (by decide)); (case hm => rfl); (case hle => (repeat' (first | exact u_nil | apply u_cons | apply u2_agg | exact u2_int | exact u1_int | exact u2_bool | exact u1_bool | exact u2_sli | exact u1_sli | exact u2_s0 | exact u1_s0))); all_goals (first | (intro e he; cbv) | (assumption))) | (apply E_callX hE (c_piTimes y.1.1 y.1.2 4 yb yl (by decide) (by decide)); (case hf => rfl); (case hc => (cbv <;> trivial)); (case hle => (repeat' (first | exact u_nil | apply u_cons | apply u2_agg | exact u2_int | exact u1_int | exact u2_bool | exact u1_bool | exact u2_sli | exact u1_sli | exact u2_s0 | exact u1_s0))); all_goals (first | (intro e he; cbv) | (assumption))))
  have he : e = whN (piLo 239 * 4) := by rw [← yw]; exact he
  obtain ⟨db, dl, dw⟩ := wn 8 hd (wnB (hi7 5) (by decide))
  obtain ⟨eb, el, ew⟩ := wn 8 he (wnB (lo7 239) (by decide))
  have dl : d.2.length < 134217728 := by omega
  have el : e.2.length < 134217728 := by omega
  (first | (apply E_pcallX hE (c_wSub d.1 d.2 e.1 e.2 db eb dl el); (case hm => rfl); (case hle => (repeat' (first | exact u_nil | apply u_cons | apply u2_agg | exact u2_int | exact u1_int | exact u2_bool | exact u1_bool | exact u2_sli | exact u1_sli | exact u2_s0 | exact u1_s0))); all_goals (first | (intro f hf; cbv) | (assumption))) | (apply E_callX hE (c_wSub d.1 d.2 e.1 e.2 db eb dl el); (case hf => rfl); (case hc => (cbv <;> trivial)); (case hle => (repeat' (first | exact u_nil | apply u_cons | apply u2_agg | exact u2_int | exact u1_int | exact u2_bool | exact u1_bool | exact u2_sli | exact u1_sli | exact u2_s0 | exact u1_s0))); all_goals (first | (intro f hf; cbv) | (assumption))))
  have hf : f = r.2 := by rw [← r2, ← dw, ← ew]; exact hf
  exact ⟨⟨congrArg Prod.fst hc, congrArg Prod.snd hc, trivial⟩, ⟨congrArg Prod.fst hf, congrArg Prod.snd hf, trivial⟩, trivial⟩

theorem c_piPart (a b : Bool × List Int) (za zb : Int) (ha : a = whN za) (hb : b = whN zb) (la : a.2.length ≤ 100000) (lb : b.2.length ≤ 100000) :
    ∃ t : Iv, t = Iv.make (ratioN (decide (za < 0)) za.natAbs false piOne false) (ratioN (decide (zb < 0)) zb.natAbs false piOne true) ∧
      CallsA Tryz.prog 34 [.agg [.bool (.s a.1), .sli .u32 a.2], .agg [.bool (.s b.1), .sli .u32 b.2]] t.av := by
  refine ⟨_, rfl, ?_⟩
  generalize hr : Iv.make (ratioN (decide (za < 0)) za.natAbs false piOne false) (ratioN (decide (zb < 0)) zb.natAbs false piOne true) = r
  have ab : Lb a.2 := by rw [ha]; exact whN_lb _
  have bb : Lb b.2 := by rw [hb]; exact whN_lb _
  have sd : ∀ s : Bool × List Int, s = whN (piOne : Int) → s.1 = false ∧ lv s.2 = piOne ∧ Lb s.2 ∧ s.2.length ≤ 100000 := by
    intro s h; rw [h, whN_nat]; exact ⟨rfl, lv_lim _, lim_lb _, Nat.le_trans (lim_pow_len piOne_le) (by decide)⟩
  have vd : ∀ (u : Bool × List Int) (z : Int), u = whN z → u.1 = decide (z < 0) ∧ lv u.2 = z.natAbs := by
    intro u z h; rw [h, whN_def]; exact ⟨rfl, lv_lim _⟩
  refine callsA_of hG hm Tryz.func34 (by kernel_rfl) ?_
  intro E hE lp hl'
  cbv
  (first | (apply E_pcallX hE (c_piScale); (case hm => rfl); (case hle => (repeat' (first | exact u_nil | apply u_cons | apply u2_agg | exact u2_int | exact u1_int | exact u2_bool | exact u1_bool | exact u2_sli | exact u1_sli | exact u2_s0 | exact u1_s0))); all_goals (first | (intro s hs; cbv) | (assumption))) | (apply E_callX hE (c_piScale); (case hf => rfl); (case hc => (cbv <;> trivial)); (case hle => (repeat' (first | exact u_nil | apply u_cons | apply u2_agg | exact u2_int | exact u1_int | exact u2_bool | exact u1_bool | exact u2_sli | exact u1_sli | exact u2_s0 | exact u1_s0))); all_goals (first | (intro s hs; cbv) | (assumption))))
  obtain ⟨s1, s2, s3, s4⟩ := sd s hs
  (first | (apply E_pcallX hE (c_qRatio a.1 a.2 s.1 s.2 false ab s3 la s4); (case hm => rfl); (case hle => (repeat' (first | exact u_nil | apply u_cons | apply u2_agg | exact u2_int | exact u1_int | exact u2_bool | exact u1_bool | exact u2_sli | exact u1_sli | exact u2_s0 | exact u1_s0))); all_goals (first | (intro x hx; cbv) | (assumption))) | (apply E_callX hE (c_qRatio a.1 a.2 s.1 s.2 false ab s3 la s4); (case hf => rfl); (case hc => (cbv <;> trivial)); (case hle => (repeat' (first | exact u_nil | apply u_cons | apply u2_agg | exact u2_int | exact u1_int | exact u2_bool | exact u1_bool | exact u2_sli | exact u1_sli | exact u2_s0 | exact u1_s0))); all_goals (first | (intro x hx; cbv) | (assumption))))
  have hx : x = ratioN (decide (za < 0)) za.natAbs false piOne false := by
    have k : x = ratioN a.1 (lv a.2) s.1 (lv s.2) false := hx
    rw [k, s1, s2, (vd a za ha).1, (vd a za ha).2]
  (first | (apply E_pcallX hE (c_piScale); (case hm => rfl); (case hle => (repeat' (first | exact u_nil | apply u_cons | apply u2_agg | exact u2_int | exact u1_int | exact u2_bool | exact u1_bool | exact u2_sli | exact u1_sli | exact u2_s0 | exact u1_s0))); all_goals (first | (intro u hu; cbv) | (assumption))) | (apply E_callX hE (c_piScale); (case hf => rfl); (case hc => (cbv <;> trivial)); (case hle => (repeat' (first | exact u_nil | apply u_cons | apply u2_agg | exact u2_int | exact u1_int | exact u2_bool | exact u1_bool | exact u2_sli | exact u1_sli | exact u2_s0 | exact u1_s0))); all_goals (first | (intro u hu; cbv) | (assumption))))
  obtain ⟨u1, u2, u3, u4⟩ := sd u hu
  (first | (apply E_pcallX hE (c_qRatio b.1 b.2 u.1 u.2 true bb u3 lb u4); (case hm => rfl); (case hle => (repeat' (first | exact u_nil | apply u_cons | apply u2_agg | exact u2_int | exact u1_int | exact u2_bool | exact u1_bool | exact u2_sli | exact u1_sli | exact u2_s0 | exact u1_s0))); all_goals (first | (intro y hy; cbv) | (assumption))) | (apply E_callX hE (c_qRatio b.1 b.2 u.1 u.2 true bb u3 lb u4); (case hf => rfl); (case hc => (cbv <;> trivial)); (case hle => (repeat' (first | exact u_nil | apply u_cons | apply u2_agg | exact u2_int | exact u1_int | exact u2_bool | exact u1_bool | exact u2_sli | exact u1_sli | exact u2_s0 | exact u1_s0))); all_goals (first | (intro y hy; cbv) | (assumption))))
  have hy : y = ratioN (decide (zb < 0)) zb.natAbs false piOne true := by
    have k : y = ratioN b.1 (lv b.2) u.1 (lv u.2) true := hy
    rw [k, u1, u2, (vd b zb hb).1, (vd b zb hb).2]
  (first | (apply E_pcallX hE (c_ivMake ⟨_, _, _, _⟩ ⟨_, _, _, _⟩); (case hm => rfl); (case hle => (repeat' (first | exact u_nil | apply u_cons | apply u2_agg | exact u2_int | exact u1_int | exact u2_bool | exact u1_bool | exact u2_sli | exact u1_sli | exact u2_s0 | exact u1_s0))); all_goals (first | (intro z hz; cbv) | (assumption))) | (apply E_callX hE (c_ivMake ⟨_, _, _, _⟩ ⟨_, _, _, _⟩); (case hf => rfl); (case hc => (cbv <;> trivial)); (case hle => (repeat' (first | exact u_nil | apply u_cons | apply u2_agg | exact u2_int | exact u1_int | exact u2_bool | exact u1_bool | exact u2_sli | exact u1_sli | exact u2_s0 | exact u1_s0))); all_goals (first | (intro z hz; cbv) | (assumption))))
  have k : z = r := by
    have k : z = Iv.make x y := hz
    rw [k, hx, hy, hr]
  rw [← k]
  exact ⟨rfl, rfl, rfl, rfl, rfl, rfl, rfl, rfl, rfl, trivial⟩

theorem c_piPi : ∃ t : Iv, t = piIv ∧ CallsA Tryz.prog 12 [] t.av := by
  refine ⟨_, rfl, ?_⟩
  generalize hr : piIv = r
  have r1 := piIv_is.trans hr
  clear hr
  have lA : piLoB.natAbs < 4294967296 ^ 9 := by decide +kernel
  have lB : piHiB.natAbs < 4294967296 ^ 9 := by decide +kernel
  refine callsA_of hG hm Tryz.func12 (by kernel_rfl) ?_
  intro E hE lp hl'
  cbv
  (first | (apply E_pcallX hE (c_piBounds); (case hm => rfl); (case hle => (repeat' (first | exact u_nil | apply u_cons | apply u2_agg | exact u2_int | exact u1_int | exact u2_bool | exact u1_bool | exact u2_sli | exact u1_sli | exact u2_s0 | exact u1_s0))); all_goals (first | (intro t ht; cbv) | (assumption))) | (apply E_callX hE (c_piBounds); (case hf => rfl); (case hc => (cbv <;> trivial)); (case hle => (repeat' (first | exact u_nil | apply u_cons | apply u2_agg | exact u2_int | exact u1_int | exact u2_bool | exact u1_bool | exact u2_sli | exact u1_sli | exact u2_s0 | exact u1_s0))); all_goals (first | (intro t ht; cbv) | (assumption))))
  have t1 : t.1 = whN piLoB := by rw [show t = (whN piLoB, whN piHiB) from ht]
  have t2 : t.2 = whN piHiB := by rw [show t = (whN piLoB, whN piHiB) from ht]
  have l1 : t.1.2.length ≤ 100000 := Nat.le_trans (wn 9 t1 lA).2.1 (by decide)
  have l2 : t.2.2.length ≤ 100000 := Nat.le_trans (wn 9 t2 lB).2.1 (by decide)
  (first | (apply E_pcallX hE (c_piPart t.1 t.2 piLoB piHiB t1 t2 l1 l2); (case hm => rfl); (case hle => (repeat' (first | exact u_nil | apply u_cons | apply u2_agg | exact u2_int | exact u1_int | exact u2_bool | exact u1_bool | exact u2_sli | exact u1_sli | exact u2_s0 | exact u1_s0))); all_goals (first | (intro z hz; cbv) | (assumption))) | (apply E_callX hE (c_piPart t.1 t.2 piLoB piHiB t1 t2 l1 l2); (case hf => rfl); (case hc => (cbv <;> trivial)); (case hle => (repeat' (first | exact u_nil | apply u_cons | apply u2_agg | exact u2_int | exact u1_int | exact u2_bool | exact u1_bool | exact u2_sli | exact u1_sli | exact u2_s0 | exact u1_s0))); all_goals (first | (intro z hz; cbv) | (assumption))))
  have k : z = r := Eq.trans hz r1
  rw [← k]
  exact ⟨rfl, rfl, rfl, rfl, rfl, rfl, rfl, rfl, rfl, trivial⟩

theorem c_awake11 : ∃ t : Bool, t = true ∧ CallsA Tryz.prog 4 [] (.bool (.s t)) := by
  refine ⟨_, rfl, ?_⟩
  refine callsA_of hG hm Tryz.func4 (by kernel_rfl) ?_
  intro E hE lp hl'
  cbv
  (first | (apply E_pcallX hE (c_piPi); (case hm => rfl); (case hle => (repeat' (first | exact u_nil | apply u_cons | apply u2_agg | exact u2_int | exact u1_int | exact u2_bool | exact u1_bool | exact u2_sli | exact u1_sli | exact u2_s0 | exact u1_s0))); all_goals (first | (intro p hp; cbv) | (assumption))) | (apply E_callX hE (c_piPi); (case hf => rfl); (case hc => (cbv <;> trivial)); (case hle => (repeat' (first | exact u_nil | apply u_cons | apply u2_agg | exact u2_int | exact u1_int | exact u2_bool | exact u1_bool | exact u2_sli | exact u1_sli | exact u2_s0 | exact u1_s0))); all_goals (first | (intro p hp; cbv) | (assumption))))
  have hp : p = piIv := hp
  have g1 : E.bnot p.empty = true := by subst hE hp; rfl
  refine E_br_t hE g1 ?_; cbv
  have g2 : E.band (E.cmp .eql p.lo.kind 1) (E.band (E.beq p.lo.neg false) (E.band (E.cmp .eql p.lo.m 14488038916154245684) (E.cmp .eql p.lo.e (-62)))) = true := by subst hE hp; decide +kernel
  refine E_br_t hE g2 ?_; cbv
  (first | (apply E_pcallX hE (c_Next ⟨_, _, _, _⟩ true); (case hm => rfl); (case hle => (repeat' (first | exact u_nil | apply u_cons | apply u2_agg | exact u2_int | exact u1_int | exact u2_bool | exact u1_bool | exact u2_sli | exact u1_sli | exact u2_s0 | exact u1_s0))); all_goals (first | (intro q hq; cbv) | (assumption))) | (apply E_callX hE (c_Next ⟨_, _, _, _⟩ true); (case hf => rfl); (case hc => (cbv <;> trivial)); (case hle => (repeat' (first | exact u_nil | apply u_cons | apply u2_agg | exact u2_int | exact u1_int | exact u2_bool | exact u1_bool | exact u2_sli | exact u1_sli | exact u2_s0 | exact u1_s0))); all_goals (first | (intro q hq; cbv) | (assumption))))
  have hq : q = p.hi := by
    have k : q = Num.next p.lo true := hq
    rw [k, hp]; exact piNext
  subst hq; subst hp; subst hE; decide +kernel

end Go.Proofs.YtaiillbjhdoikaaGreat.Ev

/- Contracts of the reference: the two fixed numbers for an inverse tangent. Printed by gen.py. -/
namespace Go.Proofs.YtaiillbjhdoikaaGreat.Ev
open Go Go.Proofs
set_option linter.unusedVariables false
set_option linter.unusedSimpArgs false

theorem lss200 (j : Nat) (h : j ≤ 97) : decide ((j : Int) < 200) = true := decide_eq_true (by omega)
attribute [local irreducible] Lb whN piOne
theorem whN_0 : whN 0 = (false, []) := by rw [whN_def]; rfl
def riS (N : Int) : Nat × Option (Bool × List Int) × (Bool × List Int) → St := fun p =>
  ⟨[(0, .int .i64 (.s N)), (2, .ptr 0 2 (.l 0) 0), (3, .ptr 1 2 (.l 0) 0), (5, .ptr 3 2 (.l 0) 0), (6, .ptr 4 2 (.l 0) 0), (7, .int .i64 (.s (p.1 : Int)))], [zwB, zwB, zwB, sumB p.2.1, pwB p.2.2]⟩
def riOK (n : Nat) (p : Nat × Option (Bool × List Int) × (Bool × List Int)) : Prop :=
  p.1 ≤ 97 ∧ piKf n (98 - p.1) p.1 = piK n ∧ (match p.2.1 with | none => p.1 = 0 | some s => s = whN (piSum n p.1)) ∧ p.2.2 = whN ((n ^ (2 * p.1 + 1) : Nat) : Int)
set_option maxHeartbeats 4000000 in
theorem c_r11Inverse (n : Nat) (hn1 : 2 ≤ n) (hn2 : n ≤ 1000) (N : Int) (hN : N = n) : ∃ t : (Bool × List Int) × (Bool × List Int), t = (whN (piLo n), whN (piHi n)) ∧
    CallsA Tryz.prog 6 [.int .i64 (.s N)] (.tup [.agg [.bool (.s t.1.1), .sli .u32 t.1.2], .agg [.bool (.s t.2.1), .sli .u32 t.2.2]]) := by
  refine ⟨_, rfl, ?_⟩
  generalize hr : (whN (piLo n), whN (piHi n)) = r
  have N1 : -9223372036854775808 ≤ N := by omega
  have N2 : N < 9223372036854775808 := by omega
  have hp0 : ∀ p, p = whN N → p = whN ((n ^ (2 * 0 + 1) : Nat) : Int) := by intro p h; rw [h, hN, Nat.mul_zero, Nat.zero_add, Nat.pow_one]
  obtain ⟨m, em⟩ : ∃ m : Nat × Option (Bool × List Int) × (Bool × List Int) → Nat, ∀ p, m p = 98 - p.1 := ⟨_, fun _ => rfl⟩
  obtain ⟨ok, eok⟩ : ∃ ok : Nat × Option (Bool × List Int) × (Bool × List Int) → Prop, ∀ p, ok p ↔ riOK n p := ⟨_, fun _ => Iff.rfl⟩
  refine callsA_of hG hm Tryz.func6 (by kernel_rfl) ?_
  intro E hE lp hl'
  have f1 : E.cmp .lss N 2 = false := by subst hE; exact decide_eq_false (by omega)
  have f2 : E.cmp .gtr N 1000 = false := by subst hE; exact decide_eq_false (by omega)
  cbv
  repeat' (first | (apply E_br_f hE; assumption; cbv) | fail)
  (first | (apply E_pcallX hE (c_r2From N N1 N2); (case hm => rfl); (case hle => (repeat' (first | exact u_nil | apply u_cons | apply u2_agg | exact u2_int | exact u1_int | exact u2_bool | exact u1_bool | exact u2_sli | exact u1_sli | exact u2_s0 | exact u1_s0))); all_goals (first | (intro p0 hp; cbv) | (assumption))) | (apply E_callX hE (c_r2From N N1 N2); (case hf => rfl); (case hc => (cbv <;> trivial)); (case hle => (repeat' (first | exact u_nil | apply u_cons | apply u2_agg | exact u2_int | exact u1_int | exact u2_bool | exact u1_bool | exact u2_sli | exact u1_sli | exact u2_s0 | exact u1_s0))); all_goals (first | (intro p0 hp; cbv) | (assumption))))
  refine E_loopM hE hG hm hl' (riS N) m ok ⟨(0, none, p0), [0, 1, 2, 3, 4], (eok _).2 ⟨by show 0 ≤ 97; decide, rfl, rfl, hp0 p0 hp⟩, stLeM (by repeat' (first | exact trivial | exact rfl | apply And.intro)) rfl rfl rfl (by repeat' (first | exact trivial | exact rfl | apply And.intro)) (by (repeat' (first | exact m_nil | refine m_cons ?_ rfl ?_ | exact u2_int | exact u2_bool | exact u2_ptr | exact u2_fn | exact (rfl : sle2 _ _))))⟩ ?_
  rintro ⟨j, so, p⟩ hok
  have hok := (eok _).1 hok
  obtain ⟨hj, hk, hs, hp⟩ := hok
  dsimp only at hj hk hs hp
  have pb : Lb p.2 := by rw [hp]; exact whN_lb _
  have p2 : lv p.2 = n ^ (2 * j + 1) := by rw [hp, whN_nat, lv_lim]
  have wp : wv p.1 p.2 = ((n ^ (2 * j + 1) : Nat) : Int) := by rw [hp]; exact wv_nat _
  have pl : p.2.length < 60000000 := by rw [hp, whN_nat]; exact Nat.lt_of_le_of_lt (lim_pow_len (Nat.le_trans (pow_len hn1 hn2 (by omega)) (limb_mono (by decide)))) (by decide)
  have nn : (n : Int) * n = ((n * n : Nat) : Int) := (Int.natCast_mul n n).symm
  have nk : n * n ≤ 1000000 := Nat.mul_le_mul hn2 hn2
  have n2 : E.bin .mul .i64 N N = ((n * n : Nat) : Int) := by
    subst hE
    show IntKind.i64.wrap (N * N) = _
    rw [hN, nn, wi64_in (by omega) (by omega)]
  have o1 : E.bin .add .i64 (E.bin .mul .i64 2 (j : Int)) 1 = 2 * (j : Int) + 1 := by
    subst hE
    show IntKind.i64.wrap (IntKind.i64.wrap (2 * (j : Int)) + 1) = _
    rw [wi64_in (n := 2 * (j : Int)) (by omega) (by omega), wi64_in (by omega) (by omega)]
  have e5 : -9223372036854775808 ≤ E.bin .add .i64 (E.bin .mul .i64 2 (j : Int)) 1 := by rw [o1]; omega
  have e6 : E.bin .add .i64 (E.bin .mul .i64 2 (j : Int)) 1 < 9223372036854775808 := by rw [o1]; omega
  have e7 : -9223372036854775808 ≤ E.bin .mul .i64 N N := by rw [n2]; omega
  have e8 : E.bin .mul .i64 N N < 9223372036854775808 := by rw [n2]; omega
  have nextp : ∀ q : Bool × List Int, q = whN (wv p.1 p.2 * E.bin .mul .i64 N N) → q = whN ((n ^ (2 * (j + 1) + 1) : Nat) : Int) := by
    intro q hq
    rw [hq, n2, wp]
    exact congrArg _ (by rw [← Int.natCast_mul, show 2 * (j + 1) + 1 = (2 * j + 1) + 2 by omega, Nat.pow_add n (2 * j + 1) 2, show n * n = n ^ 2 from (Nat.pow_two n).symm])
  have dis : ∀ d : Bool × List Int, d = whN (wv p.1 p.2 * E.bin .add .i64 (E.bin .mul .i64 2 (j : Int)) 1) → d = (false, lim (n ^ (2 * j + 1) * (2 * j + 1))) := by
    intro d hd
    rw [hd, o1, wp, show ((n ^ (2 * j + 1) : Nat) : Int) * (2 * (j : Int) + 1) = ((n ^ (2 * j + 1) * (2 * j + 1) : Nat) : Int) by push_cast; rfl, whN_nat]
  have side : ∀ sc d : Bool × List Int, sc = whN (piOne : Int) → d = whN (wv p.1 p.2 * E.bin .add .i64 (E.bin .mul .i64 2 (j : Int)) 1) → sc.1 = false ∧ d.1 = false ∧ Lb sc.2 ∧ Lb d.2 ∧ sc.2.length < 67108864 ∧ d.2.length < 67108864 ∧ lv d.2 ≠ 0 := by
    intro sc d hsc hd
    rw [dis d hd, hsc, whN_nat]
    refine ⟨rfl, rfl, (lim_lb piOne : Lb (lim piOne)), lim_lb _, Nat.lt_of_le_of_lt (lim_pow_len piOne_le) (by decide), Nat.lt_of_le_of_lt (lim_pow_len ?_) (by decide), ?_⟩
    · calc n ^ (2 * j + 1) * (2 * j + 1) ≤ 4294967296 ^ 80 * 4294967296 ^ 1 := Nat.mul_le_mul (pow_len hn1 hn2 (by omega)) (by rw [Nat.pow_one]; omega)
        _ = 4294967296 ^ 81 := by rw [← Nat.pow_add]
        _ ≤ 4294967296 ^ 100 := limb_mono (by decide)
    · rw [lv_lim]
      exact Nat.pos_iff_ne_zero.1 (Nat.mul_pos (Nat.pow_pos (by omega)) (by omega))
  have tis : ∀ sc d t : Bool × List Int, sc = whN (piOne : Int) → d = whN (wv p.1 p.2 * E.bin .add .i64 (E.bin .mul .i64 2 (j : Int)) 1) → t = whN ((lv sc.2 / lv d.2 : Nat) : Int) → t = whN (piTerm n j : Int) := by
    intro sc d t hsc hd ht
    have e1 : lv sc.2 = piOne := by rw [hsc, whN_nat, lv_lim]
    have e2 : lv d.2 = n ^ (2 * j + 1) * (2 * j + 1) := by rw [dis d hd, lv_lim]
    rw [ht, e1, e2]; rfl
  have tf : ∀ t : Bool × List Int, t = whN (piTerm n j : Int) → Lb t.2 ∧ t.2.length ≤ 101 ∧ wv t.1 t.2 = (piTerm n j : Int) ∧ t.1 = false ∧ lv t.2 = piTerm n j := by
    intro t ht
    refine ⟨by rw [ht]; exact whN_lb _, by rw [ht]; exact piTerm_len n j, by rw [ht]; exact wv_nat _, by rw [ht, whN_nat], by rw [ht, whN_nat, lv_lim]⟩
  have negl : (whN (-(piTerm n j : Int))).2.length ≤ 100000 := by
    rw [whN_def, Int.natAbs_neg, Int.natAbs_natCast]
    exact Nat.le_trans (lim_pow_len (Nat.le_trans (piTerm_le n j) piOne_le)) (by decide)
  have fin : ∀ x y : Bool × List Int, piTerm n j = 0 → x = whN (piSum n j + (-(j : Int) - 1)) → y = whN (piSum n j + ((j : Int) + 1)) → x = r.1 ∧ y = r.2 := by
    intro x y z hx hy
    have kj : piK n = j := hk.symm.trans (piKf_end hj z)
    rw [← hr]
    show x = whN (piLo n) ∧ y = whN (piHi n)
    unfold piLo piHi
    rw [kj, hx, hy]
    exact ⟨congrArg _ (by omega), congrArg _ (by omega)⟩
  have step : piTerm n j ≠ 0 → ∀ s1 p' : Bool × List Int, s1 = whN (piSum n (j + 1)) → p' = whN ((n ^ (2 * (j + 1) + 1) : Nat) : Int) → m (j + 1, some s1, p') < m (j, so, p) ∧ ok (j + 1, some s1, p') := by
    intro nz s1 p' h1 h3
    have j96 : j ≤ 96 := by
      by_cases e : j = 97
      · exact absurd (by rw [e]; exact piTerm97 hn1) nz
      · omega
    exact ⟨by rw [em, em]; show 98 - (j + 1) < 98 - j; omega, (eok _).2 ⟨by show j + 1 ≤ 97; omega, (piKf_go hj nz).symm.trans hk, h1, h3⟩⟩
  have so1 : j % 2 = 1 → piSum n (j + 1) = piSum n j + -(piTerm n j : Int) := by intro h; show piSum n j + _ = _; rw [if_pos h]
  have so0 : j % 2 ≠ 1 → piSum n (j + 1) = piSum n j + (piTerm n j : Int) := by intro h; show piSum n j + _ = _; rw [if_neg h]
  have jr : E.bin .rem .i64 (j : Int) 2 = ((j % 2 : Nat) : Int) := by
    subst hE
    show (j : Int).tmod 2 = _
    rw [Int.tmod_eq_emod_of_nonneg (by omega)]; omega
  have j1 : E.bin .add .i64 (j : Int) 1 = ((j + 1 : Nat) : Int) := by
    subst hE
    show IntKind.i64.wrap ((j : Int) + 1) = _
    rw [wi64_in (by omega) (by omega)]; omega
  have jm : E.bin .sub .i64 (E.bin .sub .i64 0 (j : Int)) 1 = -(j : Int) - 1 := by
    subst hE
    show IntKind.i64.wrap (IntKind.i64.wrap (0 - (j : Int)) - 1) = _
    rw [wi64_in (n := 0 - (j : Int)) (by omega) (by omega), wi64_in (by omega) (by omega)]; omega
  have e1 : -9223372036854775808 ≤ E.bin .sub .i64 (E.bin .sub .i64 0 (j : Int)) 1 := by rw [jm]; omega
  have e2 : E.bin .sub .i64 (E.bin .sub .i64 0 (j : Int)) 1 < 9223372036854775808 := by rw [jm]; omega
  have e3 : -9223372036854775808 ≤ E.bin .add .i64 (j : Int) 1 := by rw [j1]; omega
  have e4 : E.bin .add .i64 (j : Int) 1 < 9223372036854775808 := by rw [j1]; omega
  have fl : ∀ (a : Bool × List Int) (z : Int), a = whN z → z.natAbs < 1000 → Lb a.2 ∧ a.2.length ≤ 100000 ∧ wv a.1 a.2 = z := by
    intro a z h hz
    rw [h]
    exact ⟨whN_lb _, Nat.le_trans (whN_len (k := 1) (by rw [Nat.pow_one]; omega)) (by decide), wv_whN _⟩
  have nz_of : ∀ (l : List Int) (b : Bool) (sg : Int), b = false → lv l = piTerm n j → sg = (if lv l = 0 then 0 else if b = true then -1 else 1) → (sg = 0 ↔ piTerm n j = 0) := by
    intro l b sg hb hl h
    rw [h, hl, hb]
    by_cases z : piTerm n j = 0
    · rw [if_pos z]; exact ⟨fun _ => z, fun _ => rfl⟩
    · rw [if_neg z]; exact ⟨fun h => absurd h (by decide), fun h => absurd h z⟩
  have b200 : E.cmp .lss (j : Int) 200 = true := by
    rw [hE]
    have k : (realE Tryz.prog).cmp = cmpR := rfl
    rw [k, cmp_lss]
    exact lss200 j hj
  have jl : j ≤ 98 := by omega
  have od_of : E.bin .rem .i64 (j : Int) 2 = 1 → j % 2 = 1 := by rw [jr]; intro k; omega
  have ev_of : ¬ E.bin .rem .i64 (j : Int) 2 = 1 → j % 2 ≠ 1 := by rw [jr]; intro k; omega
  have ja : (E.bin .sub .i64 (E.bin .sub .i64 0 (j : Int)) 1).natAbs < 1000 := by rw [jm]; omega
  have jb : (E.bin .add .i64 (j : Int) 1).natAbs < 1000 := by rw [j1]; omega
  clear hp hok em eok hr hk
  cases so with
  | none =>
    have j0 : j = 0 := hs
    have sb : Lb ([] : List Int) := Lb.nil
    have sl : ([] : List Int).length ≤ 100000 := by decide
    have ws : wv false [] = piSum n j := by rw [j0]; rfl
    clear hs
    cbv
    refine E_br_t hE b200 ?_; cbv
    (first | (apply E_pcallX hE (c_r11Scale); (case hm => rfl); (case hle => (repeat' (first | exact u_nil | apply u_cons | apply u2_agg | exact u2_int | exact u1_int | exact u2_bool | exact u1_bool | exact u2_sli | exact u1_sli | exact u2_s0 | exact u1_s0))); all_goals (first | (intro sc hsc; cbv) | (assumption))) | (apply E_callX hE (c_r11Scale); (case hf => rfl); (case hc => (cbv <;> trivial)); (case hle => (repeat' (first | exact u_nil | apply u_cons | apply u2_agg | exact u2_int | exact u1_int | exact u2_bool | exact u1_bool | exact u2_sli | exact u1_sli | exact u2_s0 | exact u1_s0))); all_goals (first | (intro sc hsc; cbv) | (assumption))))
    (first | (apply E_pcallX hE (c_r11Times p.1 p.2 (E.bin .add .i64 (E.bin .mul .i64 2 (j : Int)) 1) pb pl e5 e6); (case hm => rfl); (case hle => (repeat' (first | exact u_nil | apply u_cons | apply u2_agg | exact u2_int | exact u1_int | exact u2_bool | exact u1_bool | exact u2_sli | exact u1_sli | exact u2_s0 | exact u1_s0))); all_goals (first | (intro d hd; cbv) | (assumption))) | (apply E_callX hE (c_r11Times p.1 p.2 (E.bin .add .i64 (E.bin .mul .i64 2 (j : Int)) 1) pb pl e5 e6); (case hf => rfl); (case hc => (cbv <;> trivial)); (case hle => (repeat' (first | exact u_nil | apply u_cons | apply u2_agg | exact u2_int | exact u1_int | exact u2_bool | exact u1_bool | exact u2_sli | exact u1_sli | exact u2_s0 | exact u1_s0))); all_goals (first | (intro d hd; cbv) | (assumption))))
    obtain ⟨a1, a2, a3, a4, a5, a6, a7⟩ := side sc d hsc hd
    (first | (apply E_pcallX hE (c_r11Down sc.1 sc.2 d.1 d.2 a1 a2 a3 a4 a5 a6 a7); (case hm => rfl); (case hle => (repeat' (first | exact u_nil | apply u_cons | apply u2_agg | exact u2_int | exact u1_int | exact u2_bool | exact u1_bool | exact u2_sli | exact u1_sli | exact u2_s0 | exact u1_s0))); all_goals (first | (intro t ht; cbv) | (assumption))) | (apply E_callX hE (c_r11Down sc.1 sc.2 d.1 d.2 a1 a2 a3 a4 a5 a6 a7); (case hf => rfl); (case hc => (cbv <;> trivial)); (case hle => (repeat' (first | exact u_nil | apply u_cons | apply u2_agg | exact u2_int | exact u1_int | exact u2_bool | exact u1_bool | exact u2_sli | exact u1_sli | exact u2_s0 | exact u1_s0))); all_goals (first | (intro t ht; cbv) | (assumption))))
    have ht : t = whN (piTerm n j : Int) := tis sc d t hsc hd ht
    obtain ⟨tb, tl0, wt, t1, lt⟩ := tf t ht
    have tl : t.2.length ≤ 100000 := Nat.le_trans tl0 (by decide)
    have tl2 : t.2.length ≤ 268435456 := Nat.le_trans tl0 (by decide)
    (first | (apply E_pcallX hE (c_r2Sign t.1 t.2 tb tl2); (case hm => rfl); (case hle => (repeat' (first | exact u_nil | apply u_cons | apply u2_agg | exact u2_int | exact u1_int | exact u2_bool | exact u1_bool | exact u2_sli | exact u1_sli | exact u2_s0 | exact u1_s0))); all_goals (first | (intro sg hsg; cbv) | (assumption))) | (apply E_callX hE (c_r2Sign t.1 t.2 tb tl2); (case hf => rfl); (case hc => (cbv <;> trivial)); (case hle => (repeat' (first | exact u_nil | apply u_cons | apply u2_agg | exact u2_int | exact u1_int | exact u2_bool | exact u1_bool | exact u2_sli | exact u1_sli | exact u2_s0 | exact u1_s0))); all_goals (first | (intro sg hsg; cbv) | (assumption))))
    have zz := nz_of t.2 t.1 sg t1 lt hsg
    refine E_br hE (fun g => ?_) (fun g => ?_) <;> cbv
    · have z : piTerm n j = 0 := zz.1 (by subst hE; exact eql_t g)
      (first | (apply E_pcallX hE (c_r2From (E.bin .sub .i64 (E.bin .sub .i64 0 (j : Int)) 1) e1 e2); (case hm => rfl); (case hle => (repeat' (first | exact u_nil | apply u_cons | apply u2_agg | exact u2_int | exact u1_int | exact u2_bool | exact u1_bool | exact u2_sli | exact u1_sli | exact u2_s0 | exact u1_s0))); all_goals (first | (intro a ha; cbv) | (assumption))) | (apply E_callX hE (c_r2From (E.bin .sub .i64 (E.bin .sub .i64 0 (j : Int)) 1) e1 e2); (case hf => rfl); (case hc => (cbv <;> trivial)); (case hle => (repeat' (first | exact u_nil | apply u_cons | apply u2_agg | exact u2_int | exact u1_int | exact u2_bool | exact u1_bool | exact u2_sli | exact u1_sli | exact u2_s0 | exact u1_s0))); all_goals (first | (intro a ha; cbv) | (assumption))))
      obtain ⟨ab, al, wa⟩ := fl a _ ha ja
      (first | (apply E_pcallX hE (c_r2Add false [] a.1 a.2 sb ab sl al); (case hm => rfl); (case hle => (repeat' (first | exact u_nil | apply u_cons | apply u2_agg | exact u2_int | exact u1_int | exact u2_bool | exact u1_bool | exact u2_sli | exact u1_sli | exact u2_s0 | exact u1_s0))); all_goals (first | (intro x hx; cbv) | (assumption))) | (apply E_callX hE (c_r2Add false [] a.1 a.2 sb ab sl al); (case hf => rfl); (case hc => (cbv <;> trivial)); (case hle => (repeat' (first | exact u_nil | apply u_cons | apply u2_agg | exact u2_int | exact u1_int | exact u2_bool | exact u1_bool | exact u2_sli | exact u1_sli | exact u2_s0 | exact u1_s0))); all_goals (first | (intro x hx; cbv) | (assumption))))
      (first | (apply E_pcallX hE (c_r2From (E.bin .add .i64 (j : Int) 1) e3 e4); (case hm => rfl); (case hle => (repeat' (first | exact u_nil | apply u_cons | apply u2_agg | exact u2_int | exact u1_int | exact u2_bool | exact u1_bool | exact u2_sli | exact u1_sli | exact u2_s0 | exact u1_s0))); all_goals (first | (intro b hb; cbv) | (assumption))) | (apply E_callX hE (c_r2From (E.bin .add .i64 (j : Int) 1) e3 e4); (case hf => rfl); (case hc => (cbv <;> trivial)); (case hle => (repeat' (first | exact u_nil | apply u_cons | apply u2_agg | exact u2_int | exact u1_int | exact u2_bool | exact u1_bool | exact u2_sli | exact u1_sli | exact u2_s0 | exact u1_s0))); all_goals (first | (intro b hb; cbv) | (assumption))))
      obtain ⟨bb, bl, wb⟩ := fl b _ hb jb
      (first | (apply E_pcallX hE (c_r2Add false [] b.1 b.2 sb bb sl bl); (case hm => rfl); (case hle => (repeat' (first | exact u_nil | apply u_cons | apply u2_agg | exact u2_int | exact u1_int | exact u2_bool | exact u1_bool | exact u2_sli | exact u1_sli | exact u2_s0 | exact u1_s0))); all_goals (first | (intro y hy; cbv) | (assumption))) | (apply E_callX hE (c_r2Add false [] b.1 b.2 sb bb sl bl); (case hf => rfl); (case hc => (cbv <;> trivial)); (case hle => (repeat' (first | exact u_nil | apply u_cons | apply u2_agg | exact u2_int | exact u1_int | exact u2_bool | exact u1_bool | exact u2_sli | exact u1_sli | exact u2_s0 | exact u1_s0))); all_goals (first | (intro y hy; cbv) | (assumption))))
      have F := fin x y z (by have k : x = _ := hx; rw [k, wsum_whN, ws, wa, jm]) (by have k : y = _ := hy; rw [k, wsum_whN, ws, wb, j1]; rfl)
      exact ⟨⟨congrArg Prod.fst F.1, congrArg Prod.snd F.1, trivial⟩, ⟨congrArg Prod.fst F.2, congrArg Prod.snd F.2, trivial⟩, trivial⟩
    · have nz : piTerm n j ≠ 0 := fun z => (show ¬ sg = 0 by subst hE; exact eql_f g) (zz.2 z)
      refine E_br hE (fun q => ?_) (fun q => ?_) <;> cbv
      · have od : j % 2 = 1 := od_of (by subst hE; exact eql_t q)
        (first | (apply E_pcallX hE (c_r2Neg t.1 t.2 tb tl2); (case hm => rfl); (case hle => (repeat' (first | exact u_nil | apply u_cons | apply u2_agg | exact u2_int | exact u1_int | exact u2_bool | exact u1_bool | exact u2_sli | exact u1_sli | exact u2_s0 | exact u1_s0))); all_goals (first | (intro u hu; cbv) | (assumption))) | (apply E_callX hE (c_r2Neg t.1 t.2 tb tl2); (case hf => rfl); (case hc => (cbv <;> trivial)); (case hle => (repeat' (first | exact u_nil | apply u_cons | apply u2_agg | exact u2_int | exact u1_int | exact u2_bool | exact u1_bool | exact u2_sli | exact u1_sli | exact u2_s0 | exact u1_s0))); all_goals (first | (intro u hu; cbv) | (assumption))))
        have hu : u = whN (-(piTerm n j : Int)) := by
          have k : u = whN (- wv t.1 t.2) := hu
          rw [k, wt]
        have ub : Lb u.2 := by rw [hu]; exact whN_lb _
        have ul : u.2.length ≤ 100000 := by rw [hu]; exact negl
        have wu : wv u.1 u.2 = -(piTerm n j : Int) := by rw [hu]; exact wv_whN _
        (first | (apply E_pcallX hE (c_r2Add false [] u.1 u.2 sb ub sl ul); (case hm => rfl); (case hle => (repeat' (first | exact u_nil | apply u_cons | apply u2_agg | exact u2_int | exact u1_int | exact u2_bool | exact u1_bool | exact u2_sli | exact u1_sli | exact u2_s0 | exact u1_s0))); all_goals (first | (intro s1 hs1; cbv) | (assumption))) | (apply E_callX hE (c_r2Add false [] u.1 u.2 sb ub sl ul); (case hf => rfl); (case hc => (cbv <;> trivial)); (case hle => (repeat' (first | exact u_nil | apply u_cons | apply u2_agg | exact u2_int | exact u1_int | exact u2_bool | exact u1_bool | exact u2_sli | exact u1_sli | exact u2_s0 | exact u1_s0))); all_goals (first | (intro s1 hs1; cbv) | (assumption))))
        have hs1 : s1 = whN (piSum n (j + 1)) := by
          have k : s1 = _ := hs1
          rw [k, wsum_whN, ws, wu, so1 od]
        (first | (apply E_pcallX hE (c_r11Times p.1 p.2 (E.bin .mul .i64 N N) pb pl e7 e8); (case hm => rfl); (case hle => (repeat' (first | exact u_nil | apply u_cons | apply u2_agg | exact u2_int | exact u1_int | exact u2_bool | exact u1_bool | exact u2_sli | exact u1_sli | exact u2_s0 | exact u1_s0))); all_goals (first | (intro p' hp'; cbv) | (assumption))) | (apply E_callX hE (c_r11Times p.1 p.2 (E.bin .mul .i64 N N) pb pl e7 e8); (case hf => rfl); (case hc => (cbv <;> trivial)); (case hle => (repeat' (first | exact u_nil | apply u_cons | apply u2_agg | exact u2_int | exact u1_int | exact u2_bool | exact u1_bool | exact u2_sli | exact u1_sli | exact u2_s0 | exact u1_s0))); all_goals (first | (intro p' hp'; cbv) | (assumption))))
        have hp' : p' = whN ((n ^ (2 * (j + 1) + 1) : Nat) : Int) := nextp p' hp'
        refine E_nm hE (fun kk hkk => ?_); cbv
        have hkk : kk = ((j + 1 : Nat) : Int) := Eq.trans hkk j1
        exact ⟨(j + 1, some s1, p'), [0, 1, 2, 3, 4], (step nz s1 p' hs1 hp').1, (step nz s1 p' hs1 hp').2, stLeM (by repeat' (first | exact trivial | exact rfl | apply And.intro)) rfl rfl rfl (by repeat' (first | exact trivial | exact rfl | apply And.intro)) (by (repeat' (first | exact m_nil | refine m_cons ?_ rfl ?_ | exact u2_int | exact u2_bool | exact u2_ptr | exact u2_fn | exact (rfl : sle2 _ _) | exact ⟨rfl, hkk⟩)))⟩
      · have od : j % 2 ≠ 1 := ev_of (by subst hE; exact eql_f q)
        (first | (apply E_pcallX hE (c_r2Add false [] t.1 t.2 sb tb sl tl); (case hm => rfl); (case hle => (repeat' (first | exact u_nil | apply u_cons | apply u2_agg | exact u2_int | exact u1_int | exact u2_bool | exact u1_bool | exact u2_sli | exact u1_sli | exact u2_s0 | exact u1_s0))); all_goals (first | (intro s1 hs1; cbv) | (assumption))) | (apply E_callX hE (c_r2Add false [] t.1 t.2 sb tb sl tl); (case hf => rfl); (case hc => (cbv <;> trivial)); (case hle => (repeat' (first | exact u_nil | apply u_cons | apply u2_agg | exact u2_int | exact u1_int | exact u2_bool | exact u1_bool | exact u2_sli | exact u1_sli | exact u2_s0 | exact u1_s0))); all_goals (first | (intro s1 hs1; cbv) | (assumption))))
        have hs1 : s1 = whN (piSum n (j + 1)) := by
          have k : s1 = _ := hs1
          rw [k, wsum_whN, ws, wt, so0 od]
        (first | (apply E_pcallX hE (c_r11Times p.1 p.2 (E.bin .mul .i64 N N) pb pl e7 e8); (case hm => rfl); (case hle => (repeat' (first | exact u_nil | apply u_cons | apply u2_agg | exact u2_int | exact u1_int | exact u2_bool | exact u1_bool | exact u2_sli | exact u1_sli | exact u2_s0 | exact u1_s0))); all_goals (first | (intro p' hp'; cbv) | (assumption))) | (apply E_callX hE (c_r11Times p.1 p.2 (E.bin .mul .i64 N N) pb pl e7 e8); (case hf => rfl); (case hc => (cbv <;> trivial)); (case hle => (repeat' (first | exact u_nil | apply u_cons | apply u2_agg | exact u2_int | exact u1_int | exact u2_bool | exact u1_bool | exact u2_sli | exact u1_sli | exact u2_s0 | exact u1_s0))); all_goals (first | (intro p' hp'; cbv) | (assumption))))
        have hp' : p' = whN ((n ^ (2 * (j + 1) + 1) : Nat) : Int) := nextp p' hp'
        refine E_nm hE (fun kk hkk => ?_); cbv
        have hkk : kk = ((j + 1 : Nat) : Int) := Eq.trans hkk j1
        exact ⟨(j + 1, some s1, p'), [0, 1, 2, 3, 4], (step nz s1 p' hs1 hp').1, (step nz s1 p' hs1 hp').2, stLeM (by repeat' (first | exact trivial | exact rfl | apply And.intro)) rfl rfl rfl (by repeat' (first | exact trivial | exact rfl | apply And.intro)) (by (repeat' (first | exact m_nil | refine m_cons ?_ rfl ?_ | exact u2_int | exact u2_bool | exact u2_ptr | exact u2_fn | exact (rfl : sle2 _ _) | exact ⟨rfl, hkk⟩)))⟩

  | some s =>
    have sb : Lb s.2 := by rw [show s = whN (piSum n j) from hs]; exact whN_lb _
    have sl : s.2.length ≤ 100000 := by rw [show s = whN (piSum n j) from hs]; exact Nat.le_trans (piSum_len jl) (by decide)
    have ws : wv s.1 s.2 = piSum n j := by rw [show s = whN (piSum n j) from hs]; exact wv_whN _
    clear hs
    cbv
    refine E_br_t hE b200 ?_; cbv
    (first | (apply E_pcallX hE (c_r11Scale); (case hm => rfl); (case hle => (repeat' (first | exact u_nil | apply u_cons | apply u2_agg | exact u2_int | exact u1_int | exact u2_bool | exact u1_bool | exact u2_sli | exact u1_sli | exact u2_s0 | exact u1_s0))); all_goals (first | (intro sc hsc; cbv) | (assumption))) | (apply E_callX hE (c_r11Scale); (case hf => rfl); (case hc => (cbv <;> trivial)); (case hle => (repeat' (first | exact u_nil | apply u_cons | apply u2_agg | exact u2_int | exact u1_int | exact u2_bool | exact u1_bool | exact u2_sli | exact u1_sli | exact u2_s0 | exact u1_s0))); all_goals (first | (intro sc hsc; cbv) | (assumption))))
    (first | (apply E_pcallX hE (c_r11Times p.1 p.2 (E.bin .add .i64 (E.bin .mul .i64 2 (j : Int)) 1) pb pl e5 e6); (case hm => rfl); (case hle => (repeat' (first | exact u_nil | apply u_cons | apply u2_agg | exact u2_int | exact u1_int | exact u2_bool | exact u1_bool | exact u2_sli | exact u1_sli | exact u2_s0 | exact u1_s0))); all_goals (first | (intro d hd; cbv) | (assumption))) | (apply E_callX hE (c_r11Times p.1 p.2 (E.bin .add .i64 (E.bin .mul .i64 2 (j : Int)) 1) pb pl e5 e6); (case hf => rfl); (case hc => (cbv <;> trivial)); (case hle => (repeat' (first | exact u_nil | apply u_cons | apply u2_agg | exact u2_int | exact u1_int | exact u2_bool | exact u1_bool | exact u2_sli | exact u1_sli | exact u2_s0 | exact u1_s0))); all_goals (first | (intro d hd; cbv) | (assumption))))
    obtain ⟨a1, a2, a3, a4, a5, a6, a7⟩ := side sc d hsc hd
    (first | (apply E_pcallX hE (c_r11Down sc.1 sc.2 d.1 d.2 a1 a2 a3 a4 a5 a6 a7); (case hm => rfl); (case hle => (repeat' (first | exact u_nil | apply u_cons | apply u2_agg | exact u2_int | exact u1_int | exact u2_bool | exact u1_bool | exact u2_sli | exact u1_sli | exact u2_s0 | exact u1_s0))); all_goals (first | (intro t ht; cbv) | (assumption))) | (apply E_callX hE (c_r11Down sc.1 sc.2 d.1 d.2 a1 a2 a3 a4 a5 a6 a7); (case hf => rfl); (case hc => (cbv <;> trivial)); (case hle => (repeat' (first | exact u_nil | apply u_cons | apply u2_agg | exact u2_int | exact u1_int | exact u2_bool | exact u1_bool | exact u2_sli | exact u1_sli | exact u2_s0 | exact u1_s0))); all_goals (first | (intro t ht; cbv) | (assumption))))
    have ht : t = whN (piTerm n j : Int) := tis sc d t hsc hd ht
    obtain ⟨tb, tl0, wt, t1, lt⟩ := tf t ht
    have tl : t.2.length ≤ 100000 := Nat.le_trans tl0 (by decide)
    have tl2 : t.2.length ≤ 268435456 := Nat.le_trans tl0 (by decide)
    (first | (apply E_pcallX hE (c_r2Sign t.1 t.2 tb tl2); (case hm => rfl); (case hle => (repeat' (first | exact u_nil | apply u_cons | apply u2_agg | exact u2_int | exact u1_int | exact u2_bool | exact u1_bool | exact u2_sli | exact u1_sli | exact u2_s0 | exact u1_s0))); all_goals (first | (intro sg hsg; cbv) | (assumption))) | (apply E_callX hE (c_r2Sign t.1 t.2 tb tl2); (case hf => rfl); (case hc => (cbv <;> trivial)); (case hle => (repeat' (first | exact u_nil | apply u_cons | apply u2_agg | exact u2_int | exact u1_int | exact u2_bool | exact u1_bool | exact u2_sli | exact u1_sli | exact u2_s0 | exact u1_s0))); all_goals (first | (intro sg hsg; cbv) | (assumption))))
    have zz := nz_of t.2 t.1 sg t1 lt hsg
    refine E_br hE (fun g => ?_) (fun g => ?_) <;> cbv
    · have z : piTerm n j = 0 := zz.1 (by subst hE; exact eql_t g)
      (first | (apply E_pcallX hE (c_r2From (E.bin .sub .i64 (E.bin .sub .i64 0 (j : Int)) 1) e1 e2); (case hm => rfl); (case hle => (repeat' (first | exact u_nil | apply u_cons | apply u2_agg | exact u2_int | exact u1_int | exact u2_bool | exact u1_bool | exact u2_sli | exact u1_sli | exact u2_s0 | exact u1_s0))); all_goals (first | (intro a ha; cbv) | (assumption))) | (apply E_callX hE (c_r2From (E.bin .sub .i64 (E.bin .sub .i64 0 (j : Int)) 1) e1 e2); (case hf => rfl); (case hc => (cbv <;> trivial)); (case hle => (repeat' (first | exact u_nil | apply u_cons | apply u2_agg | exact u2_int | exact u1_int | exact u2_bool | exact u1_bool | exact u2_sli | exact u1_sli | exact u2_s0 | exact u1_s0))); all_goals (first | (intro a ha; cbv) | (assumption))))
      obtain ⟨ab, al, wa⟩ := fl a _ ha ja
      (first | (apply E_pcallX hE (c_r2Add s.1 s.2 a.1 a.2 sb ab sl al); (case hm => rfl); (case hle => (repeat' (first | exact u_nil | apply u_cons | apply u2_agg | exact u2_int | exact u1_int | exact u2_bool | exact u1_bool | exact u2_sli | exact u1_sli | exact u2_s0 | exact u1_s0))); all_goals (first | (intro x hx; cbv) | (assumption))) | (apply E_callX hE (c_r2Add s.1 s.2 a.1 a.2 sb ab sl al); (case hf => rfl); (case hc => (cbv <;> trivial)); (case hle => (repeat' (first | exact u_nil | apply u_cons | apply u2_agg | exact u2_int | exact u1_int | exact u2_bool | exact u1_bool | exact u2_sli | exact u1_sli | exact u2_s0 | exact u1_s0))); all_goals (first | (intro x hx; cbv) | (assumption))))
      (first | (apply E_pcallX hE (c_r2From (E.bin .add .i64 (j : Int) 1) e3 e4); (case hm => rfl); (case hle => (repeat' (first | exact u_nil | apply u_cons | apply u2_agg | exact u2_int | exact u1_int | exact u2_bool | exact u1_bool | exact u2_sli | exact u1_sli | exact u2_s0 | exact u1_s0))); all_goals (first | (intro b hb; cbv) | (assumption))) | (apply E_callX hE (c_r2From (E.bin .add .i64 (j : Int) 1) e3 e4); (case hf => rfl); (case hc => (cbv <;> trivial)); (case hle => (repeat' (first | exact u_nil | apply u_cons | apply u2_agg | exact u2_int | exact u1_int | exact u2_bool | exact u1_bool | exact u2_sli | exact u1_sli | exact u2_s0 | exact u1_s0))); all_goals (first | (intro b hb; cbv) | (assumption))))
      obtain ⟨bb, bl, wb⟩ := fl b _ hb jb
      (first | (apply E_pcallX hE (c_r2Add s.1 s.2 b.1 b.2 sb bb sl bl); (case hm => rfl); (case hle => (repeat' (first | exact u_nil | apply u_cons | apply u2_agg | exact u2_int | exact u1_int | exact u2_bool | exact u1_bool | exact u2_sli | exact u1_sli | exact u2_s0 | exact u1_s0))); all_goals (first | (intro y hy; cbv) | (assumption))) | (apply E_callX hE (c_r2Add s.1 s.2 b.1 b.2 sb bb sl bl); (case hf => rfl); (case hc => (cbv <;> trivial)); (case hle => (repeat' (first | exact u_nil | apply u_cons | apply u2_agg | exact u2_int | exact u1_int | exact u2_bool | exact u1_bool | exact u2_sli | exact u1_sli | exact u2_s0 | exact u1_s0))); all_goals (first | (intro y hy; cbv) | (assumption))))
      have F := fin x y z (by have k : x = _ := hx; rw [k, wsum_whN, ws, wa, jm]) (by have k : y = _ := hy; rw [k, wsum_whN, ws, wb, j1]; rfl)
      exact ⟨⟨congrArg Prod.fst F.1, congrArg Prod.snd F.1, trivial⟩, ⟨congrArg Prod.fst F.2, congrArg Prod.snd F.2, trivial⟩, trivial⟩
    · have nz : piTerm n j ≠ 0 := fun z => (show ¬ sg = 0 by subst hE; exact eql_f g) (zz.2 z)
      refine E_br hE (fun q => ?_) (fun q => ?_) <;> cbv
      · have od : j % 2 = 1 := od_of (by subst hE; exact eql_t q)
        (first | (apply E_pcallX hE (c_r2Neg t.1 t.2 tb tl2); (case hm => rfl); (case hle => (repeat' (first | exact u_nil | apply u_cons | apply u2_agg | exact u2_int | exact u1_int | exact u2_bool | exact u1_bool | exact u2_sli | exact u1_sli | exact u2_s0 | exact u1_s0))); all_goals (first | (intro u hu; cbv) | (assumption))) | (apply E_callX hE (c_r2Neg t.1 t.2 tb tl2); (case hf => rfl); (case hc => (cbv <;> trivial)); (case hle => (repeat' (first | exact u_nil | apply u_cons | apply u2_agg | exact u2_int | exact u1_int | exact u2_bool | exact u1_bool | exact u2_sli | exact u1_sli | exact u2_s0 | exact u1_s0))); all_goals (first | (intro u hu; cbv) | (assumption))))
        have hu : u = whN (-(piTerm n j : Int)) := by
          have k : u = whN (- wv t.1 t.2) := hu
          rw [k, wt]
        have ub : Lb u.2 := by rw [hu]; exact whN_lb _
        have ul : u.2.length ≤ 100000 := by rw [hu]; exact negl
        have wu : wv u.1 u.2 = -(piTerm n j : Int) := by rw [hu]; exact wv_whN _
        (first | (apply E_pcallX hE (c_r2Add s.1 s.2 u.1 u.2 sb ub sl ul); (case hm => rfl); (case hle => (repeat' (first | exact u_nil | apply u_cons | apply u2_agg | exact u2_int | exact u1_int | exact u2_bool | exact u1_bool | exact u2_sli | exact u1_sli | exact u2_s0 | exact u1_s0))); all_goals (first | (intro s1 hs1; cbv) | (assumption))) | (apply E_callX hE (c_r2Add s.1 s.2 u.1 u.2 sb ub sl ul); (case hf => rfl); (case hc => (cbv <;> trivial)); (case hle => (repeat' (first | exact u_nil | apply u_cons | apply u2_agg | exact u2_int | exact u1_int | exact u2_bool | exact u1_bool | exact u2_sli | exact u1_sli | exact u2_s0 | exact u1_s0))); all_goals (first | (intro s1 hs1; cbv) | (assumption))))
        have hs1 : s1 = whN (piSum n (j + 1)) := by
          have k : s1 = _ := hs1
          rw [k, wsum_whN, ws, wu, so1 od]
        (first | (apply E_pcallX hE (c_r11Times p.1 p.2 (E.bin .mul .i64 N N) pb pl e7 e8); (case hm => rfl); (case hle => (repeat' (first | exact u_nil | apply u_cons | apply u2_agg | exact u2_int | exact u1_int | exact u2_bool | exact u1_bool | exact u2_sli | exact u1_sli | exact u2_s0 | exact u1_s0))); all_goals (first | (intro p' hp'; cbv) | (assumption))) | (apply E_callX hE (c_r11Times p.1 p.2 (E.bin .mul .i64 N N) pb pl e7 e8); (case hf => rfl); (case hc => (cbv <;> trivial)); (case hle => (repeat' (first | exact u_nil | apply u_cons | apply u2_agg | exact u2_int | exact u1_int | exact u2_bool | exact u1_bool | exact u2_sli | exact u1_sli | exact u2_s0 | exact u1_s0))); all_goals (first | (intro p' hp'; cbv) | (assumption))))
        have hp' : p' = whN ((n ^ (2 * (j + 1) + 1) : Nat) : Int) := nextp p' hp'
        refine E_nm hE (fun kk hkk => ?_); cbv
        have hkk : kk = ((j + 1 : Nat) : Int) := Eq.trans hkk j1
        exact ⟨(j + 1, some s1, p'), [0, 1, 2, 3, 4], (step nz s1 p' hs1 hp').1, (step nz s1 p' hs1 hp').2, stLeM (by repeat' (first | exact trivial | exact rfl | apply And.intro)) rfl rfl rfl (by repeat' (first | exact trivial | exact rfl | apply And.intro)) (by (repeat' (first | exact m_nil | refine m_cons ?_ rfl ?_ | exact u2_int | exact u2_bool | exact u2_ptr | exact u2_fn | exact (rfl : sle2 _ _) | exact ⟨rfl, hkk⟩)))⟩
      · have od : j % 2 ≠ 1 := ev_of (by subst hE; exact eql_f q)
        (first | (apply E_pcallX hE (c_r2Add s.1 s.2 t.1 t.2 sb tb sl tl); (case hm => rfl); (case hle => (repeat' (first | exact u_nil | apply u_cons | apply u2_agg | exact u2_int | exact u1_int | exact u2_bool | exact u1_bool | exact u2_sli | exact u1_sli | exact u2_s0 | exact u1_s0))); all_goals (first | (intro s1 hs1; cbv) | (assumption))) | (apply E_callX hE (c_r2Add s.1 s.2 t.1 t.2 sb tb sl tl); (case hf => rfl); (case hc => (cbv <;> trivial)); (case hle => (repeat' (first | exact u_nil | apply u_cons | apply u2_agg | exact u2_int | exact u1_int | exact u2_bool | exact u1_bool | exact u2_sli | exact u1_sli | exact u2_s0 | exact u1_s0))); all_goals (first | (intro s1 hs1; cbv) | (assumption))))
        have hs1 : s1 = whN (piSum n (j + 1)) := by
          have k : s1 = _ := hs1
          rw [k, wsum_whN, ws, wt, so0 od]
        (first | (apply E_pcallX hE (c_r11Times p.1 p.2 (E.bin .mul .i64 N N) pb pl e7 e8); (case hm => rfl); (case hle => (repeat' (first | exact u_nil | apply u_cons | apply u2_agg | exact u2_int | exact u1_int | exact u2_bool | exact u1_bool | exact u2_sli | exact u1_sli | exact u2_s0 | exact u1_s0))); all_goals (first | (intro p' hp'; cbv) | (assumption))) | (apply E_callX hE (c_r11Times p.1 p.2 (E.bin .mul .i64 N N) pb pl e7 e8); (case hf => rfl); (case hc => (cbv <;> trivial)); (case hle => (repeat' (first | exact u_nil | apply u_cons | apply u2_agg | exact u2_int | exact u1_int | exact u2_bool | exact u1_bool | exact u2_sli | exact u1_sli | exact u2_s0 | exact u1_s0))); all_goals (first | (intro p' hp'; cbv) | (assumption))))
        have hp' : p' = whN ((n ^ (2 * (j + 1) + 1) : Nat) : Int) := nextp p' hp'
        refine E_nm hE (fun kk hkk => ?_); cbv
        have hkk : kk = ((j + 1 : Nat) : Int) := Eq.trans hkk j1
        exact ⟨(j + 1, some s1, p'), [0, 1, 2, 3, 4], (step nz s1 p' hs1 hp').1, (step nz s1 p' hs1 hp').2, stLeM (by repeat' (first | exact trivial | exact rfl | apply And.intro)) rfl rfl rfl (by repeat' (first | exact trivial | exact rfl | apply And.intro)) (by (repeat' (first | exact m_nil | refine m_cons ?_ rfl ?_ | exact u2_int | exact u2_bool | exact u2_ptr | exact u2_fn | exact (rfl : sle2 _ _) | exact ⟨rfl, hkk⟩)))⟩

end Go.Proofs.YtaiillbjhdoikaaGreat.Ev

/- Contracts of the reference: the bounds of pi; whole numbers that are just the same; what is out of reach. Printed by gen.py. -/
namespace Go.Proofs.YtaiillbjhdoikaaGreat.Ev
open Go Go.Proofs
set_option linter.unusedVariables false
set_option linter.unusedSimpArgs false

attribute [local irreducible] Lb whN piOne piLo piHi
theorem c_r11Bounds : ∃ t : (Bool × List Int) × (Bool × List Int), t = (whN piLoB, whN piHiB) ∧ CallsA Tryz.prog 8 [] (.tup [.agg [.bool (.s t.1.1), .sli .u32 t.1.2], .agg [.bool (.s t.2.1), .sli .u32 t.2.2]]) := by
  refine ⟨_, rfl, ?_⟩
  generalize hr : (whN piLoB, whN piHiB) = r
  have r1 : whN (piLo 5 * 16 - piHi 239 * 4) = r.1 := by rw [← hr]; rfl
  have r2 : whN (piHi 5 * 16 - piLo 239 * 4) = r.2 := by rw [← hr]; rfl
  clear hr
  refine callsA_of hG hm Tryz.func8 (by kernel_rfl) ?_
  intro E hE lp hl'
  cbv
  (first | (apply E_pcallX hE (c_r11Inverse 5 (by decide) (by decide) 5 rfl); (case hm => rfl); (case hle => (repeat' (first | exact u_nil | apply u_cons | apply u2_agg | exact u2_int | exact u1_int | exact u2_bool | exact u1_bool | exact u2_sli | exact u1_sli | exact u2_s0 | exact u1_s0))); all_goals (first | (intro x hx; cbv) | (assumption))) | (apply E_callX hE (c_r11Inverse 5 (by decide) (by decide) 5 rfl); (case hf => rfl); (case hc => (cbv <;> trivial)); (case hle => (repeat' (first | exact u_nil | apply u_cons | apply u2_agg | exact u2_int | exact u1_int | exact u2_bool | exact u1_bool | exact u2_sli | exact u1_sli | exact u2_s0 | exact u1_s0))); all_goals (first | (intro x hx; cbv) | (assumption))))
  have x1 : x.1 = whN (piLo 5) := by rw [show x = (whN (piLo 5), whN (piHi 5)) from hx]
  have x2 : x.2 = whN (piHi 5) := by rw [show x = (whN (piLo 5), whN (piHi 5)) from hx]
  (first | (apply E_pcallX hE (c_r11Inverse 239 (by decide) (by decide) 239 rfl); (case hm => rfl); (case hle => (repeat' (first | exact u_nil | apply u_cons | apply u2_agg | exact u2_int | exact u1_int | exact u2_bool | exact u1_bool | exact u2_sli | exact u1_sli | exact u2_s0 | exact u1_s0))); all_goals (first | (intro y hy; cbv) | (assumption))) | (apply E_callX hE (c_r11Inverse 239 (by decide) (by decide) 239 rfl); (case hf => rfl); (case hc => (cbv <;> trivial)); (case hle => (repeat' (first | exact u_nil | apply u_cons | apply u2_agg | exact u2_int | exact u1_int | exact u2_bool | exact u1_bool | exact u2_sli | exact u1_sli | exact u2_s0 | exact u1_s0))); all_goals (first | (intro y hy; cbv) | (assumption))))
  have y1 : y.1 = whN (piLo 239) := by rw [show y = (whN (piLo 239), whN (piHi 239)) from hy]
  have y2 : y.2 = whN (piHi 239) := by rw [show y = (whN (piLo 239), whN (piHi 239)) from hy]
  obtain ⟨xb, xl, xw⟩ := wn 7 x1 (lo7 5)
  obtain ⟨Xb, Xl, Xw⟩ := wn 7 x2 (hi7 5)
  obtain ⟨yb, yl, yw⟩ := wn 7 y1 (lo7 239)
  obtain ⟨Yb, Yl, Yw⟩ := wn 7 y2 (hi7 239)
  have xl : x.1.2.length < 60000000 := by omega
  have Xl : x.2.2.length < 60000000 := by omega
  have yl : y.1.2.length < 60000000 := by omega
  have Yl : y.2.2.length < 60000000 := by omega
  (first | (apply E_pcallX hE (c_r11Times x.1.1 x.1.2 16 xb xl (by decide) (by decide)); (case hm => rfl); (case hle => (repeat' (first | exact u_nil | apply u_cons | apply u2_agg | exact u2_int | exact u1_int | exact u2_bool | exact u1_bool | exact u2_sli | exact u1_sli | exact u2_s0 | exact u1_s0))); all_goals (first | (intro a ha; cbv) | (assumption))) | (apply E_callX hE (c_r11Times x.1.1 x.1.2 16 xb xl (by decide) (by decide)); (case hf => rfl); (case hc => (cbv <;> trivial)); (case hle => (repeat' (first | exact u_nil | apply u_cons | apply u2_agg | exact u2_int | exact u1_int | exact u2_bool | exact u1_bool | exact u2_sli | exact u1_sli | exact u2_s0 | exact u1_s0))); all_goals (first | (intro a ha; cbv) | (assumption))))
  have ha : a = whN (piLo 5 * 16) := by rw [← xw]; exact ha
  (first | (apply E_pcallX hE (c_r11Times y.2.1 y.2.2 4 Yb Yl (by decide) (by decide)); (case hm => rfl); (case hle => (repeat' (first | exact u_nil | apply u_cons | apply u2_agg | exact u2_int | exact u1_int | exact u2_bool | exact u1_bool | exact u2_sli | exact u1_sli | exact u2_s0 | exact u1_s0))); all_goals (first | (intro b hb; cbv) | (assumption))) | (apply E_callX hE (c_r11Times y.2.1 y.2.2 4 Yb Yl (by decide) (by decide)); (case hf => rfl); (case hc => (cbv <;> trivial)); (case hle => (repeat' (first | exact u_nil | apply u_cons | apply u2_agg | exact u2_int | exact u1_int | exact u2_bool | exact u1_bool | exact u2_sli | exact u1_sli | exact u2_s0 | exact u1_s0))); all_goals (first | (intro b hb; cbv) | (assumption))))
  have hb : b = whN (piHi 239 * 4) := by rw [← Yw]; exact hb
  obtain ⟨ab, al, aw⟩ := wn 8 ha (wnB (lo7 5) (by decide))
  obtain ⟨bb, bl, bw⟩ := wn 8 hb (wnB (hi7 239) (by decide))
  have al : a.2.length ≤ 100000 := by omega
  have bl : b.2.length ≤ 100000 := by omega
  (first | (apply E_pcallX hE (c_r2Sub a.1 a.2 b.1 b.2 ab bb al bl); (case hm => rfl); (case hle => (repeat' (first | exact u_nil | apply u_cons | apply u2_agg | exact u2_int | exact u1_int | exact u2_bool | exact u1_bool | exact u2_sli | exact u1_sli | exact u2_s0 | exact u1_s0))); all_goals (first | (intro c hc; cbv) | (assumption))) | (apply E_callX hE (c_r2Sub a.1 a.2 b.1 b.2 ab bb al bl); (case hf => rfl); (case hc => (cbv <;> trivial)); (case hle => (repeat' (first | exact u_nil | apply u_cons | apply u2_agg | exact u2_int | exact u1_int | exact u2_bool | exact u1_bool | exact u2_sli | exact u1_sli | exact u2_s0 | exact u1_s0))); all_goals (first | (intro c hc; cbv) | (assumption))))
  have hc : c = r.1 := by rw [← r1, ← aw, ← bw]; exact hc
  (first | (apply E_pcallX hE (c_r11Times x.2.1 x.2.2 16 Xb Xl (by decide) (by decide)); (case hm => rfl); (case hle => (repeat' (first | exact u_nil | apply u_cons | apply u2_agg | exact u2_int | exact u1_int | exact u2_bool | exact u1_bool | exact u2_sli | exact u1_sli | exact u2_s0 | exact u1_s0))); all_goals (first | (intro d hd; cbv) | (assumption))) | (apply E_callX hE (c_r11Times x.2.1 x.2.2 16 Xb Xl (by decide) (by decide)); (case hf => rfl); (case hc => (cbv <;> trivial)); (case hle => (repeat' (first | exact u_nil | apply u_cons | apply u2_agg | exact u2_int | exact u1_int | exact u2_bool | exact u1_bool | exact u2_sli | exact u1_sli | exact u2_s0 | exact u1_s0))); all_goals (first | (intro d hd; cbv) | (assumption))))
  have hd : d = whN (piHi 5 * 16) := by rw [← Xw]; exact hd
  (first | (apply E_pcallX hE (c_r11Times y.1.1 y.1.2 4 yb yl (by decide) (by decide)); (case hm => rfl); (case hle => (repeat' (first | exact u_nil | apply u_cons | apply u2_agg | exact u2_int | exact u1_int | exact u2_bool | exact u1_bool | exact u2_sli | exact u1_sli | exact u2_s0 | exact u1_s0))); all_goals (first | (intro e he; cbv) | (assumption))) | (apply E_callX hE (c_r11Times y.1.1 y.1.2 4 yb yl (by decide) (by decide)); (case hf => rfl); (case hc => (cbv <;> trivial)); (case hle => (repeat' (first | exact u_nil | apply u_cons | apply u2_agg | exact u2_int | exact u1_int | exact u2_bool | exact u1_bool | exact u2_sli | exact u1_sli | exact u2_s0 | exact u1_s0))); all_goals (first | (intro e he; cbv) | (assumption))))
  have he : e = whN (piLo 239 * 4) := by rw [← yw]; exact he
  obtain ⟨db, dl, dw⟩ := wn 8 hd (wnB (hi7 5) (by decide))
  obtain ⟨eb, el, ew⟩ := wn 8 he (wnB (lo7 239) (by decide))
  have dl : d.2.length ≤ 100000 := by omega
  have el : e.2.length ≤ 100000 := by omega
  (first | (apply E_pcallX hE (c_r2Sub d.1 d.2 e.1 e.2 db eb dl el); (case hm => rfl); (case hle => (repeat' (first | exact u_nil | apply u_cons | apply u2_agg | exact u2_int | exact u1_int | exact u2_bool | exact u1_bool | exact u2_sli | exact u1_sli | exact u2_s0 | exact u1_s0))); all_goals (first | (intro f hf; cbv) | (assumption))) | (apply E_callX hE (c_r2Sub d.1 d.2 e.1 e.2 db eb dl el); (case hf => rfl); (case hc => (cbv <;> trivial)); (case hle => (repeat' (first | exact u_nil | apply u_cons | apply u2_agg | exact u2_int | exact u1_int | exact u2_bool | exact u1_bool | exact u2_sli | exact u1_sli | exact u2_s0 | exact u1_s0))); all_goals (first | (intro f hf; cbv) | (assumption))))
  have hf : f = r.2 := by rw [← r2, ← dw, ← ew]; exact hf
  exact ⟨⟨congrArg Prod.fst hc, congrArg Prod.snd hc, trivial⟩, ⟨congrArg Prod.fst hf, congrArg Prod.snd hf, trivial⟩, trivial⟩


theorem c_rSameEq (a : List Int) (hl : a.length < 134217728) : ∃ t : Bool, t = true ∧ CallsA Tryz.prog 29 [.sli .u32 a, .sli .u32 a] (.bool (.s t)) := by
  refine ⟨_, rfl, ?_⟩
  obtain ⟨m, em⟩ : ∃ m : Int → Nat, ∀ i, m i = ((a.length : Int) - i).toNat := ⟨_, fun _ => rfl⟩
  obtain ⟨ok, eok⟩ : ∃ ok : Int → Prop, ∀ i, ok i ↔ 0 ≤ i ∧ i ≤ a.length := ⟨_, fun _ => Iff.rfl⟩
  have rng : ∀ i, ok i → 0 ≤ i ∧ i ≤ a.length := fun i h => (eok i).1 h
  have nx : ∀ i j : Int, ok i → i < a.length → j = IntKind.i64.wrap (i + 1) → m j < m i ∧ ok j := by
    intro i j hi h hj
    obtain ⟨i0, i1⟩ := rng i hi
    rw [wi64_in (by omega) (by omega)] at hj
    exact ⟨by rw [em, em]; omega, (eok _).2 ⟨by omega, by omega⟩⟩
  have start : ok 0 := (eok 0).2 ⟨by omega, by omega⟩
  refine callsA_of hG hm Tryz.func29 (by kernel_rfl) ?_
  intro E hE lp hl'
  have ne : ∀ x : Int, E.cmp .neq x x = false := by intro x; subst hE; show cmpR .neq x x = false; rw [cmp_neq]; exact decide_eq_false (fun h => h rfl)
  cbv
  refine E_br_f hE (ne _) ?_; cbv
  refine E_loop hE hG hm hl' (fun i : Int => (⟨[(0, .sli .u32 a), (1, .sli .u32 a), (5, .int .i64 (.s i))], []⟩ : St)) m ok ⟨0, start, stLe rfl ?_⟩ ?_
  · (repeat' (first | exact t_nil | apply t_cons | exact u2_sli | exact u2_int | exact u2_bool | exact u2_ms | exact u2_ptr | exact (rfl : sle2 .s0 .s0)))
  intro i hi
  obtain ⟨i0, i1⟩ := rng i hi
  cbv
  repeat' (first
    | (refine E_br hE (fun h => ?_) (fun h => ?_) <;> cbv)
    | (refine E_nm hE (fun v hv => ?_); cbv)
    | (refine E_nilS hE (fun b hb => ?_); cbv)
    | fail)
  all_goals (try (exact absurd ((ne _).symm.trans ‹_›) (by decide)))
  all_goals (try (have L : i < a.length := (by have k := ‹E.cmp .lss i (E.len a) = true›; subst hE; exact lss_t k)))
  all_goals (try (have V : v = IntKind.i64.wrap (i + 1) := (by rw [hv]; subst hE; rfl); refine ⟨v, (nx i v hi L V).1, (nx i v hi L V).2, stLe rfl ?_⟩; (repeat' (first | exact t_nil | apply t_cons | exact u2_sli | exact u2_int | exact u2_bool | exact u2_ms | exact u2_ptr | exact (rfl : sle2 .s0 .s0)))))
  all_goals (first | rfl | (subst hE; simp only [NatCast.natCast, Int.ofNat_eq_natCast, realE, cmp_eql, cmp_neq, cmp_lss, cmp_leq, cmp_gtr, cmp_geq, intBinR, decide_eq_true_eq, decide_eq_false_iff_not, SI.val, SB.val, Num.eta, Iv.eta] at *; omega) | trace_state)

end Go.Proofs.YtaiillbjhdoikaaGreat.Ev

/- Contracts: what the law of the fixed numbers for inverse tangents asks; the law. Printed by gen.py. -/
namespace Go.Proofs.YtaiillbjhdoikaaGreat.Ev
open Go Go.Proofs
set_option linter.unusedVariables false
set_option linter.unusedSimpArgs false

def piI (N : Int) : (Bool × List Int) × (Bool × List Int) := if 2 ≤ N ∧ N ≤ 1000 then (whN (piLo N.toNat), whN (piHi N.toNat)) else (whN 0, whN 0)
theorem r7lo : ratioP (decide (piLoB < 0)) piLoB.natAbs false piOne 0 false = ⟨1, false, 14488038916154245684, -62⟩ := by decide +kernel
theorem r7hi : ratioP (decide (piHiB < 0)) piHiB.natAbs false piOne 0 true = ⟨1, false, 14488038916154245685, -62⟩ := by decide +kernel
theorem r7iv : Iv.make ⟨1, false, 14488038916154245684, -62⟩ ⟨1, false, 14488038916154245685, -62⟩ = piIv := by decide +kernel
theorem piLoB_abs : piLoB.natAbs < 4294967296 ^ 9 := by decide +kernel
theorem piHiB_abs : piHiB.natAbs < 4294967296 ^ 9 := by decide +kernel
attribute [local irreducible] Lb whN piOne piLo piHi piLoB piHiB
theorem c_piInverse0 (N : Int) (h : N < 2 ∨ 1000 < N) : ∃ t : (Bool × List Int) × (Bool × List Int), t = (whN 0, whN 0) ∧
    CallsA Tryz.prog 5 [.int .i64 (.s N)] (.tup [.agg [.bool (.s t.1.1), .sli .u32 t.1.2], .agg [.bool (.s t.2.1), .sli .u32 t.2.2]]) := by
  refine ⟨_, rfl, ?_⟩
  generalize hr : (whN 0, whN 0) = r
  have r1 : r.1 = (false, []) := by rw [← hr]; exact whN_0
  have r2 : r.2 = (false, []) := by rw [← hr]; exact whN_0
  clear hr
  refine callsA_of hG hm Tryz.func5 (by kernel_rfl) ?_
  intro E hE lp hl'
  have c1 : E.cmp .lss N 2 = decide (N < 2) := by subst hE; rfl
  have c2 : E.cmp .gtr N 1000 = decide (1000 < N) := by subst hE; rfl
  have fin : (false = r.1.1 ∧ [] = r.1.2) ∧ (false = r.2.1 ∧ [] = r.2.2) := by rw [r1, r2]; exact ⟨⟨rfl, rfl⟩, ⟨rfl, rfl⟩⟩
  cbv
  refine E_br hE (fun g => ?_) (fun g => ?_) <;> cbv
  · exact ⟨⟨fin.1.1, (fin.1.2).symm, trivial⟩, ⟨fin.2.1, (fin.2.2).symm, trivial⟩, trivial⟩
  refine E_br hE (fun g' => ?_) (fun g' => ?_)
  · cbv
    exact ⟨⟨fin.1.1, (fin.1.2).symm, trivial⟩, ⟨fin.2.1, (fin.2.2).symm, trivial⟩, trivial⟩
  · exfalso
    have g1 := of_decide_eq_false (c1.symm.trans g)
    have g2 := of_decide_eq_false (c2.symm.trans g')
    omega
theorem c_piInverseA (N : Int) : ∃ t : (Bool × List Int) × (Bool × List Int), t = piI N ∧
    CallsA Tryz.prog 5 [.int .i64 (.s N)] (.tup [.agg [.bool (.s t.1.1), .sli .u32 t.1.2], .agg [.bool (.s t.2.1), .sli .u32 t.2.2]]) := by
  unfold piI
  by_cases h : 2 ≤ N ∧ N ≤ 1000
  · rw [if_pos h]; exact c_piInverse N.toNat (by omega) (by omega) N (by omega)
  · rw [if_neg h]; exact c_piInverse0 N (by omega)
theorem c_r11Inverse0 (N : Int) (h : N < 2 ∨ 1000 < N) : ∃ t : (Bool × List Int) × (Bool × List Int), t = (whN 0, whN 0) ∧
    CallsA Tryz.prog 6 [.int .i64 (.s N)] (.tup [.agg [.bool (.s t.1.1), .sli .u32 t.1.2], .agg [.bool (.s t.2.1), .sli .u32 t.2.2]]) := by
  refine ⟨_, rfl, ?_⟩
  generalize hr : (whN 0, whN 0) = r
  have r1 : r.1 = (false, []) := by rw [← hr]; exact whN_0
  have r2 : r.2 = (false, []) := by rw [← hr]; exact whN_0
  clear hr
  refine callsA_of hG hm Tryz.func6 (by kernel_rfl) ?_
  intro E hE lp hl'
  have c1 : E.cmp .lss N 2 = decide (N < 2) := by subst hE; rfl
  have c2 : E.cmp .gtr N 1000 = decide (1000 < N) := by subst hE; rfl
  have fin : (false = r.1.1 ∧ [] = r.1.2) ∧ (false = r.2.1 ∧ [] = r.2.2) := by rw [r1, r2]; exact ⟨⟨rfl, rfl⟩, ⟨rfl, rfl⟩⟩
  cbv
  refine E_br hE (fun g => ?_) (fun g => ?_) <;> cbv
  · exact ⟨⟨fin.1.1, (fin.1.2).symm, trivial⟩, ⟨fin.2.1, (fin.2.2).symm, trivial⟩, trivial⟩
  refine E_br hE (fun g' => ?_) (fun g' => ?_)
  · cbv
    exact ⟨⟨fin.1.1, (fin.1.2).symm, trivial⟩, ⟨fin.2.1, (fin.2.2).symm, trivial⟩, trivial⟩
  · exfalso
    have g1 := of_decide_eq_false (c1.symm.trans g)
    have g2 := of_decide_eq_false (c2.symm.trans g')
    omega
theorem c_r11InverseA (N : Int) : ∃ t : (Bool × List Int) × (Bool × List Int), t = piI N ∧
    CallsA Tryz.prog 6 [.int .i64 (.s N)] (.tup [.agg [.bool (.s t.1.1), .sli .u32 t.1.2], .agg [.bool (.s t.2.1), .sli .u32 t.2.2]]) := by
  unfold piI
  by_cases h : 2 ≤ N ∧ N ≤ 1000
  · rw [if_pos h]; exact c_r11Inverse N.toNat (by omega) (by omega) N (by omega)
  · rw [if_neg h]; exact c_r11Inverse0 N (by omega)

theorem c_r2AlikeEq (na : Bool) (a : List Int) (hl : a.length < 134217728) : ∃ t : Bool, t = true ∧ CallsA Tryz.prog 9 [.agg [.bool (.s na), .sli .u32 a], .agg [.bool (.s na), .sli .u32 a]] (.bool (.s t)) := by
  refine ⟨_, rfl, ?_⟩
  refine callsA_of hG hm Tryz.func9 (by kernel_rfl) ?_
  intro E hE lp hl'
  have be : E.beq na na = true := by subst hE; exact beq_self_eq_true na
  cbv
  (first | (apply E_pcallX hE (c_rSameEq a hl); (case hm => rfl); (case hle => (repeat' (first | exact u_nil | apply u_cons | apply u2_agg | exact u2_int | exact u1_int | exact u2_bool | exact u1_bool | exact u2_sli | exact u1_sli | exact u2_s0 | exact u1_s0))); all_goals (first | (intro t ht; cbv) | (assumption))) | (apply E_callX hE (c_rSameEq a hl); (case hf => rfl); (case hc => (cbv <;> trivial)); (case hle => (repeat' (first | exact u_nil | apply u_cons | apply u2_agg | exact u2_int | exact u1_int | exact u2_bool | exact u1_bool | exact u2_sli | exact u1_sli | exact u2_s0 | exact u1_s0))); all_goals (first | (intro t ht; cbv) | (assumption))))
  refine E_br_t hE ht ?_; cbv
  exact be

theorem c_r7Ratio (na : Bool) (a : List Int) (nb : Bool) (b : List Int) (up : Bool) (ha : Lb a) (hb : Lb b) (hla : a.length ≤ 1000) (hlb : b.length ≤ 1000) :
    ∃ t : Num, t = ratioP na (lv a) nb (lv b) 0 up ∧ CallsA Tryz.prog 59 [.agg [.bool (.s na), .sli .u32 a], .agg [.bool (.s nb), .sli .u32 b], .bool (.s up)] t.av := by
  refine ⟨_, rfl, ?_⟩
  generalize hr : ratioP na (lv a) nb (lv b) 0 up = r
  refine callsA_of hG hm Tryz.func59 (by kernel_rfl) ?_
  intro E hE lp hl'
  cbv
  (first | (apply E_pcallX hE (c_r7ratio na a nb b 0 up ha hb hla hlb (by decide)); (case hm => rfl); (case hle => (repeat' (first | exact u_nil | apply u_cons | apply u2_agg | exact u2_int | exact u1_int | exact u2_bool | exact u1_bool | exact u2_sli | exact u1_sli | exact u2_s0 | exact u1_s0))); all_goals (first | (intro t ht; cbv) | (assumption))) | (apply E_callX hE (c_r7ratio na a nb b 0 up ha hb hla hlb (by decide)); (case hf => rfl); (case hc => (cbv <;> trivial)); (case hle => (repeat' (first | exact u_nil | apply u_cons | apply u2_agg | exact u2_int | exact u1_int | exact u2_bool | exact u1_bool | exact u2_sli | exact u1_sli | exact u2_s0 | exact u1_s0))); all_goals (first | (intro t ht; cbv) | (assumption))))
  have k : t = r := Eq.trans ht hr
  rw [← k]; exact ⟨rfl, rfl, rfl, rfl, trivial⟩

theorem c_r11Pi : ∃ t : Iv, t = piIv ∧ CallsA Tryz.prog 13 [] t.av := by
  refine ⟨_, rfl, ?_⟩
  generalize hr : piIv = r
  have sd : ∀ s : Bool × List Int, s = whN (piOne : Int) → s.1 = false ∧ lv s.2 = piOne ∧ Lb s.2 ∧ s.2.length ≤ 1000 := by
    intro s h; rw [h, whN_nat]; exact ⟨rfl, lv_lim _, lim_lb _, Nat.le_trans (lim_pow_len piOne_le) (by decide)⟩
  have vd : ∀ (u : Bool × List Int) (z : Int), u = whN z → u.1 = decide (z < 0) ∧ lv u.2 = z.natAbs := by
    intro u z h; rw [h, whN_def]; exact ⟨rfl, lv_lim _⟩
  have hE1 : (⟨1, false, 14488038916154245684, -62⟩ : Num).ok := ⟨by decide, by decide⟩
  have hE2 : (⟨1, false, 14488038916154245685, -62⟩ : Num).ok := ⟨by decide, by decide⟩
  have part : ∀ (a b : Bool × List Int), a = whN piLoB → b = whN piHiB → CallsA Tryz.prog 35 [.agg [.bool (.s a.1), .sli .u32 a.2], .agg [.bool (.s b.1), .sli .u32 b.2]] r.av := by
    intro a b ha hb
    have ab : Lb a.2 := by rw [ha]; exact whN_lb _
    have bb : Lb b.2 := by rw [hb]; exact whN_lb _
    have la : a.2.length ≤ 1000 := Nat.le_trans (wn 9 ha piLoB_abs).2.1 (by decide)
    have lb : b.2.length ≤ 1000 := Nat.le_trans (wn 9 hb piHiB_abs).2.1 (by decide)
    refine callsA_of hG hm Tryz.func35 (by kernel_rfl) ?_
    intro E hE lp hl'
    cbv
    (first | (apply E_pcallX hE (c_r11Scale); (case hm => rfl); (case hle => (repeat' (first | exact u_nil | apply u_cons | apply u2_agg | exact u2_int | exact u1_int | exact u2_bool | exact u1_bool | exact u2_sli | exact u1_sli | exact u2_s0 | exact u1_s0))); all_goals (first | (intro s hs; cbv) | (assumption))) | (apply E_callX hE (c_r11Scale); (case hf => rfl); (case hc => (cbv <;> trivial)); (case hle => (repeat' (first | exact u_nil | apply u_cons | apply u2_agg | exact u2_int | exact u1_int | exact u2_bool | exact u1_bool | exact u2_sli | exact u1_sli | exact u2_s0 | exact u1_s0))); all_goals (first | (intro s hs; cbv) | (assumption))))
    obtain ⟨s1, s2, s3, s4⟩ := sd s hs
    (first | (apply E_pcallX hE (c_r7Ratio a.1 a.2 s.1 s.2 false ab s3 la s4); (case hm => rfl); (case hle => (repeat' (first | exact u_nil | apply u_cons | apply u2_agg | exact u2_int | exact u1_int | exact u2_bool | exact u1_bool | exact u2_sli | exact u1_sli | exact u2_s0 | exact u1_s0))); all_goals (first | (intro x hx; cbv) | (assumption))) | (apply E_callX hE (c_r7Ratio a.1 a.2 s.1 s.2 false ab s3 la s4); (case hf => rfl); (case hc => (cbv <;> trivial)); (case hle => (repeat' (first | exact u_nil | apply u_cons | apply u2_agg | exact u2_int | exact u1_int | exact u2_bool | exact u1_bool | exact u2_sli | exact u1_sli | exact u2_s0 | exact u1_s0))); all_goals (first | (intro x hx; cbv) | (assumption))))
    have hx : x = ⟨1, false, 14488038916154245684, -62⟩ := by
      have k : x = ratioP a.1 (lv a.2) s.1 (lv s.2) 0 false := hx
      rw [k, s1, s2, (vd a _ ha).1, (vd a _ ha).2]; exact r7lo
    (first | (apply E_pcallX hE (c_r11Scale); (case hm => rfl); (case hle => (repeat' (first | exact u_nil | apply u_cons | apply u2_agg | exact u2_int | exact u1_int | exact u2_bool | exact u1_bool | exact u2_sli | exact u1_sli | exact u2_s0 | exact u1_s0))); all_goals (first | (intro u hu; cbv) | (assumption))) | (apply E_callX hE (c_r11Scale); (case hf => rfl); (case hc => (cbv <;> trivial)); (case hle => (repeat' (first | exact u_nil | apply u_cons | apply u2_agg | exact u2_int | exact u1_int | exact u2_bool | exact u1_bool | exact u2_sli | exact u1_sli | exact u2_s0 | exact u1_s0))); all_goals (first | (intro u hu; cbv) | (assumption))))
    obtain ⟨u1, u2, u3, u4⟩ := sd u hu
    (first | (apply E_pcallX hE (c_r7Ratio b.1 b.2 u.1 u.2 true bb u3 lb u4); (case hm => rfl); (case hle => (repeat' (first | exact u_nil | apply u_cons | apply u2_agg | exact u2_int | exact u1_int | exact u2_bool | exact u1_bool | exact u2_sli | exact u1_sli | exact u2_s0 | exact u1_s0))); all_goals (first | (intro y hy; cbv) | (assumption))) | (apply E_callX hE (c_r7Ratio b.1 b.2 u.1 u.2 true bb u3 lb u4); (case hf => rfl); (case hc => (cbv <;> trivial)); (case hle => (repeat' (first | exact u_nil | apply u_cons | apply u2_agg | exact u2_int | exact u1_int | exact u2_bool | exact u1_bool | exact u2_sli | exact u1_sli | exact u2_s0 | exact u1_s0))); all_goals (first | (intro y hy; cbv) | (assumption))))
    have hy : y = ⟨1, false, 14488038916154245685, -62⟩ := by
      have k : y = ratioP b.1 (lv b.2) u.1 (lv u.2) 0 true := hy
      rw [k, u1, u2, (vd b _ hb).1, (vd b _ hb).2]; exact r7hi
    have ox : x.ok := by rw [hx]; exact hE1
    have oy : y.ok := by rw [hy]; exact hE2
    (first | (apply E_pcallX hE (c_r8Make ⟨_, _, _, _⟩ ⟨_, _, _, _⟩ ox oy); (case hm => rfl); (case hle => (repeat' (first | exact u_nil | apply u_cons | apply u2_agg | exact u2_int | exact u1_int | exact u2_bool | exact u1_bool | exact u2_sli | exact u1_sli | exact u2_s0 | exact u1_s0))); all_goals (first | (intro z hz; cbv) | (assumption))) | (apply E_callX hE (c_r8Make ⟨_, _, _, _⟩ ⟨_, _, _, _⟩ ox oy); (case hf => rfl); (case hc => (cbv <;> trivial)); (case hle => (repeat' (first | exact u_nil | apply u_cons | apply u2_agg | exact u2_int | exact u1_int | exact u2_bool | exact u1_bool | exact u2_sli | exact u1_sli | exact u2_s0 | exact u1_s0))); all_goals (first | (intro z hz; cbv) | (assumption))))
    have k : z = r := by
      have k : z = Iv.make x y := hz
      rw [k, hx, hy, r7iv, hr]
    rw [← k]
    exact ⟨rfl, rfl, rfl, rfl, rfl, rfl, rfl, rfl, rfl, trivial⟩
  refine callsA_of hG hm Tryz.func13 (by kernel_rfl) ?_
  intro E hE lp hl'
  cbv
  (first | (apply E_pcallX hE (c_r11Bounds); (case hm => rfl); (case hle => (repeat' (first | exact u_nil | apply u_cons | apply u2_agg | exact u2_int | exact u1_int | exact u2_bool | exact u1_bool | exact u2_sli | exact u1_sli | exact u2_s0 | exact u1_s0))); all_goals (first | (intro t ht; cbv) | (assumption))) | (apply E_callX hE (c_r11Bounds); (case hf => rfl); (case hc => (cbv <;> trivial)); (case hle => (repeat' (first | exact u_nil | apply u_cons | apply u2_agg | exact u2_int | exact u1_int | exact u2_bool | exact u1_bool | exact u2_sli | exact u1_sli | exact u2_s0 | exact u1_s0))); all_goals (first | (intro t ht; cbv) | (assumption))))
  have t1 : t.1 = whN piLoB := by rw [show t = (whN piLoB, whN piHiB) from ht]
  have t2 : t.2 = whN piHiB := by rw [show t = (whN piLoB, whN piHiB) from ht]
  (first | (apply E_pcallX hE ((⟨r, rfl, part t.1 t.2 t1 t2⟩ : ∃ z : Iv, z = r ∧ CallsA Tryz.prog 35 [.agg [.bool (.s t.1.1), .sli .u32 t.1.2], .agg [.bool (.s t.2.1), .sli .u32 t.2.2]] z.av)); (case hm => rfl); (case hle => (repeat' (first | exact u_nil | apply u_cons | apply u2_agg | exact u2_int | exact u1_int | exact u2_bool | exact u1_bool | exact u2_sli | exact u1_sli | exact u2_s0 | exact u1_s0))); all_goals (first | (intro z hz; cbv) | (assumption))) | (apply E_callX hE ((⟨r, rfl, part t.1 t.2 t1 t2⟩ : ∃ z : Iv, z = r ∧ CallsA Tryz.prog 35 [.agg [.bool (.s t.1.1), .sli .u32 t.1.2], .agg [.bool (.s t.2.1), .sli .u32 t.2.2]] z.av)); (case hf => rfl); (case hc => (cbv <;> trivial)); (case hle => (repeat' (first | exact u_nil | apply u_cons | apply u2_agg | exact u2_int | exact u1_int | exact u2_bool | exact u1_bool | exact u2_sli | exact u1_sli | exact u2_s0 | exact u1_s0))); all_goals (first | (intro z hz; cbv) | (assumption))))
  have hz : z = r := hz
  rw [← hz]
  exact ⟨rfl, rfl, rfl, rfl, rfl, rfl, rfl, rfl, rfl, trivial⟩

end Go.Proofs.YtaiillbjhdoikaaGreat.Ev

/- Contracts: the law of the fixed numbers for inverse tangents, and for pi. Printed by gen.py. -/
namespace Go.Proofs.YtaiillbjhdoikaaGreat.Ev
open Go Go.Proofs
set_option linter.unusedVariables false
set_option linter.unusedSimpArgs false

theorem piI_len (n : Int) : (piI n).1.2.length < 134217728 ∧ (piI n).2.2.length < 134217728 := by
  unfold piI
  split
  · exact ⟨Nat.lt_of_le_of_lt (piLo_len _) (by decide), Nat.lt_of_le_of_lt (piHi_len _) (by decide)⟩
  · rw [whN_0]; exact ⟨by decide, by decide⟩
attribute [local irreducible] Lb whN piOne piLo piHi piLoB piHiB piI
theorem c_PiInverses (n : Int) : ∃ t : Bool, t = true ∧ CallsA Tryz.prog 3 [.int .i64 (.s n)] (.bool (.s t)) := by
  refine ⟨_, rfl, ?_⟩
  refine callsA_of hG hm Tryz.func3 (by kernel_rfl) ?_
  intro E hE lp hl'
  cbv
  (first | (apply E_pcallX hE (c_awake11); (case hm => rfl); (case hle => (repeat' (first | exact u_nil | apply u_cons | apply u2_agg | exact u2_int | exact u1_int | exact u2_bool | exact u1_bool | exact u2_sli | exact u1_sli | exact u2_s0 | exact u1_s0))); all_goals (first | (intro up hup; cbv) | (assumption))) | (apply E_callX hE (c_awake11); (case hf => rfl); (case hc => (cbv <;> trivial)); (case hle => (repeat' (first | exact u_nil | apply u_cons | apply u2_agg | exact u2_int | exact u1_int | exact u2_bool | exact u1_bool | exact u2_sli | exact u1_sli | exact u2_s0 | exact u1_s0))); all_goals (first | (intro up hup; cbv) | (assumption))))
  (first | (apply E_pcallX hE (c_piInverseA n); (case hm => rfl); (case hle => (repeat' (first | exact u_nil | apply u_cons | apply u2_agg | exact u2_int | exact u1_int | exact u2_bool | exact u1_bool | exact u2_sli | exact u1_sli | exact u2_s0 | exact u1_s0))); all_goals (first | (intro x hx; cbv) | (assumption))) | (apply E_callX hE (c_piInverseA n); (case hf => rfl); (case hc => (cbv <;> trivial)); (case hle => (repeat' (first | exact u_nil | apply u_cons | apply u2_agg | exact u2_int | exact u1_int | exact u2_bool | exact u1_bool | exact u2_sli | exact u1_sli | exact u2_s0 | exact u1_s0))); all_goals (first | (intro x hx; cbv) | (assumption))))
  (first | (apply E_pcallX hE (c_r11InverseA n); (case hm => rfl); (case hle => (repeat' (first | exact u_nil | apply u_cons | apply u2_agg | exact u2_int | exact u1_int | exact u2_bool | exact u1_bool | exact u2_sli | exact u1_sli | exact u2_s0 | exact u1_s0))); all_goals (first | (intro y hy; cbv) | (assumption))) | (apply E_callX hE (c_r11InverseA n); (case hf => rfl); (case hc => (cbv <;> trivial)); (case hle => (repeat' (first | exact u_nil | apply u_cons | apply u2_agg | exact u2_int | exact u1_int | exact u2_bool | exact u1_bool | exact u2_sli | exact u1_sli | exact u2_s0 | exact u1_s0))); all_goals (first | (intro y hy; cbv) | (assumption))))
  have x1 : x.1.2.length < 134217728 := by rw [show x = piI n from hx]; exact (piI_len n).1
  have x2 : x.2.2.length < 134217728 := by rw [show x = piI n from hx]; exact (piI_len n).2
  have exy : y = x := Eq.trans hy (Eq.symm hx)
  subst exy
  (first | (apply E_pcallX hE (c_piBounds); (case hm => rfl); (case hle => (repeat' (first | exact u_nil | apply u_cons | apply u2_agg | exact u2_int | exact u1_int | exact u2_bool | exact u1_bool | exact u2_sli | exact u1_sli | exact u2_s0 | exact u1_s0))); all_goals (first | (intro b hb; cbv) | (assumption))) | (apply E_callX hE (c_piBounds); (case hf => rfl); (case hc => (cbv <;> trivial)); (case hle => (repeat' (first | exact u_nil | apply u_cons | apply u2_agg | exact u2_int | exact u1_int | exact u2_bool | exact u1_bool | exact u2_sli | exact u1_sli | exact u2_s0 | exact u1_s0))); all_goals (first | (intro b hb; cbv) | (assumption))))
  (first | (apply E_pcallX hE (c_r11Bounds); (case hm => rfl); (case hle => (repeat' (first | exact u_nil | apply u_cons | apply u2_agg | exact u2_int | exact u1_int | exact u2_bool | exact u1_bool | exact u2_sli | exact u1_sli | exact u2_s0 | exact u1_s0))); all_goals (first | (intro c hc; cbv) | (assumption))) | (apply E_callX hE (c_r11Bounds); (case hf => rfl); (case hc => (cbv <;> trivial)); (case hle => (repeat' (first | exact u_nil | apply u_cons | apply u2_agg | exact u2_int | exact u1_int | exact u2_bool | exact u1_bool | exact u2_sli | exact u1_sli | exact u2_s0 | exact u1_s0))); all_goals (first | (intro c hc; cbv) | (assumption))))
  have b1 : b.1.2.length < 134217728 := Nat.lt_of_le_of_lt (wn 9 (show b.1 = whN piLoB by rw [show b = (whN piLoB, whN piHiB) from hb]) piLoB_abs).2.1 (by decide)
  have b2 : b.2.2.length < 134217728 := Nat.lt_of_le_of_lt (wn 9 (show b.2 = whN piHiB by rw [show b = (whN piLoB, whN piHiB) from hb]) piHiB_abs).2.1 (by decide)
  have ecb : c = b := Eq.trans hc (Eq.symm hb)
  subst ecb
  (first | (apply E_pcallX hE (c_r2AlikeEq y.1.1 y.1.2 x1); (case hm => rfl); (case hle => (repeat' (first | exact u_nil | apply u_cons | apply u2_agg | exact u2_int | exact u1_int | exact u2_bool | exact u1_bool | exact u2_sli | exact u1_sli | exact u2_s0 | exact u1_s0))); all_goals (first | (intro a1 h1; cbv) | (assumption))) | (apply E_callX hE (c_r2AlikeEq y.1.1 y.1.2 x1); (case hf => rfl); (case hc => (cbv <;> trivial)); (case hle => (repeat' (first | exact u_nil | apply u_cons | apply u2_agg | exact u2_int | exact u1_int | exact u2_bool | exact u1_bool | exact u2_sli | exact u1_sli | exact u2_s0 | exact u1_s0))); all_goals (first | (intro a1 h1; cbv) | (assumption))))
  (first | (apply E_pcallX hE (c_r2AlikeEq y.2.1 y.2.2 x2); (case hm => rfl); (case hle => (repeat' (first | exact u_nil | apply u_cons | apply u2_agg | exact u2_int | exact u1_int | exact u2_bool | exact u1_bool | exact u2_sli | exact u1_sli | exact u2_s0 | exact u1_s0))); all_goals (first | (intro a2 h2; cbv) | (assumption))) | (apply E_callX hE (c_r2AlikeEq y.2.1 y.2.2 x2); (case hf => rfl); (case hc => (cbv <;> trivial)); (case hle => (repeat' (first | exact u_nil | apply u_cons | apply u2_agg | exact u2_int | exact u1_int | exact u2_bool | exact u1_bool | exact u2_sli | exact u1_sli | exact u2_s0 | exact u1_s0))); all_goals (first | (intro a2 h2; cbv) | (assumption))))
  (first | (apply E_pcallX hE (c_r2AlikeEq c.1.1 c.1.2 b1); (case hm => rfl); (case hle => (repeat' (first | exact u_nil | apply u_cons | apply u2_agg | exact u2_int | exact u1_int | exact u2_bool | exact u1_bool | exact u2_sli | exact u1_sli | exact u2_s0 | exact u1_s0))); all_goals (first | (intro a3 h3; cbv) | (assumption))) | (apply E_callX hE (c_r2AlikeEq c.1.1 c.1.2 b1); (case hf => rfl); (case hc => (cbv <;> trivial)); (case hle => (repeat' (first | exact u_nil | apply u_cons | apply u2_agg | exact u2_int | exact u1_int | exact u2_bool | exact u1_bool | exact u2_sli | exact u1_sli | exact u2_s0 | exact u1_s0))); all_goals (first | (intro a3 h3; cbv) | (assumption))))
  (first | (apply E_pcallX hE (c_r2AlikeEq c.2.1 c.2.2 b2); (case hm => rfl); (case hle => (repeat' (first | exact u_nil | apply u_cons | apply u2_agg | exact u2_int | exact u1_int | exact u2_bool | exact u1_bool | exact u2_sli | exact u1_sli | exact u2_s0 | exact u1_s0))); all_goals (first | (intro a4 h4; cbv) | (assumption))) | (apply E_callX hE (c_r2AlikeEq c.2.1 c.2.2 b2); (case hf => rfl); (case hc => (cbv <;> trivial)); (case hle => (repeat' (first | exact u_nil | apply u_cons | apply u2_agg | exact u2_int | exact u1_int | exact u2_bool | exact u1_bool | exact u2_sli | exact u1_sli | exact u2_s0 | exact u1_s0))); all_goals (first | (intro a4 h4; cbv) | (assumption))))
  (first | (apply E_pcallX hE (c_piScale); (case hm => rfl); (case hle => (repeat' (first | exact u_nil | apply u_cons | apply u2_agg | exact u2_int | exact u1_int | exact u2_bool | exact u1_bool | exact u2_sli | exact u1_sli | exact u2_s0 | exact u1_s0))); all_goals (first | (intro s hs; cbv) | (assumption))) | (apply E_callX hE (c_piScale); (case hf => rfl); (case hc => (cbv <;> trivial)); (case hle => (repeat' (first | exact u_nil | apply u_cons | apply u2_agg | exact u2_int | exact u1_int | exact u2_bool | exact u1_bool | exact u2_sli | exact u1_sli | exact u2_s0 | exact u1_s0))); all_goals (first | (intro s hs; cbv) | (assumption))))
  (first | (apply E_pcallX hE (c_r11Scale); (case hm => rfl); (case hle => (repeat' (first | exact u_nil | apply u_cons | apply u2_agg | exact u2_int | exact u1_int | exact u2_bool | exact u1_bool | exact u2_sli | exact u1_sli | exact u2_s0 | exact u1_s0))); all_goals (first | (intro u hu; cbv) | (assumption))) | (apply E_callX hE (c_r11Scale); (case hf => rfl); (case hc => (cbv <;> trivial)); (case hle => (repeat' (first | exact u_nil | apply u_cons | apply u2_agg | exact u2_int | exact u1_int | exact u2_bool | exact u1_bool | exact u2_sli | exact u1_sli | exact u2_s0 | exact u1_s0))); all_goals (first | (intro u hu; cbv) | (assumption))))
  have s1 : s.2.length < 134217728 := by rw [show s = whN (piOne : Int) from hs, whN_nat]; exact Nat.lt_of_le_of_lt (lim_pow_len piOne_le) (by decide)
  have eus : u = s := Eq.trans hu (Eq.symm hs)
  subst eus
  (first | (apply E_pcallX hE (c_r2AlikeEq u.1 u.2 s1); (case hm => rfl); (case hle => (repeat' (first | exact u_nil | apply u_cons | apply u2_agg | exact u2_int | exact u1_int | exact u2_bool | exact u1_bool | exact u2_sli | exact u1_sli | exact u2_s0 | exact u1_s0))); all_goals (first | (intro a5 h5; cbv) | (assumption))) | (apply E_callX hE (c_r2AlikeEq u.1 u.2 s1); (case hf => rfl); (case hc => (cbv <;> trivial)); (case hle => (repeat' (first | exact u_nil | apply u_cons | apply u2_agg | exact u2_int | exact u1_int | exact u2_bool | exact u1_bool | exact u2_sli | exact u1_sli | exact u2_s0 | exact u1_s0))); all_goals (first | (intro a5 h5; cbv) | (assumption))))
  refine E_br_t hE hup ?_; cbv
  refine E_br_t hE h1 ?_; cbv
  refine E_br_t hE h2 ?_; cbv
  refine E_br_t hE h3 ?_; cbv
  refine E_br_t hE h4 ?_; cbv
  refine E_br_t hE h5 ?_; cbv
  (first | (apply E_pcallX hE (c_piPi); (case hm => rfl); (case hle => (repeat' (first | exact u_nil | apply u_cons | apply u2_agg | exact u2_int | exact u1_int | exact u2_bool | exact u1_bool | exact u2_sli | exact u1_sli | exact u2_s0 | exact u1_s0))); all_goals (first | (intro p hp; cbv) | (assumption))) | (apply E_callX hE (c_piPi); (case hf => rfl); (case hc => (cbv <;> trivial)); (case hle => (repeat' (first | exact u_nil | apply u_cons | apply u2_agg | exact u2_int | exact u1_int | exact u2_bool | exact u1_bool | exact u2_sli | exact u1_sli | exact u2_s0 | exact u1_s0))); all_goals (first | (intro p hp; cbv) | (assumption))))
  (first | (apply E_pcallX hE (c_r11Pi); (case hm => rfl); (case hle => (repeat' (first | exact u_nil | apply u_cons | apply u2_agg | exact u2_int | exact u1_int | exact u2_bool | exact u1_bool | exact u2_sli | exact u1_sli | exact u2_s0 | exact u1_s0))); all_goals (first | (intro q hq; cbv) | (assumption))) | (apply E_callX hE (c_r11Pi); (case hf => rfl); (case hc => (cbv <;> trivial)); (case hle => (repeat' (first | exact u_nil | apply u_cons | apply u2_agg | exact u2_int | exact u1_int | exact u2_bool | exact u1_bool | exact u2_sli | exact u1_sli | exact u2_s0 | exact u1_s0))); all_goals (first | (intro q hq; cbv) | (assumption))))
  have hp : p = piIv := hp
  have hq : q = piIv := hq
  subst hq; subst hp; subst hE; decide +kernel

end Go.Proofs.YtaiillbjhdoikaaGreat.Ev

/- What an argument that reads as data stands for: numbers and intervals. -/
namespace Go.Proofs.YtaiillbjhdoikaaGreat.Ev
open Go Go.ChangeShapes Go.WideShapes Go.RowKit
set_option linter.unusedVariables false
set_option maxRecDepth 100000

section
variable {H : Type} {enc : TypeId × Value → H} {w : World} {base : Nat} {spare : Nat → Bool} {held : Bool}

theorem wf_i64 {n : Int} (h : (Lit.int .i64 n).wf = true) : -9223372036854775808 ≤ n ∧ n < 9223372036854775808 := by
  simp only [Lit.wf, IntKind.min, IntKind.max, IntKind.signed, IntKind.bits, Bool.and_eq_true] at h
  have := h.1; have := h.2
  simp at *
  omega

/-- a number's fields are of their words -/
def Num.wf (n : Num) : Prop := n.ok ∧ (-9223372036854775808 ≤ n.e ∧ n.e < 9223372036854775808) ∧ (-9223372036854775808 ≤ n.kind ∧ n.kind < 9223372036854775808)
def Num.vals (n : Num) : List Value := [.int .i64 n.kind, .bool n.neg, .int .u64 n.m, .int .i64 n.e]

def Iv.vals (x : Iv) : List Value := .bool x.empty :: (x.lo.vals ++ x.hi.vals)

end
end Go.Proofs.YtaiillbjhdoikaaGreat.Ev
