/- Contracts: the opposite of an interval, how far from nought, the square. Printed by gen.py out of C11.spec. -/
import Derived.Test.YtincnfjihffllaaC9h
namespace Go.Proofs.Ytincnfjihffllaa.Ev
open Go Go.Proofs
set_option linter.unusedVariables false
set_option linter.unusedSimpArgs false

theorem c_opNeg (a : Iv)  : ∃ t : Iv, t = Iv.neg a ∧ CallsA Try.prog 48 [a.av] (t.av) := by
  refine ⟨_, rfl, ?_⟩
  generalize hr : Iv.neg a = r
  refine callsA_of hG hm Try.func48 (by kernel_rfl) ?_
  intro E hE lp hl
  cbv
  repeat' (first
    | (refine E_br hE (fun h => ?_) (fun h => ?_) <;> cbv)
    | (refine E_nm hE (fun v hv => ?_); cbv)
    | (apply E_callX hE (c_none [a] 1 rfl (by decide)); (case hf => rfl); (case hc => (cbv <;> trivial)); (case hle => exact ⟨slcO1 hE, trivial⟩); intro t ht; cbv)
    | (apply E_callX hE (c_Neg ⟨_, _, _, _⟩); (case hf => rfl); (case hc => (cbv <;> trivial)); (case hle => (repeat' (first | exact u_nil | apply u_cons | apply u2_agg | exact u2_int | exact u1_int | exact u2_bool | exact u1_bool | exact u2_sli | exact u1_sli | exact u2_s0 | exact u1_s0))); intro t ht; cbv)
    | (apply E_pcallX hE (c_Neg ⟨_, _, _, _⟩); (case hm => rfl); (case hle => (repeat' (first | exact u_nil | apply u_cons | apply u2_agg | exact u2_int | exact u1_int | exact u2_bool | exact u1_bool | exact u2_sli | exact u1_sli | exact u2_s0 | exact u1_s0))); intro t ht; cbv)
    | (apply E_callX hE (c_ivNone ); (case hf => rfl); (case hc => (cbv <;> trivial)); (case hle => (repeat' (first | exact u_nil | apply u_cons | apply u2_agg | exact u2_int | exact u1_int | exact u2_bool | exact u1_bool | exact u2_sli | exact u1_sli | exact u2_s0 | exact u1_s0))); intro t ht; cbv)
    | (apply E_pcallX hE (c_ivNone ); (case hm => rfl); (case hle => (repeat' (first | exact u_nil | apply u_cons | apply u2_agg | exact u2_int | exact u1_int | exact u2_bool | exact u1_bool | exact u2_sli | exact u1_sli | exact u2_s0 | exact u1_s0))); intro t ht; cbv)
    | (apply E_callX hE (c_ivMake ⟨_, _, _, _⟩ ⟨_, _, _, _⟩); (case hf => rfl); (case hc => (cbv <;> trivial)); (case hle => (repeat' (first | exact u_nil | apply u_cons | apply u2_agg | exact u2_int | exact u1_int | exact u2_bool | exact u1_bool | exact u2_sli | exact u1_sli | exact u2_s0 | exact u1_s0))); intro t ht; cbv)
    | (apply E_pcallX hE (c_ivMake ⟨_, _, _, _⟩ ⟨_, _, _, _⟩); (case hm => rfl); (case hle => (repeat' (first | exact u_nil | apply u_cons | apply u2_agg | exact u2_int | exact u1_int | exact u2_bool | exact u1_bool | exact u2_sli | exact u1_sli | exact u2_s0 | exact u1_s0))); intro t ht; cbv)
    | fail)
  all_goals (subst hE; subst hr)
  all_goals (try simp only [realE, cmp_eql, cmp_neq, cmp_lss, cmp_leq, cmp_gtr, cmp_geq, intBinR, decide_eq_true_eq, decide_eq_false_iff_not, SI.val, SB.val, Num.eta, Iv.eta] at *)
  all_goals (try refine Iv.fin (t := ⟨_, ⟨_, _, _, _⟩, ⟨_, _, _, _⟩⟩) ?_)
  all_goals (subst_vars; unfold Iv.neg; simp_all)

theorem c_opAbs (a : Iv)  : ∃ t : Iv, t = Iv.abs a ∧ CallsA Try.prog 54 [a.av] (t.av) := by
  refine ⟨_, rfl, ?_⟩
  generalize hr : Iv.abs a = r
  refine callsA_of hG hm Try.func54 (by kernel_rfl) ?_
  intro E hE lp hl
  cbv
  repeat' (first
    | (refine E_br hE (fun h => ?_) (fun h => ?_) <;> cbv)
    | (refine E_nm hE (fun v hv => ?_); cbv)
    | (apply E_callX hE (c_none [a] 1 rfl (by decide)); (case hf => rfl); (case hc => (cbv <;> trivial)); (case hle => exact ⟨slcO1 hE, trivial⟩); intro t ht; cbv)
    | (apply E_pcallX hE (c_Most [⟨_, _, _, _⟩, ⟨_, _, _, _⟩] 2 rfl (by decide)); (case hm => rfl); (case hle => exact ⟨slc2, trivial⟩); intro t ht; cbv)
    | (apply E_callX hE (c_Sign ⟨_, _, _, _⟩); (case hf => rfl); (case hc => (cbv <;> trivial)); (case hle => (repeat' (first | exact u_nil | apply u_cons | apply u2_agg | exact u2_int | exact u1_int | exact u2_bool | exact u1_bool | exact u2_sli | exact u1_sli | exact u2_s0 | exact u1_s0))); intro t ht; cbv)
    | (apply E_pcallX hE (c_Sign ⟨_, _, _, _⟩); (case hm => rfl); (case hle => (repeat' (first | exact u_nil | apply u_cons | apply u2_agg | exact u2_int | exact u1_int | exact u2_bool | exact u1_bool | exact u2_sli | exact u1_sli | exact u2_s0 | exact u1_s0))); intro t ht; cbv)
    | (apply E_callX hE (c_Neg ⟨_, _, _, _⟩); (case hf => rfl); (case hc => (cbv <;> trivial)); (case hle => (repeat' (first | exact u_nil | apply u_cons | apply u2_agg | exact u2_int | exact u1_int | exact u2_bool | exact u1_bool | exact u2_sli | exact u1_sli | exact u2_s0 | exact u1_s0))); intro t ht; cbv)
    | (apply E_pcallX hE (c_Neg ⟨_, _, _, _⟩); (case hm => rfl); (case hle => (repeat' (first | exact u_nil | apply u_cons | apply u2_agg | exact u2_int | exact u1_int | exact u2_bool | exact u1_bool | exact u2_sli | exact u1_sli | exact u2_s0 | exact u1_s0))); intro t ht; cbv)
    | (apply E_callX hE (c_ivNone ); (case hf => rfl); (case hc => (cbv <;> trivial)); (case hle => (repeat' (first | exact u_nil | apply u_cons | apply u2_agg | exact u2_int | exact u1_int | exact u2_bool | exact u1_bool | exact u2_sli | exact u1_sli | exact u2_s0 | exact u1_s0))); intro t ht; cbv)
    | (apply E_pcallX hE (c_ivNone ); (case hm => rfl); (case hle => (repeat' (first | exact u_nil | apply u_cons | apply u2_agg | exact u2_int | exact u1_int | exact u2_bool | exact u1_bool | exact u2_sli | exact u1_sli | exact u2_s0 | exact u1_s0))); intro t ht; cbv)
    | (apply E_callX hE (c_opNeg ⟨_, ⟨_, _, _, _⟩, ⟨_, _, _, _⟩⟩); (case hf => rfl); (case hc => (cbv <;> trivial)); (case hle => (repeat' (first | exact u_nil | apply u_cons | apply u2_agg | exact u2_int | exact u1_int | exact u2_bool | exact u1_bool | exact u2_sli | exact u1_sli | exact u2_s0 | exact u1_s0))); intro t ht; cbv)
    | (apply E_pcallX hE (c_opNeg ⟨_, ⟨_, _, _, _⟩, ⟨_, _, _, _⟩⟩); (case hm => rfl); (case hle => (repeat' (first | exact u_nil | apply u_cons | apply u2_agg | exact u2_int | exact u1_int | exact u2_bool | exact u1_bool | exact u2_sli | exact u1_sli | exact u2_s0 | exact u1_s0))); intro t ht; cbv)
    | (apply E_callX hE (c_ivMake ⟨_, _, _, _⟩ ⟨_, _, _, _⟩); (case hf => rfl); (case hc => (cbv <;> trivial)); (case hle => (repeat' (first | exact u_nil | apply u_cons | apply u2_agg | exact u2_int | exact u1_int | exact u2_bool | exact u1_bool | exact u2_sli | exact u1_sli | exact u2_s0 | exact u1_s0))); intro t ht; cbv)
    | (apply E_pcallX hE (c_ivMake ⟨_, _, _, _⟩ ⟨_, _, _, _⟩); (case hm => rfl); (case hle => (repeat' (first | exact u_nil | apply u_cons | apply u2_agg | exact u2_int | exact u1_int | exact u2_bool | exact u1_bool | exact u2_sli | exact u1_sli | exact u2_s0 | exact u1_s0))); intro t ht; cbv)
    | fail)
  all_goals (subst hE; subst hr)
  all_goals (try simp only [realE, cmp_eql, cmp_neq, cmp_lss, cmp_leq, cmp_gtr, cmp_geq, intBinR, decide_eq_true_eq, decide_eq_false_iff_not, SI.val, SB.val, Num.eta, Iv.eta] at *)
  all_goals (try refine Iv.fin (t := ⟨_, ⟨_, _, _, _⟩, ⟨_, _, _, _⟩⟩) ?_)
  all_goals (first | change t = _ | change a = _)
  all_goals (subst_vars; try simp only [show ({ kind := 0, neg := false, m := 0, e := 0 } : Num) = Num.zero from rfl] at *)
  all_goals (unfold Iv.abs; first
    | rw [if_pos ‹_›]
    | (rw [if_neg (by simp_all)]; first | rw [if_pos (by omega)] | (rw [if_neg (by omega)]; first | rw [if_pos (by omega)] | rw [if_neg (by omega)])))

theorem c_opSqr (a : Iv) (h1 : a.lo.ok) (h2 : a.hi.ok) : ∃ t : Iv, t = Iv.sqr a ∧ CallsA Try.prog 52 [a.av] (t.av) := by
  refine ⟨_, rfl, ?_⟩
  generalize hr : Iv.sqr a = r
  refine callsA_of hG hm Try.func52 (by kernel_rfl) ?_
  intro E hE lp hl
  cbv
  repeat' (first
    | (refine E_br hE (fun h => ?_) (fun h => ?_) <;> cbv)
    | (refine E_nm hE (fun v hv => ?_); cbv)
    | (apply E_callX hE (c_opAbs ⟨_, ⟨_, _, _, _⟩, ⟨_, _, _, _⟩⟩); (case hf => rfl); (case hc => (cbv <;> trivial)); (case hle => (repeat' (first | exact u_nil | apply u_cons | apply u2_agg | exact u2_int | exact u1_int | exact u2_bool | exact u1_bool | exact u2_sli | exact u1_sli | exact u2_s0 | exact u1_s0))); intro t ht; cbv)
    | (apply E_pcallX hE (c_opAbs ⟨_, ⟨_, _, _, _⟩, ⟨_, _, _, _⟩⟩); (case hm => rfl); (case hle => (repeat' (first | exact u_nil | apply u_cons | apply u2_agg | exact u2_int | exact u1_int | exact u2_bool | exact u1_bool | exact u2_sli | exact u1_sli | exact u2_s0 | exact u1_s0))); intro t ht; cbv)
    | (apply E_callX hE (c_arMul ⟨_, _, _, _⟩ ⟨_, _, _, _⟩ _ ?_ ?_); (case hf => rfl); (case hc => (cbv <;> trivial)); (case hle => (repeat' (first | exact u_nil | apply u_cons | apply u2_agg | exact u2_int | exact u1_int | exact u2_bool | exact u1_bool | exact u2_sli | exact u1_sli | exact u2_s0 | exact u1_s0))); all_goals (first | (intro t ht; cbv) | (subst hE; (try simp only [realE, cmp_eql, cmp_neq, cmp_lss, cmp_leq, cmp_gtr, cmp_geq, intBinR, decide_eq_true_eq, decide_eq_false_iff_not, SI.val, SB.val, Num.eta, Iv.eta] at *); (subst_vars; first | exact (Iv.abs_ok h1 h2).1 | exact (Iv.abs_ok h1 h2).2))))
    | (apply E_pcallX hE (c_arMul ⟨_, _, _, _⟩ ⟨_, _, _, _⟩ _ ?_ ?_); (case hm => rfl); (case hle => (repeat' (first | exact u_nil | apply u_cons | apply u2_agg | exact u2_int | exact u1_int | exact u2_bool | exact u1_bool | exact u2_sli | exact u1_sli | exact u2_s0 | exact u1_s0))); all_goals (first | (intro t ht; cbv) | (subst hE; (try simp only [realE, cmp_eql, cmp_neq, cmp_lss, cmp_leq, cmp_gtr, cmp_geq, intBinR, decide_eq_true_eq, decide_eq_false_iff_not, SI.val, SB.val, Num.eta, Iv.eta] at *); (subst_vars; first | exact (Iv.abs_ok h1 h2).1 | exact (Iv.abs_ok h1 h2).2))))
    | (apply E_callX hE (c_ivMake ⟨_, _, _, _⟩ ⟨_, _, _, _⟩); (case hf => rfl); (case hc => (cbv <;> trivial)); (case hle => (repeat' (first | exact u_nil | apply u_cons | apply u2_agg | exact u2_int | exact u1_int | exact u2_bool | exact u1_bool | exact u2_sli | exact u1_sli | exact u2_s0 | exact u1_s0))); intro t ht; cbv)
    | (apply E_pcallX hE (c_ivMake ⟨_, _, _, _⟩ ⟨_, _, _, _⟩); (case hm => rfl); (case hle => (repeat' (first | exact u_nil | apply u_cons | apply u2_agg | exact u2_int | exact u1_int | exact u2_bool | exact u1_bool | exact u2_sli | exact u1_sli | exact u2_s0 | exact u1_s0))); intro t ht; cbv)
    | fail)
  all_goals (subst hE; subst hr)
  all_goals (try simp only [realE, cmp_eql, cmp_neq, cmp_lss, cmp_leq, cmp_gtr, cmp_geq, intBinR, decide_eq_true_eq, decide_eq_false_iff_not, SI.val, SB.val, Num.eta, Iv.eta] at *)
  all_goals (try refine Iv.fin (t := ⟨_, ⟨_, _, _, _⟩, ⟨_, _, _, _⟩⟩) ?_)
  all_goals (change t = _; subst_vars; unfold Iv.sqr; simp_all)

theorem c_ivOf (a : Int) (b : Int) (h0 : -9223372036854775808 ≤ a) (h1 : a < 9223372036854775808) (h2 : -9223372036854775808 ≤ b) (h3 : b < 9223372036854775808) : ∃ t : Iv, t = Iv.ofInts a b ∧ CallsA Try.prog 103 [.int .i64 (.s a), .int .i64 (.s b)] (t.av) := by
  refine ⟨_, rfl, ?_⟩
  generalize hr : Iv.ofInts a b = r
  refine callsA_of hG hm Try.func103 (by kernel_rfl) ?_
  intro E hE lp hl
  cbv
  repeat' (first
    | (refine E_br hE (fun h => ?_) (fun h => ?_) <;> cbv)
    | (refine E_nm hE (fun v hv => ?_); cbv)
    | (apply E_callX hE (c_Of _ ?_ ?_); (case hf => rfl); (case hc => (cbv <;> trivial)); (case hle => (repeat' (first | exact u_nil | apply u_cons | apply u2_agg | exact u2_int | exact u1_int | exact u2_bool | exact u1_bool | exact u2_sli | exact u1_sli | exact u2_s0 | exact u1_s0))); all_goals (first | (intro t ht; cbv) | (subst hE; (try simp only [realE, cmp_eql, cmp_neq, cmp_lss, cmp_leq, cmp_gtr, cmp_geq, intBinR, decide_eq_true_eq, decide_eq_false_iff_not, SI.val, SB.val, Num.eta, Iv.eta] at *); first | assumption | omega)))
    | (apply E_pcallX hE (c_Of _ ?_ ?_); (case hm => rfl); (case hle => (repeat' (first | exact u_nil | apply u_cons | apply u2_agg | exact u2_int | exact u1_int | exact u2_bool | exact u1_bool | exact u2_sli | exact u1_sli | exact u2_s0 | exact u1_s0))); all_goals (first | (intro t ht; cbv) | (subst hE; (try simp only [realE, cmp_eql, cmp_neq, cmp_lss, cmp_leq, cmp_gtr, cmp_geq, intBinR, decide_eq_true_eq, decide_eq_false_iff_not, SI.val, SB.val, Num.eta, Iv.eta] at *); first | assumption | omega)))
    | (apply E_callX hE (c_ivMake ⟨_, _, _, _⟩ ⟨_, _, _, _⟩); (case hf => rfl); (case hc => (cbv <;> trivial)); (case hle => (repeat' (first | exact u_nil | apply u_cons | apply u2_agg | exact u2_int | exact u1_int | exact u2_bool | exact u1_bool | exact u2_sli | exact u1_sli | exact u2_s0 | exact u1_s0))); intro t ht; cbv)
    | (apply E_pcallX hE (c_ivMake ⟨_, _, _, _⟩ ⟨_, _, _, _⟩); (case hm => rfl); (case hle => (repeat' (first | exact u_nil | apply u_cons | apply u2_agg | exact u2_int | exact u1_int | exact u2_bool | exact u1_bool | exact u2_sli | exact u1_sli | exact u2_s0 | exact u1_s0))); intro t ht; cbv)
    | fail)
  all_goals (subst hE; subst hr)
  all_goals (try simp only [realE, cmp_eql, cmp_neq, cmp_lss, cmp_leq, cmp_gtr, cmp_geq, intBinR, decide_eq_true_eq, decide_eq_false_iff_not, SI.val, SB.val, Num.eta, Iv.eta] at *)
  all_goals (try refine Iv.fin (t := ⟨_, ⟨_, _, _, _⟩, ⟨_, _, _, _⟩⟩) ?_)
  all_goals (subst_vars; rfl)

end Go.Proofs.Ytincnfjihffllaa.Ev