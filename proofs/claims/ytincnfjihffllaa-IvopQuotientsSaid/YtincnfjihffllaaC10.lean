/- Contracts: the quotient of intervals. Printed by gen.py out of C10.spec. -/
import Derived.Test.YtincnfjihffllaaC9h
namespace Go.Proofs.Ytincnfjihffllaa.Ev
open Go Go.Proofs
set_option linter.unusedVariables false
set_option linter.unusedSimpArgs false

set_option maxHeartbeats 4000000 in
theorem c_opDiv (a : Iv) (b : Iv) (h1 : a.lo.ok) (h2 : a.hi.ok) (h3 : b.lo.ok) (h4 : b.hi.ok) : ∃ t : Iv, t = Iv.div a b ∧ CallsA Try.prog 39 [a.av, b.av] (t.av) := by
  refine ⟨_, rfl, ?_⟩
  generalize hr : Iv.div a b = r
  refine callsA_of hG hm Try.func39 (by kernel_rfl) ?_
  intro E hE lp hl
  cbv
  repeat' (first
    | (apply E_br_t hE; assumption; cbv)
    | (apply E_br_f hE; assumption; cbv)
    | (refine E_br hE (fun h => ?_) (fun h => ?_) <;> cbv)
    | (refine E_nm hE (fun v hv => ?_); cbv)
    | (apply E_callX hE (c_none [a, b] 2 rfl (by decide)); (case hf => rfl); (case hc => (cbv <;> trivial)); (case hle => exact ⟨slcO2 hE, trivial⟩); intro t ht; cbv)
    | (apply E_callX hE (c_corners a b 20 Num.div Num.ok (fun x y up hx hy => c_quDiv x y up hx hy) h1 h2 h3 h4); (case hf => rfl); (case hc => (cbv <;> trivial)); (case hle => (repeat' (first | exact u_nil | apply u_cons | apply u2_agg | exact u2_int | exact u1_int | exact u2_bool | exact u1_bool | exact u2_sli | exact u1_sli | exact u2_s0 | exact u1_s0 | exact u2_fn))); intro t ht; cbv)
    | (apply E_callX hE (c_Sign ⟨_, _, _, _⟩); (case hf => rfl); (case hc => (cbv <;> trivial)); (case hle => (repeat' (first | exact u_nil | apply u_cons | apply u2_agg | exact u2_int | exact u1_int | exact u2_bool | exact u1_bool | exact u2_sli | exact u1_sli | exact u2_s0 | exact u1_s0))); intro t ht; cbv)
    | (apply E_pcallX hE (c_Sign ⟨_, _, _, _⟩); (case hm => rfl); (case hle => (repeat' (first | exact u_nil | apply u_cons | apply u2_agg | exact u2_int | exact u1_int | exact u2_bool | exact u1_bool | exact u2_sli | exact u1_sli | exact u2_s0 | exact u1_s0))); intro t ht; cbv)
    | (apply E_callX hE (c_ivNone ); (case hf => rfl); (case hc => (cbv <;> trivial)); (case hle => (repeat' (first | exact u_nil | apply u_cons | apply u2_agg | exact u2_int | exact u1_int | exact u2_bool | exact u1_bool | exact u2_sli | exact u1_sli | exact u2_s0 | exact u1_s0))); intro t ht; cbv)
    | (apply E_pcallX hE (c_ivNone ); (case hm => rfl); (case hle => (repeat' (first | exact u_nil | apply u_cons | apply u2_agg | exact u2_int | exact u1_int | exact u2_bool | exact u1_bool | exact u2_sli | exact u1_sli | exact u2_s0 | exact u1_s0))); intro t ht; cbv)
    | (apply E_callX hE (c_ivHas ⟨_, ⟨_, _, _, _⟩, ⟨_, _, _, _⟩⟩ ⟨_, _, _, _⟩); (case hf => rfl); (case hc => (cbv <;> trivial)); (case hle => (repeat' (first | exact u_nil | apply u_cons | apply u2_agg | exact u2_int | exact u1_int | exact u2_bool | exact u1_bool | exact u2_sli | exact u1_sli | exact u2_s0 | exact u1_s0))); intro t ht; cbv)
    | (apply E_pcallX hE (c_ivHas ⟨_, ⟨_, _, _, _⟩, ⟨_, _, _, _⟩⟩ ⟨_, _, _, _⟩); (case hm => rfl); (case hle => (repeat' (first | exact u_nil | apply u_cons | apply u2_agg | exact u2_int | exact u1_int | exact u2_bool | exact u1_bool | exact u2_sli | exact u1_sli | exact u2_s0 | exact u1_s0))); intro t ht; cbv)
    | (apply E_callX hE (c_ivAll ); (case hf => rfl); (case hc => (cbv <;> trivial)); (case hle => (repeat' (first | exact u_nil | apply u_cons | apply u2_agg | exact u2_int | exact u1_int | exact u2_bool | exact u1_bool | exact u2_sli | exact u1_sli | exact u2_s0 | exact u1_s0))); intro t ht; cbv)
    | (apply E_pcallX hE (c_ivAll ); (case hm => rfl); (case hle => (repeat' (first | exact u_nil | apply u_cons | apply u2_agg | exact u2_int | exact u1_int | exact u2_bool | exact u1_bool | exact u2_sli | exact u1_sli | exact u2_s0 | exact u1_s0))); intro t ht; cbv)
    | (apply E_callX hE (c_quDiv ⟨_, _, _, _⟩ ⟨_, _, _, _⟩ _ ?_ ?_); (case hf => rfl); (case hc => (cbv <;> trivial)); (case hle => (repeat' (first | exact u_nil | apply u_cons | apply u2_agg | exact u2_int | exact u1_int | exact u2_bool | exact u1_bool | exact u2_sli | exact u1_sli | exact u2_s0 | exact u1_s0))); all_goals (first | (intro t ht; cbv) | (subst hE; (try simp only [realE, cmp_eql, cmp_neq, cmp_lss, cmp_leq, cmp_gtr, cmp_geq, intBinR, decide_eq_true_eq, decide_eq_false_iff_not, SI.val, SB.val, Num.eta, Iv.eta] at *); first | exact h1 | exact h2 | exact h3 | exact h4)))
    | (apply E_pcallX hE (c_quDiv ⟨_, _, _, _⟩ ⟨_, _, _, _⟩ _ ?_ ?_); (case hm => rfl); (case hle => (repeat' (first | exact u_nil | apply u_cons | apply u2_agg | exact u2_int | exact u1_int | exact u2_bool | exact u1_bool | exact u2_sli | exact u1_sli | exact u2_s0 | exact u1_s0))); all_goals (first | (intro t ht; cbv) | (subst hE; (try simp only [realE, cmp_eql, cmp_neq, cmp_lss, cmp_leq, cmp_gtr, cmp_geq, intBinR, decide_eq_true_eq, decide_eq_false_iff_not, SI.val, SB.val, Num.eta, Iv.eta] at *); first | exact h1 | exact h2 | exact h3 | exact h4)))
    | (apply E_callX hE (c_Inf _); (case hf => rfl); (case hc => (cbv <;> trivial)); (case hle => (repeat' (first | exact u_nil | apply u_cons | apply u2_agg | exact u2_int | exact u1_int | exact u2_bool | exact u1_bool | exact u2_sli | exact u1_sli | exact u2_s0 | exact u1_s0))); intro t ht; cbv)
    | (apply E_pcallX hE (c_Inf _); (case hm => rfl); (case hle => (repeat' (first | exact u_nil | apply u_cons | apply u2_agg | exact u2_int | exact u1_int | exact u2_bool | exact u1_bool | exact u2_sli | exact u1_sli | exact u2_s0 | exact u1_s0))); intro t ht; cbv)
    | (apply E_callX hE (c_ivMake ⟨_, _, _, _⟩ ⟨_, _, _, _⟩); (case hf => rfl); (case hc => (cbv <;> trivial)); (case hle => (repeat' (first | exact u_nil | apply u_cons | apply u2_agg | exact u2_int | exact u1_int | exact u2_bool | exact u1_bool | exact u2_sli | exact u1_sli | exact u2_s0 | exact u1_s0))); intro t ht; cbv)
    | (apply E_pcallX hE (c_ivMake ⟨_, _, _, _⟩ ⟨_, _, _, _⟩); (case hm => rfl); (case hle => (repeat' (first | exact u_nil | apply u_cons | apply u2_agg | exact u2_int | exact u1_int | exact u2_bool | exact u1_bool | exact u2_sli | exact u1_sli | exact u2_s0 | exact u1_s0))); intro t ht; cbv)
    | fail)
  all_goals (subst hE; subst hr)
  all_goals (try simp only [realE, cmp_eql, cmp_neq, cmp_lss, cmp_leq, cmp_gtr, cmp_geq, intBinR, decide_eq_true_eq, decide_eq_false_iff_not, SI.val, SB.val, Num.eta, Iv.eta] at *)
  all_goals (try refine Iv.fin (t := ⟨_, ⟨_, _, _, _⟩, ⟨_, _, _, _⟩⟩) ?_)
  all_goals (change t = _; subst_vars; try simp only [show ({ kind := 0, neg := false, m := 0, e := 0 } : Num) = Num.zero from rfl] at *)
  all_goals (try replace hv := hv.symm)
  all_goals first
    | (exfalso; omega)
    | (unfold Iv.div Iv.corners; first
      | rw [if_pos (.inl ‹_›)]
      | rw [if_pos (.inr ⟨by omega, by omega⟩)]
      | (rw [if_neg (by rintro (q | q) <;> first | omega | simp_all)]; first
        | rw [if_pos (show 0 < b.lo.sign ∨ b.hi.sign < 0 by omega)]
        | (rw [if_neg (show ¬ (0 < b.lo.sign ∨ b.hi.sign < 0) by omega)]; first
          | rw [if_pos (.inl ⟨by omega, by omega⟩)]
          | rw [if_pos (.inr ‹_›)]
          | (rw [if_neg (by rintro (q | q) <;> first | omega | simp_all)]; unfold Iv.half
             (first | rw [if_pos (show a.lo.sign < 0 by omega)] | rw [if_neg (show ¬ a.lo.sign < 0 by omega)])
             (first | rw [if_pos (show b.hi.sign = 0 by omega)] | rw [if_neg (show ¬ b.hi.sign = 0 by omega)])
             (first | rw [if_pos (by omega)] | rw [if_neg (by omega)])))))

end Go.Proofs.Ytincnfjihffllaa.Ev