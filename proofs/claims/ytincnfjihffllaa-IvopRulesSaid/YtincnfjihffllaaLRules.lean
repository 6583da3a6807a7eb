/- Proved: the order of two plays no part in a sum and a product of intervals; the opposite of an opposite is it; a difference is the opposite of the turned one; a square is within the product with itself, and how far an interval is from nought within the root of its square; for all intervals that may be, as the given row says it. -/
import Derived.Test.YtincnfjihffllaaB6
import Derived.Test.YtincnfjihffllaaRows
import Derived.Test.YtincnfjihffllaaChecked
import Derived.WalkKit
import Derived.ProofKit
import Derived.OpenShut
import Derived.ShutString
import Derived.ChangeOld
import Derived.Below
import Derived.SizedLaws
import Derived.Carry
import Derived.RowKit
set_option linter.unusedVariables false
set_option linter.unusedSimpArgs false

/- Contracts: the laws of rules and of parts, out of their plain laws. Printed by gen.py out of C24.spec. -/
namespace Go.Proofs.Ytincnfjihffllaa.Ev
open Go Go.Proofs
set_option linter.unusedVariables false
set_option linter.unusedSimpArgs false
theorem iv_chain {x y : Iv} (e : x = y) : ((x.empty == y.empty && (decide (x.lo.kind = y.lo.kind) && (x.lo.neg == y.lo.neg && (decide (x.lo.m = y.lo.m) && (decide (x.lo.e = y.lo.e) &&
    (decide (x.hi.kind = y.hi.kind) && (x.hi.neg == y.hi.neg && (decide (x.hi.m = y.hi.m) && decide (x.hi.e = y.hi.e))))))))) : Bool) = true := by subst e; simp
structure Iv.RulesOK (a b : Iv) : Prop where
  add : Iv.add [a, b] = Iv.add [b, a]
  mul : Iv.mul a b = Iv.mul b a
  neg : Iv.neg (Iv.neg a) = a
  sub : Iv.sub a b = Iv.neg (Iv.sub b a)
  sqr : (Iv.sqr a).within (Iv.mul a a) = true
  abs : (Iv.abs a).within (Iv.root (Iv.sqr a)) = true

set_option maxRecDepth 10000 in
set_option maxHeartbeats 8000000 in
theorem c_Rules (a b : Iv) (ha : a.lo.ok ∧ a.hi.ok) (hb : b.lo.ok ∧ b.hi.ok) (L : a.may = true → b.may = true → Iv.RulesOK a b) :
    ∃ t, t = true ∧ CallsA Try.prog 14 [a.av, b.av] (.bool (.s t)) := by
  refine ⟨_, rfl, ?_⟩
  generalize hr : true = r
  refine callsA_of hG hm Try.func14 (by kernel_rfl) ?_
  intro E hE lp hl
  cbv
  (apply E_callX hE (c_awake); (case hf => rfl); (case hc => (cbv <;> trivial)); (case hle => (repeat' (first | exact u_nil | apply u_cons | apply u2_agg | exact u2_int | exact u1_int | exact u2_bool | exact u1_bool | exact u2_sli | exact u1_sli | exact u2_s0 | exact u1_s0))); all_goals (first | (intro t ht; cbv) | (assumption)))
  repeat' (first
    | (apply E_br_t hE; assumption; cbv)
    | (apply E_br_f hE; assumption; cbv)
    | (refine E_br hE (fun h => ?_) (fun h => ?_) <;> cbv)
    | (refine E_nm hE (fun v hv => ?_); cbv)
    | (apply E_callX hE (c_ivMay ⟨_, ⟨_, _, _, _⟩, ⟨_, _, _, _⟩⟩); (case hf => rfl); (case hc => (cbv <;> trivial)); (case hle => (repeat' (first | exact u_nil | apply u_cons | apply u2_agg | exact u2_int | exact u1_int | exact u2_bool | exact u1_bool | exact u2_sli | exact u1_sli | exact u2_s0 | exact u1_s0))); all_goals (first | (intro t ht; cbv) | (assumption)))
    | (apply E_callX hE (c_ivWithin ⟨_, ⟨_, _, _, _⟩, ⟨_, _, _, _⟩⟩ ⟨_, ⟨_, _, _, _⟩, ⟨_, _, _, _⟩⟩); (case hf => rfl); (case hc => (cbv <;> trivial)); (case hle => (repeat' (first | exact u_nil | apply u_cons | apply u2_agg | exact u2_int | exact u1_int | exact u2_bool | exact u1_bool | exact u2_sli | exact u1_sli | exact u2_s0 | exact u1_s0))); all_goals (first | (intro t ht; cbv) | (assumption)))
    | (apply E_callX hE (k_opAdd2 ⟨_, ⟨_, _, _, _⟩, ⟨_, _, _, _⟩⟩ ?_ ⟨_, ⟨_, _, _, _⟩, ⟨_, _, _, _⟩⟩ ?_); (case hf => rfl); (case hc => (cbv <;> trivial)); (case hle => exact ⟨slcG2, trivial⟩); all_goals (first | (rintro t ⟨ht, ho⟩; cbv) | (assumption)))
    | (apply E_callX hE (k_opMul ⟨_, ⟨_, _, _, _⟩, ⟨_, _, _, _⟩⟩ ?_ ⟨_, ⟨_, _, _, _⟩, ⟨_, _, _, _⟩⟩ ?_); (case hf => rfl); (case hc => (cbv <;> trivial)); (case hle => (repeat' (first | exact u_nil | apply u_cons | apply u2_agg | exact u2_int | exact u1_int | exact u2_bool | exact u1_bool | exact u2_sli | exact u1_sli | exact u2_s0 | exact u1_s0))); all_goals (first | (rintro t ⟨ht, ho⟩; cbv) | (assumption)))
    | (apply E_callX hE (k_opSub ⟨_, ⟨_, _, _, _⟩, ⟨_, _, _, _⟩⟩ ?_ ⟨_, ⟨_, _, _, _⟩, ⟨_, _, _, _⟩⟩ ?_); (case hf => rfl); (case hc => (cbv <;> trivial)); (case hle => (repeat' (first | exact u_nil | apply u_cons | apply u2_agg | exact u2_int | exact u1_int | exact u2_bool | exact u1_bool | exact u2_sli | exact u1_sli | exact u2_s0 | exact u1_s0))); all_goals (first | (rintro t ⟨ht, ho⟩; cbv) | (assumption)))
    | (apply E_callX hE (k_opDiv ⟨_, ⟨_, _, _, _⟩, ⟨_, _, _, _⟩⟩ ?_ ⟨_, ⟨_, _, _, _⟩, ⟨_, _, _, _⟩⟩ ?_); (case hf => rfl); (case hc => (cbv <;> trivial)); (case hle => (repeat' (first | exact u_nil | apply u_cons | apply u2_agg | exact u2_int | exact u1_int | exact u2_bool | exact u1_bool | exact u2_sli | exact u1_sli | exact u2_s0 | exact u1_s0))); all_goals (first | (rintro t ⟨ht, ho⟩; cbv) | (assumption)))
    | (apply E_callX hE (k_opNeg ⟨_, ⟨_, _, _, _⟩, ⟨_, _, _, _⟩⟩ ?_); (case hf => rfl); (case hc => (cbv <;> trivial)); (case hle => (repeat' (first | exact u_nil | apply u_cons | apply u2_agg | exact u2_int | exact u1_int | exact u2_bool | exact u1_bool | exact u2_sli | exact u1_sli | exact u2_s0 | exact u1_s0))); all_goals (first | (rintro t ⟨ht, ho⟩; cbv) | (assumption)))
    | (apply E_callX hE (k_opSqr ⟨_, ⟨_, _, _, _⟩, ⟨_, _, _, _⟩⟩ ?_); (case hf => rfl); (case hc => (cbv <;> trivial)); (case hle => (repeat' (first | exact u_nil | apply u_cons | apply u2_agg | exact u2_int | exact u1_int | exact u2_bool | exact u1_bool | exact u2_sli | exact u1_sli | exact u2_s0 | exact u1_s0))); all_goals (first | (rintro t ⟨ht, ho⟩; cbv) | (assumption)))
    | (apply E_callX hE (k_opAbs ⟨_, ⟨_, _, _, _⟩, ⟨_, _, _, _⟩⟩ ?_); (case hf => rfl); (case hc => (cbv <;> trivial)); (case hle => (repeat' (first | exact u_nil | apply u_cons | apply u2_agg | exact u2_int | exact u1_int | exact u2_bool | exact u1_bool | exact u2_sli | exact u1_sli | exact u2_s0 | exact u1_s0))); all_goals (first | (rintro t ⟨ht, ho⟩; cbv) | (assumption)))
    | (apply E_callX hE (k_opRoot ⟨_, ⟨_, _, _, _⟩, ⟨_, _, _, _⟩⟩ ?_); (case hf => rfl); (case hc => (cbv <;> trivial)); (case hle => (repeat' (first | exact u_nil | apply u_cons | apply u2_agg | exact u2_int | exact u1_int | exact u2_bool | exact u1_bool | exact u2_sli | exact u1_sli | exact u2_s0 | exact u1_s0))); all_goals (first | (rintro t ⟨ht, ho⟩; cbv) | (assumption)))
    | (apply E_pcallX hE (c_ivMay ⟨_, ⟨_, _, _, _⟩, ⟨_, _, _, _⟩⟩); (case hm => rfl); (case hle => (repeat' (first | exact u_nil | apply u_cons | apply u2_agg | exact u2_int | exact u1_int | exact u2_bool | exact u1_bool | exact u2_sli | exact u1_sli | exact u2_s0 | exact u1_s0))); all_goals (first | (intro t ht; cbv) | (assumption)))
    | (apply E_pcallX hE (c_ivWithin ⟨_, ⟨_, _, _, _⟩, ⟨_, _, _, _⟩⟩ ⟨_, ⟨_, _, _, _⟩, ⟨_, _, _, _⟩⟩); (case hm => rfl); (case hle => (repeat' (first | exact u_nil | apply u_cons | apply u2_agg | exact u2_int | exact u1_int | exact u2_bool | exact u1_bool | exact u2_sli | exact u1_sli | exact u2_s0 | exact u1_s0))); all_goals (first | (intro t ht; cbv) | (assumption)))
    | (apply E_pcallX hE (k_opAdd2 ⟨_, ⟨_, _, _, _⟩, ⟨_, _, _, _⟩⟩ ?_ ⟨_, ⟨_, _, _, _⟩, ⟨_, _, _, _⟩⟩ ?_); (case hm => rfl); (case hle => exact ⟨slcG2, trivial⟩); all_goals (first | (rintro t ⟨ht, ho⟩; cbv) | (assumption)))
    | (apply E_pcallX hE (k_opMul ⟨_, ⟨_, _, _, _⟩, ⟨_, _, _, _⟩⟩ ?_ ⟨_, ⟨_, _, _, _⟩, ⟨_, _, _, _⟩⟩ ?_); (case hm => rfl); (case hle => (repeat' (first | exact u_nil | apply u_cons | apply u2_agg | exact u2_int | exact u1_int | exact u2_bool | exact u1_bool | exact u2_sli | exact u1_sli | exact u2_s0 | exact u1_s0))); all_goals (first | (rintro t ⟨ht, ho⟩; cbv) | (assumption)))
    | (apply E_pcallX hE (k_opSub ⟨_, ⟨_, _, _, _⟩, ⟨_, _, _, _⟩⟩ ?_ ⟨_, ⟨_, _, _, _⟩, ⟨_, _, _, _⟩⟩ ?_); (case hm => rfl); (case hle => (repeat' (first | exact u_nil | apply u_cons | apply u2_agg | exact u2_int | exact u1_int | exact u2_bool | exact u1_bool | exact u2_sli | exact u1_sli | exact u2_s0 | exact u1_s0))); all_goals (first | (rintro t ⟨ht, ho⟩; cbv) | (assumption)))
    | (apply E_pcallX hE (k_opDiv ⟨_, ⟨_, _, _, _⟩, ⟨_, _, _, _⟩⟩ ?_ ⟨_, ⟨_, _, _, _⟩, ⟨_, _, _, _⟩⟩ ?_); (case hm => rfl); (case hle => (repeat' (first | exact u_nil | apply u_cons | apply u2_agg | exact u2_int | exact u1_int | exact u2_bool | exact u1_bool | exact u2_sli | exact u1_sli | exact u2_s0 | exact u1_s0))); all_goals (first | (rintro t ⟨ht, ho⟩; cbv) | (assumption)))
    | (apply E_pcallX hE (k_opNeg ⟨_, ⟨_, _, _, _⟩, ⟨_, _, _, _⟩⟩ ?_); (case hm => rfl); (case hle => (repeat' (first | exact u_nil | apply u_cons | apply u2_agg | exact u2_int | exact u1_int | exact u2_bool | exact u1_bool | exact u2_sli | exact u1_sli | exact u2_s0 | exact u1_s0))); all_goals (first | (rintro t ⟨ht, ho⟩; cbv) | (assumption)))
    | (apply E_pcallX hE (k_opSqr ⟨_, ⟨_, _, _, _⟩, ⟨_, _, _, _⟩⟩ ?_); (case hm => rfl); (case hle => (repeat' (first | exact u_nil | apply u_cons | apply u2_agg | exact u2_int | exact u1_int | exact u2_bool | exact u1_bool | exact u2_sli | exact u1_sli | exact u2_s0 | exact u1_s0))); all_goals (first | (rintro t ⟨ht, ho⟩; cbv) | (assumption)))
    | (apply E_pcallX hE (k_opAbs ⟨_, ⟨_, _, _, _⟩, ⟨_, _, _, _⟩⟩ ?_); (case hm => rfl); (case hle => (repeat' (first | exact u_nil | apply u_cons | apply u2_agg | exact u2_int | exact u1_int | exact u2_bool | exact u1_bool | exact u2_sli | exact u1_sli | exact u2_s0 | exact u1_s0))); all_goals (first | (rintro t ⟨ht, ho⟩; cbv) | (assumption)))
    | (apply E_pcallX hE (k_opRoot ⟨_, ⟨_, _, _, _⟩, ⟨_, _, _, _⟩⟩ ?_); (case hm => rfl); (case hle => (repeat' (first | exact u_nil | apply u_cons | apply u2_agg | exact u2_int | exact u1_int | exact u2_bool | exact u1_bool | exact u2_sli | exact u1_sli | exact u2_s0 | exact u1_s0))); all_goals (first | (rintro t ⟨ht, ho⟩; cbv) | (assumption)))
    | fail)
  all_goals subst hE
  all_goals (try rfl)
  all_goals simp only [NatCast.natCast, Int.ofNat_eq_natCast, realE, cmp_eql, cmp_neq, cmp_lss, cmp_leq, cmp_gtr, cmp_geq, intBinR, SI.val, SB.val, Num.eta, Iv.eta] at *
  all_goals subst_vars
  all_goals (try rfl)
  all_goals (try (have RL := L (by simpa using ‹(!a.may) = false›) (by simpa using ‹(!b.may) = false›)
                  first
                    | exact RL.abs
                    | exact absurd (RL.sqr.symm.trans ‹Iv.within _ _ = false›) (by decide)
                    | exact absurd ((iv_chain RL.add).symm.trans h) (by decide)
                    | exact absurd ((iv_chain RL.mul).symm.trans h) (by decide)
                    | exact absurd ((iv_chain RL.neg).symm.trans h) (by decide)
                    | exact absurd ((iv_chain RL.sub).symm.trans h) (by decide)
                    | exact absurd (ht.trans RL.sqr) (by decide)))

structure Iv.WithinOK (a b c d : Iv) : Prop where
  add : (Iv.add [a, b]).within (Iv.add [c, d]) = true
  sub : (Iv.sub a b).within (Iv.sub c d) = true
  mul : (Iv.mul a b).within (Iv.mul c d) = true
  div : (Iv.div a b).within (Iv.div c d) = true
  sqr : (Iv.sqr a).within (Iv.sqr c) = true
  root : (Iv.root a).within (Iv.root c) = true
  abs : (Iv.abs a).within (Iv.abs c) = true
set_option maxRecDepth 10000 in
set_option maxHeartbeats 8000000 in
theorem c_Within (a b c d : Iv) (ha : a.lo.ok ∧ a.hi.ok) (hb : b.lo.ok ∧ b.hi.ok) (hc : c.lo.ok ∧ c.hi.ok) (hd : d.lo.ok ∧ d.hi.ok) (L : a.within c = true → b.within d = true → Iv.WithinOK a b c d) :
    ∃ t, t = true ∧ CallsA Try.prog 13 [a.av, b.av, c.av, d.av] (.bool (.s t)) := by
  refine ⟨_, rfl, ?_⟩
  generalize hr : true = r
  refine callsA_of hG hm Try.func13 (by kernel_rfl) ?_
  intro E hE lp hl
  cbv
  (apply E_callX hE (c_awake); (case hf => rfl); (case hc => (cbv <;> trivial)); (case hle => (repeat' (first | exact u_nil | apply u_cons | apply u2_agg | exact u2_int | exact u1_int | exact u2_bool | exact u1_bool | exact u2_sli | exact u1_sli | exact u2_s0 | exact u1_s0))); all_goals (first | (intro t ht; cbv) | (assumption)))
  repeat' (first
    | (apply E_br_t hE; assumption; cbv)
    | (apply E_br_f hE; assumption; cbv)
    | (refine E_br hE (fun h => ?_) (fun h => ?_) <;> cbv)
    | (refine E_nm hE (fun v hv => ?_); cbv)
    | (apply E_callX hE (c_ivMay ⟨_, ⟨_, _, _, _⟩, ⟨_, _, _, _⟩⟩); (case hf => rfl); (case hc => (cbv <;> trivial)); (case hle => (repeat' (first | exact u_nil | apply u_cons | apply u2_agg | exact u2_int | exact u1_int | exact u2_bool | exact u1_bool | exact u2_sli | exact u1_sli | exact u2_s0 | exact u1_s0))); all_goals (first | (intro t ht; cbv) | (assumption)))
    | (apply E_callX hE (c_ivWithin ⟨_, ⟨_, _, _, _⟩, ⟨_, _, _, _⟩⟩ ⟨_, ⟨_, _, _, _⟩, ⟨_, _, _, _⟩⟩); (case hf => rfl); (case hc => (cbv <;> trivial)); (case hle => (repeat' (first | exact u_nil | apply u_cons | apply u2_agg | exact u2_int | exact u1_int | exact u2_bool | exact u1_bool | exact u2_sli | exact u1_sli | exact u2_s0 | exact u1_s0))); all_goals (first | (intro t ht; cbv) | (assumption)))
    | (apply E_callX hE (k_opAdd2 ⟨_, ⟨_, _, _, _⟩, ⟨_, _, _, _⟩⟩ ?_ ⟨_, ⟨_, _, _, _⟩, ⟨_, _, _, _⟩⟩ ?_); (case hf => rfl); (case hc => (cbv <;> trivial)); (case hle => exact ⟨slcG2, trivial⟩); all_goals (first | (rintro t ⟨ht, ho⟩; cbv) | (assumption)))
    | (apply E_callX hE (k_opMul ⟨_, ⟨_, _, _, _⟩, ⟨_, _, _, _⟩⟩ ?_ ⟨_, ⟨_, _, _, _⟩, ⟨_, _, _, _⟩⟩ ?_); (case hf => rfl); (case hc => (cbv <;> trivial)); (case hle => (repeat' (first | exact u_nil | apply u_cons | apply u2_agg | exact u2_int | exact u1_int | exact u2_bool | exact u1_bool | exact u2_sli | exact u1_sli | exact u2_s0 | exact u1_s0))); all_goals (first | (rintro t ⟨ht, ho⟩; cbv) | (assumption)))
    | (apply E_callX hE (k_opSub ⟨_, ⟨_, _, _, _⟩, ⟨_, _, _, _⟩⟩ ?_ ⟨_, ⟨_, _, _, _⟩, ⟨_, _, _, _⟩⟩ ?_); (case hf => rfl); (case hc => (cbv <;> trivial)); (case hle => (repeat' (first | exact u_nil | apply u_cons | apply u2_agg | exact u2_int | exact u1_int | exact u2_bool | exact u1_bool | exact u2_sli | exact u1_sli | exact u2_s0 | exact u1_s0))); all_goals (first | (rintro t ⟨ht, ho⟩; cbv) | (assumption)))
    | (apply E_callX hE (k_opDiv ⟨_, ⟨_, _, _, _⟩, ⟨_, _, _, _⟩⟩ ?_ ⟨_, ⟨_, _, _, _⟩, ⟨_, _, _, _⟩⟩ ?_); (case hf => rfl); (case hc => (cbv <;> trivial)); (case hle => (repeat' (first | exact u_nil | apply u_cons | apply u2_agg | exact u2_int | exact u1_int | exact u2_bool | exact u1_bool | exact u2_sli | exact u1_sli | exact u2_s0 | exact u1_s0))); all_goals (first | (rintro t ⟨ht, ho⟩; cbv) | (assumption)))
    | (apply E_callX hE (k_opNeg ⟨_, ⟨_, _, _, _⟩, ⟨_, _, _, _⟩⟩ ?_); (case hf => rfl); (case hc => (cbv <;> trivial)); (case hle => (repeat' (first | exact u_nil | apply u_cons | apply u2_agg | exact u2_int | exact u1_int | exact u2_bool | exact u1_bool | exact u2_sli | exact u1_sli | exact u2_s0 | exact u1_s0))); all_goals (first | (rintro t ⟨ht, ho⟩; cbv) | (assumption)))
    | (apply E_callX hE (k_opSqr ⟨_, ⟨_, _, _, _⟩, ⟨_, _, _, _⟩⟩ ?_); (case hf => rfl); (case hc => (cbv <;> trivial)); (case hle => (repeat' (first | exact u_nil | apply u_cons | apply u2_agg | exact u2_int | exact u1_int | exact u2_bool | exact u1_bool | exact u2_sli | exact u1_sli | exact u2_s0 | exact u1_s0))); all_goals (first | (rintro t ⟨ht, ho⟩; cbv) | (assumption)))
    | (apply E_callX hE (k_opAbs ⟨_, ⟨_, _, _, _⟩, ⟨_, _, _, _⟩⟩ ?_); (case hf => rfl); (case hc => (cbv <;> trivial)); (case hle => (repeat' (first | exact u_nil | apply u_cons | apply u2_agg | exact u2_int | exact u1_int | exact u2_bool | exact u1_bool | exact u2_sli | exact u1_sli | exact u2_s0 | exact u1_s0))); all_goals (first | (rintro t ⟨ht, ho⟩; cbv) | (assumption)))
    | (apply E_callX hE (k_opRoot ⟨_, ⟨_, _, _, _⟩, ⟨_, _, _, _⟩⟩ ?_); (case hf => rfl); (case hc => (cbv <;> trivial)); (case hle => (repeat' (first | exact u_nil | apply u_cons | apply u2_agg | exact u2_int | exact u1_int | exact u2_bool | exact u1_bool | exact u2_sli | exact u1_sli | exact u2_s0 | exact u1_s0))); all_goals (first | (rintro t ⟨ht, ho⟩; cbv) | (assumption)))
    | (apply E_pcallX hE (c_ivMay ⟨_, ⟨_, _, _, _⟩, ⟨_, _, _, _⟩⟩); (case hm => rfl); (case hle => (repeat' (first | exact u_nil | apply u_cons | apply u2_agg | exact u2_int | exact u1_int | exact u2_bool | exact u1_bool | exact u2_sli | exact u1_sli | exact u2_s0 | exact u1_s0))); all_goals (first | (intro t ht; cbv) | (assumption)))
    | (apply E_pcallX hE (c_ivWithin ⟨_, ⟨_, _, _, _⟩, ⟨_, _, _, _⟩⟩ ⟨_, ⟨_, _, _, _⟩, ⟨_, _, _, _⟩⟩); (case hm => rfl); (case hle => (repeat' (first | exact u_nil | apply u_cons | apply u2_agg | exact u2_int | exact u1_int | exact u2_bool | exact u1_bool | exact u2_sli | exact u1_sli | exact u2_s0 | exact u1_s0))); all_goals (first | (intro t ht; cbv) | (assumption)))
    | (apply E_pcallX hE (k_opAdd2 ⟨_, ⟨_, _, _, _⟩, ⟨_, _, _, _⟩⟩ ?_ ⟨_, ⟨_, _, _, _⟩, ⟨_, _, _, _⟩⟩ ?_); (case hm => rfl); (case hle => exact ⟨slcG2, trivial⟩); all_goals (first | (rintro t ⟨ht, ho⟩; cbv) | (assumption)))
    | (apply E_pcallX hE (k_opMul ⟨_, ⟨_, _, _, _⟩, ⟨_, _, _, _⟩⟩ ?_ ⟨_, ⟨_, _, _, _⟩, ⟨_, _, _, _⟩⟩ ?_); (case hm => rfl); (case hle => (repeat' (first | exact u_nil | apply u_cons | apply u2_agg | exact u2_int | exact u1_int | exact u2_bool | exact u1_bool | exact u2_sli | exact u1_sli | exact u2_s0 | exact u1_s0))); all_goals (first | (rintro t ⟨ht, ho⟩; cbv) | (assumption)))
    | (apply E_pcallX hE (k_opSub ⟨_, ⟨_, _, _, _⟩, ⟨_, _, _, _⟩⟩ ?_ ⟨_, ⟨_, _, _, _⟩, ⟨_, _, _, _⟩⟩ ?_); (case hm => rfl); (case hle => (repeat' (first | exact u_nil | apply u_cons | apply u2_agg | exact u2_int | exact u1_int | exact u2_bool | exact u1_bool | exact u2_sli | exact u1_sli | exact u2_s0 | exact u1_s0))); all_goals (first | (rintro t ⟨ht, ho⟩; cbv) | (assumption)))
    | (apply E_pcallX hE (k_opDiv ⟨_, ⟨_, _, _, _⟩, ⟨_, _, _, _⟩⟩ ?_ ⟨_, ⟨_, _, _, _⟩, ⟨_, _, _, _⟩⟩ ?_); (case hm => rfl); (case hle => (repeat' (first | exact u_nil | apply u_cons | apply u2_agg | exact u2_int | exact u1_int | exact u2_bool | exact u1_bool | exact u2_sli | exact u1_sli | exact u2_s0 | exact u1_s0))); all_goals (first | (rintro t ⟨ht, ho⟩; cbv) | (assumption)))
    | (apply E_pcallX hE (k_opNeg ⟨_, ⟨_, _, _, _⟩, ⟨_, _, _, _⟩⟩ ?_); (case hm => rfl); (case hle => (repeat' (first | exact u_nil | apply u_cons | apply u2_agg | exact u2_int | exact u1_int | exact u2_bool | exact u1_bool | exact u2_sli | exact u1_sli | exact u2_s0 | exact u1_s0))); all_goals (first | (rintro t ⟨ht, ho⟩; cbv) | (assumption)))
    | (apply E_pcallX hE (k_opSqr ⟨_, ⟨_, _, _, _⟩, ⟨_, _, _, _⟩⟩ ?_); (case hm => rfl); (case hle => (repeat' (first | exact u_nil | apply u_cons | apply u2_agg | exact u2_int | exact u1_int | exact u2_bool | exact u1_bool | exact u2_sli | exact u1_sli | exact u2_s0 | exact u1_s0))); all_goals (first | (rintro t ⟨ht, ho⟩; cbv) | (assumption)))
    | (apply E_pcallX hE (k_opAbs ⟨_, ⟨_, _, _, _⟩, ⟨_, _, _, _⟩⟩ ?_); (case hm => rfl); (case hle => (repeat' (first | exact u_nil | apply u_cons | apply u2_agg | exact u2_int | exact u1_int | exact u2_bool | exact u1_bool | exact u2_sli | exact u1_sli | exact u2_s0 | exact u1_s0))); all_goals (first | (rintro t ⟨ht, ho⟩; cbv) | (assumption)))
    | (apply E_pcallX hE (k_opRoot ⟨_, ⟨_, _, _, _⟩, ⟨_, _, _, _⟩⟩ ?_); (case hm => rfl); (case hle => (repeat' (first | exact u_nil | apply u_cons | apply u2_agg | exact u2_int | exact u1_int | exact u2_bool | exact u1_bool | exact u2_sli | exact u1_sli | exact u2_s0 | exact u1_s0))); all_goals (first | (rintro t ⟨ht, ho⟩; cbv) | (assumption)))
    | fail)
  all_goals subst hE
  all_goals (try rfl)
  all_goals simp only [NatCast.natCast, Int.ofNat_eq_natCast, realE, cmp_eql, cmp_neq, cmp_lss, cmp_leq, cmp_gtr, cmp_geq, intBinR, SI.val, SB.val, Num.eta, Iv.eta] at *
  all_goals subst_vars
  all_goals (try rfl)
  all_goals (have RL := L (by first | assumption | simpa using ‹(!a.within c) = false›) (by first | assumption | simpa using ‹(!b.within d) = false›))
  all_goals (first
    | exact RL.abs
    | exact absurd (Eq.trans (by assumption) RL.add : false = true) (by decide)
    | exact absurd (Eq.trans (by assumption) RL.sub : false = true) (by decide)
    | exact absurd (Eq.trans (by assumption) RL.mul : false = true) (by decide)
    | exact absurd (Eq.trans (by assumption) RL.div : false = true) (by decide)
    | exact absurd (Eq.trans (by assumption) RL.sqr : false = true) (by decide)
    | exact absurd (Eq.trans (by assumption) RL.root : false = true) (by decide)
    | exact absurd (Eq.trans (by assumption) RL.abs : false = true) (by decide))

end Go.Proofs.Ytincnfjihffllaa.Ev

/- The law of rules: plain Lean. -/
namespace Go.Proofs.Ytincnfjihffllaa.Ev
open Go

theorem Iv.abs_real {a : Iv} (r : a.Real) : (Iv.abs a).Real ∧ 0 ≤ (Iv.abs a).lo.val := by
  rcases Iv.abs_cases r with ⟨h, e⟩ | ⟨h1, h2, e⟩ | ⟨h1, h2, e, h4, h5, h6⟩
  · rw [e]; exact ⟨r, h⟩
  · rw [e]
    refine ⟨r.neg, ?_⟩
    show 0 ≤ a.hi.opp.val
    rw [Num.opp_val, Num.may_fair r.him]; omega
  · rw [e]
    have p := pw_pos 1048640
    have mo : (Num.most [a.hi, a.lo.opp]).may = true ∧ (Num.most [a.hi, a.lo.opp]).ok := by
      rcases h4 with h4 | h4 <;> rw [h4]
      · exact ⟨r.him, r.hio⟩
      · exact ⟨Num.opp_may _, Num.opp_ok r.loo⟩
    refine ⟨⟨rfl, Num.zero_may, mo.1, Num.zero_ok, mo.2, ?_, ?_, ?_⟩, ?_⟩
    · show Num.zero.val ≤ (Num.most [a.hi, a.lo.opp]).val; rw [Num.val_zero]; omega
    · show Num.zero.val < _; rw [Num.val_zero]; exact p
    · show -pw 1048640 < (Num.most [a.hi, a.lo.opp]).val; omega
    · show 0 ≤ Num.zero.val; rw [Num.val_zero]; omega

theorem sq_dn {x : Num} (m : x.may = true) (o : x.ok) (h : 0 ≤ x.val) (k : x ≠ Num.inf false) :
    (Num.mul x x false).may = true ∧ 0 ≤ (Num.mul x x false).val ∧ Num.mul x x false ≠ Num.inf false ∧ (Num.mul x x false).val * pw 0 ≤ x.val * x.val := by
  have k2 : x.fair.kind ≠ 2 := by
    rw [Num.may_fair m]
    rcases Num.nn_cases m o h with e | ⟨e, -⟩ | e
    · rw [e]; decide
    · rw [e.kind]; decide
    · exact absurd e k
  have B := mul_best o o k2 k2 false
  rw [Num.may_fair m] at B
  have nn : 0 ≤ (Num.mul x x false).val := by
    have := B.dopt rfl Num.zero Num.zero_may Num.zero_ok (by decide) (by rw [Num.val_zero]; have := Int.mul_nonneg h h; omega)
    rwa [Num.val_zero] at this
  obtain ⟨h1, h2⟩ := B.down rfl
  refine ⟨B.may, nn, h1, ?_⟩
  rcases h2 with h2 | h2
  · exfalso; rw [h2, Num.val_inf] at nn; have := pw_pos 1048640; simp at nn; omega
  · exact h2
theorem sq_up {x : Num} (m : x.may = true) (o : x.ok) (h : 0 ≤ x.val) :
    (Num.mul x x true).may = true ∧ 0 ≤ (Num.mul x x true).val ∧ (Num.mul x x true = Num.inf false ∨ x.val * x.val ≤ (Num.mul x x true).val * pw 0) := by
  by_cases k2 : x.fair.kind = 2
  · have e : x = Num.inf false := by
      rw [Num.may_fair m] at k2
      rcases Num.nn_cases m o h with e | ⟨e, -⟩ | e
      · rw [e] at k2; exact absurd k2 (by decide)
      · rw [e.kind] at k2; exact absurd k2 (by decide)
      · exact e
    have ei : Num.mul x x true = Num.inf false := by rw [e]; decide
    rw [ei]
    exact ⟨Num.inf_may _, by rw [Num.val_inf]; have := pw_pos 1048640; simp; omega, .inl rfl⟩
  · have B := mul_best o o k2 k2 true
    rw [Num.may_fair m] at B
    obtain ⟨h1, h2⟩ := B.hi rfl
    refine ⟨B.may, ?_, h2⟩
    rcases h2 with h2 | h2
    · rw [h2, Num.val_inf]; have := pw_pos 1048640; simp; omega
    · have := Int.mul_nonneg h h
      rcases Int.lt_or_le (Num.mul x x true).val 0 with hn | hn
      · have := Int.mul_neg_of_neg_of_pos hn (pw_pos 0); omega
      · exact hn

theorem Iv.abs_within {a : Iv} (m : a.may = true) (ha : a.lo.ok ∧ a.hi.ok) : (Iv.abs a).within (Iv.root (Iv.sqr a)) = true := by
  cases he : a.empty with
  | true =>
    rw [Iv.empty_may m he]
    have e : Iv.abs Iv.none = Iv.none := by decide
    rw [e]; exact Iv.empty_within _
  | false =>
    have r := Iv.real_of m he ha.1 ha.2
    obtain ⟨rp, hp⟩ := Iv.abs_real r
    have es : Iv.sqr a = Iv.make (Num.mul (Iv.abs a).lo (Iv.abs a).lo false) (Num.mul (Iv.abs a).hi (Iv.abs a).hi true) := by
      unfold Iv.sqr; rw [rp.some]; rfl
    rw [es]
    generalize Iv.abs a = p at *
    have kl : p.lo ≠ Num.inf false := fun e => by have := rp.lt; rw [e, Num.val_inf] at this; simp at this
    have hh : 0 ≤ p.hi.val := by have := rp.le; omega
    obtain ⟨l1, l2, l3, l4⟩ := sq_dn rp.lom rp.loo hp kl
    obtain ⟨u1, u2, u3⟩ := sq_up rp.him rp.hio hh
    have ol := Num.mul_ok rp.loo rp.loo false
    have ou := Num.mul_ok rp.hio rp.hio true
    have top : (Num.mul p.lo p.lo false).val < pw 1048640 := (Num.ne_inf l1 ol).1.1 l3
    have le : (Num.mul p.lo p.lo false).val ≤ (Num.mul p.hi p.hi true).val := by
      rcases u3 with e | e
      · rw [e, Num.val_inf]; simp; omega
      · have a1 : p.lo.val * p.lo.val ≤ p.lo.val * p.hi.val := Int.mul_le_mul_of_nonneg_left rp.le hp
        have a2 : p.lo.val * p.hi.val ≤ p.hi.val * p.hi.val := Int.mul_le_mul_of_nonneg_right rp.le hh
        exact Int.le_of_mul_le_mul_right (a := pw 0) (by omega) (pw_pos 0)
    have p1 := pw_pos 1048640
    have rs : (Iv.mk false (Num.mul p.lo p.lo false) (Num.mul p.hi p.hi true)).Real := ⟨rfl, l1, u1, ol, ou, le, top, by show -pw 1048640 < (Num.mul p.hi p.hi true).val; omega⟩
    have em : Iv.make (Num.mul p.lo p.lo false) (Num.mul p.hi p.hi true) = ⟨false, Num.mul p.lo p.lo false, Num.mul p.hi p.hi true⟩ := by
      have := Iv.make_real (lo := Num.mul p.lo p.lo false) (hi := Num.mul p.hi p.hi true) (by rw [Num.may_fair l1, Num.may_fair u1]; exact rs)
      rw [this, Num.may_fair l1, Num.may_fair u1]
    rw [em]
    have er : Iv.root ⟨false, Num.mul p.lo p.lo false, Num.mul p.hi p.hi true⟩ = Iv.make (Num.root (Num.mul p.lo p.lo false) false).1 (Num.root (Num.mul p.hi p.hi true) true).1 := by
      unfold Iv.root
      rw [Iv.meet_positive rs l2]
      rfl
    have q1 := Num.root_le l1 ol l2 l3 hp l4
    have q2 := Num.le_root u1 ou u2 rp.him rp.hio u3
    have m1 := Num.root_may l1 ol l2 false
    have m2 := Num.root_may u1 ou u2 true
    have o1 := Num.root_ok ol false
    have o2 := Num.root_ok ou true
    have lt := rp.lt
    have lep := rp.le
    have rr : (Iv.mk false (Num.root (Num.mul p.lo p.lo false) false).1 (Num.root (Num.mul p.hi p.hi true) true).1).Real :=
      ⟨rfl, m1.1, m2.1, o1, o2, by show (Num.root (Num.mul p.lo p.lo false) false).1.val ≤ (Num.root (Num.mul p.hi p.hi true) true).1.val; omega, by show (Num.root (Num.mul p.lo p.lo false) false).1.val < _; omega, by show _ < (Num.root (Num.mul p.hi p.hi true) true).1.val; have := m2.2; omega⟩
    rw [er, Iv.make_real (by rw [Num.may_fair m1.1, Num.may_fair m2.1]; exact rr), Num.may_fair m1.1, Num.may_fair m2.1]
    exact Iv.real_within rp rr q1 q2

theorem Iv.rules {a b : Iv} (ha : a.lo.ok ∧ a.hi.ok) (hb : b.lo.ok ∧ b.hi.ok) (ma : a.may = true) (mb : b.may = true) : Iv.RulesOK a b :=
  ⟨Iv.add2_comm ha hb, Iv.mul_comm ha hb, Iv.neg_neg ma ha, Iv.sub_neg ha hb, Iv.sqr_within ma ha, Iv.abs_within ma ha⟩
end Go.Proofs.Ytincnfjihffllaa.Ev

/- Proved: the order of two plays no part in a sum and a product of intervals; the opposite of an opposite is it; a difference is the opposite of the turned one; a square is within the product with itself, and how far an interval is from nought within the root of its square; for all intervals that may be, as the given row says it. -/
namespace Go.Proofs.Ytincnfjihffllaa.ivopRules
open Go.ChangeShapes Go.WideShapes Go.ChangeAt Go.RowKit Go.Proofs.Ytincnfjihffllaa.Ev
set_option linter.unusedVariables false
theorem own : ownKnob Try.prog.godebug = none := by kernel_rfl
theorem laidOut : laidOutB Try.prog = true := by kernel_rfl
set_option maxRecDepth 100000 in
theorem lifted (os : Os) (started : os.Started) (H : Type) (enc : TypeId × Value → H) :
    ReturnsInHanded {} Try.checked os 14 .any (Rows.ivopRulesSpec.pre6 enc Try.prog Try.f14 Rows.ivopRulesRow.domain false) (Rows.ivopRulesSpec.post enc Try.prog Try.f14 false true false false) := by
  refine returnsInHanded_of_change_sized (C := Try.checked) own started (by kernel_rfl) Try.func14
    (ChangeSpec.witness6 (enc := enc) (C := Try.checked) false ⟨#[], #[.agg #[.bool false, .int .i64 0, .bool false, .int .u64 0, .int .i64 0, .int .i64 0, .bool false, .int .u64 0, .int .i64 0], .agg #[.bool false, .int .i64 0, .bool false, .int .u64 0, .int .i64 0, .int .i64 0, .bool false, .int .u64 0, .int .i64 0]], []⟩ 8 (by kernel_rfl) (by kernel_rfl) (by kernel_rfl) (by kernel_rfl)) ?_
  intro W base args ds gs before hval0 hW hcnd hsz0 _
  have hval : ∀ (j : Nat) t v, Try.f14.params[j]? = some t → args[j]? = some v → Value.okWide Try.prog W .any base t v := hval0
  have hW' := hW
  obtain ⟨p, q, hA0, hV, rfl, hfz, hnd⟩ := hW
  have hA : DataW.TrodAll enc Try.prog W 0 (fun _ => true) true Try.f14.params.toList args.toList ds p := hA0
  rw [Try.params14] at hA hval
  obtain ⟨v0, vs0, d0, ds0, p0, q0, hargs, rfl, rfl, h0, r0⟩ := trodAll_cons hA
  obtain ⟨v1, vs1, d1, ds1, p1, q1, rfl, rfl, rfl, h1, r1⟩ := trodAll_cons r0
  obtain ⟨rfl, rfl, rfl⟩ := trodAll_nil r1
  obtain rfl : args = #[v0, v1] := by cases args; simp_all
  obtain ⟨rfl, rfl⟩ := trodVars_none hV
  have lt0 : ∀ x ∈ p0, x.block < W.heap.size := by obtain ⟨m, hm⟩ := h0; exact DataW.trod_lt m _ _ _ hm
  obtain ⟨a, w_a, w2_a, ro0⟩ := arg_iv (hval 0 50 v0 rfl rfl) h0
  have lt1 : ∀ x ∈ p1, x.block < W.heap.size := by obtain ⟨m, hm⟩ := h1; exact DataW.trod_lt m _ _ _ hm
  obtain ⟨b, w_b, w2_b, ro1⟩ := arg_iv (hval 1 50 v1 rfl rfl) h1
  clear hA0 hval0 hsz0
  obtain ⟨t, ht, hC⟩ := c_Rules a b ⟨w_a.1, w2_a.1⟩ ⟨w_b.1, w2_b.1⟩ (Iv.rules ⟨w_a.1, w2_a.1⟩ ⟨w_b.1, w2_b.1⟩)
  refine (Goes.calls (P := Try.prog) ⟨_, Try.func14, by kernel_rfl, by kernel_rfl⟩ (hC (fun k => k < W.heap.size) W #[v0, v1] (fun _ h => h) rfl ?_)).mono fun e W' ⟨val, he, hv, bel⟩ => ?_
  · intro j c hj
    match j, hj with
    | 0, hj => simp at hj; subst hj; exact ro0 _ _
    | 1, hj => simp at hj; subst hj; exact ro1 _ _
    | j + 2, hj => simp at hj
  · obtain ⟨b, v, hb⟩ : ∃ b v, b = t ∧ val = .bool b := by cases hv; rename_i h; exact ⟨_, trivial, h.symm, rfl⟩
    obtain ⟨rfl, rfl⟩ := hb
    subst ht
    subst he
    exact ⟨_, rfl, _, _, _, [], _, [], hW', trodAll_mk1 (shut_bool Try.underlying4 _), (trodAll_cons_mk (Below.trod laidOut (by kernel_rfl) (of_decide_eq_true (by kernel_rfl)) h0 bel lt0) (trodAll_cons_mk (Below.trod laidOut (by kernel_rfl) (of_decide_eq_true (by kernel_rfl)) h1 bel lt1) trodAll_mk0)), rfl, bel.frame _, fun h => by cases h⟩
theorem over : Rows.ivopRulesRow.holds Try.pinned (OpenSpec.ofChange Rows.ivopRulesSpec) :=
  OpenClaim.holds_of_wide 14 Try.f14 rfl rfl rfl rfl rfl rfl rfl ⟨rfl, rfl, rfl, rfl, rfl⟩ rfl rfl rfl rfl rfl (by kernel_rfl) Try.func14 (by kernel_rfl)
    (of_decide_eq_true (by kernel_rfl)) (by unfold Func.isWrapper; first | (rw [if_pos (by decide +kernel)]; kernel_rfl) | (rw [if_neg (by decide +kernel)]; exact ⟨rfl, rfl⟩))
    (fun os started H enc _ => lifted os started H enc)
theorem proved : Rows.IvopRulesSaid := over
end Go.Proofs.Ytincnfjihffllaa.ivopRules
namespace Go.Proofs.Ytincnfjihffllaa
/-- The row, under a short name, for the claim. -/
theorem ivopRules_holds : Rows.IvopRulesSaid := ivopRules.proved
#print axioms ivopRules_holds
end Go.Proofs.Ytincnfjihffllaa
