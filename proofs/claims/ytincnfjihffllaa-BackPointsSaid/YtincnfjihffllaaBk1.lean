/- Texts of the proof, joined: C24 Pu28 Pu29 Pu30 Pu31 Pu32 Pu33 Pu35 Pu36 C25 -/
import Derived.Test.YtincnfjihffllaaB6
set_option linter.unusedVariables false
set_option linter.unusedSimpArgs false

/- Contracts: the laws of rules and of parts, out of their plain laws. Printed by gen.py out of C24.spec. -/
namespace Go.Proofs.Ytincnfjihffllaa.Ev
open Go Go.Proofs
set_option linter.unusedVariables false
set_option linter.unusedSimpArgs false
theorem iv_chain {x y : Iv} (e : x = y) : ((x.empty == y.empty && (decide (x.lo.kind = y.lo.kind) && (x.lo.neg == y.lo.neg && (decide (x.lo.m = y.lo.m) && (decide (x.lo.e = y.lo.e) &&
    (decide (x.hi.kind = y.hi.kind) && (x.hi.neg == y.hi.neg && (decide (x.hi.m = y.hi.m) && decide (x.hi.e = y.hi.e))))))))) : Bool) = true := by subst e; simp
structure Iv.RulesOK (a b : Iv) : Prop where
  add : Iv.add [a, b] = Iv.add [b, a]
  mul : Iv.mul a b = Iv.mul b a
  neg : Iv.neg (Iv.neg a) = a
  sub : Iv.sub a b = Iv.neg (Iv.sub b a)
  sqr : (Iv.sqr a).within (Iv.mul a a) = true
  abs : (Iv.abs a).within (Iv.root (Iv.sqr a)) = true

set_option maxRecDepth 10000 in
set_option maxHeartbeats 8000000 in
theorem c_Rules (a b : Iv) (ha : a.lo.ok ∧ a.hi.ok) (hb : b.lo.ok ∧ b.hi.ok) (L : a.may = true → b.may = true → Iv.RulesOK a b) :
    ∃ t, t = true ∧ CallsA Try.prog 14 [a.av, b.av] (.bool (.s t)) := by
  refine ⟨_, rfl, ?_⟩
  generalize hr : true = r
  refine callsA_of hG hm Try.func14 (by kernel_rfl) ?_
  intro E hE lp hl
  cbv
  (apply E_callX hE (c_awake); (case hf => rfl); (case hc => (cbv <;> trivial)); (case hle => (repeat' (first | exact u_nil | apply u_cons | apply u2_agg | exact u2_int | exact u1_int | exact u2_bool | exact u1_bool | exact u2_sli | exact u1_sli | exact u2_s0 | exact u1_s0))); all_goals (first | (intro t ht; cbv) | (assumption)))
  repeat' (first
    | (apply E_br_t hE; assumption; cbv)
    | (apply E_br_f hE; assumption; cbv)
    | (refine E_br hE (fun h => ?_) (fun h => ?_) <;> cbv)
    | (refine E_nm hE (fun v hv => ?_); cbv)
    | (apply E_callX hE (c_ivMay ⟨_, ⟨_, _, _, _⟩, ⟨_, _, _, _⟩⟩); (case hf => rfl); (case hc => (cbv <;> trivial)); (case hle => (repeat' (first | exact u_nil | apply u_cons | apply u2_agg | exact u2_int | exact u1_int | exact u2_bool | exact u1_bool | exact u2_sli | exact u1_sli | exact u2_s0 | exact u1_s0))); all_goals (first | (intro t ht; cbv) | (assumption)))
    | (apply E_callX hE (c_ivWithin ⟨_, ⟨_, _, _, _⟩, ⟨_, _, _, _⟩⟩ ⟨_, ⟨_, _, _, _⟩, ⟨_, _, _, _⟩⟩); (case hf => rfl); (case hc => (cbv <;> trivial)); (case hle => (repeat' (first | exact u_nil | apply u_cons | apply u2_agg | exact u2_int | exact u1_int | exact u2_bool | exact u1_bool | exact u2_sli | exact u1_sli | exact u2_s0 | exact u1_s0))); all_goals (first | (intro t ht; cbv) | (assumption)))
    | (apply E_callX hE (k_opAdd2 ⟨_, ⟨_, _, _, _⟩, ⟨_, _, _, _⟩⟩ ?_ ⟨_, ⟨_, _, _, _⟩, ⟨_, _, _, _⟩⟩ ?_); (case hf => rfl); (case hc => (cbv <;> trivial)); (case hle => exact ⟨slcG2, trivial⟩); all_goals (first | (rintro t ⟨ht, ho⟩; cbv) | (assumption)))
    | (apply E_callX hE (k_opMul ⟨_, ⟨_, _, _, _⟩, ⟨_, _, _, _⟩⟩ ?_ ⟨_, ⟨_, _, _, _⟩, ⟨_, _, _, _⟩⟩ ?_); (case hf => rfl); (case hc => (cbv <;> trivial)); (case hle => (repeat' (first | exact u_nil | apply u_cons | apply u2_agg | exact u2_int | exact u1_int | exact u2_bool | exact u1_bool | exact u2_sli | exact u1_sli | exact u2_s0 | exact u1_s0))); all_goals (first | (rintro t ⟨ht, ho⟩; cbv) | (assumption)))
    | (apply E_callX hE (k_opSub ⟨_, ⟨_, _, _, _⟩, ⟨_, _, _, _⟩⟩ ?_ ⟨_, ⟨_, _, _, _⟩, ⟨_, _, _, _⟩⟩ ?_); (case hf => rfl); (case hc => (cbv <;> trivial)); (case hle => (repeat' (first | exact u_nil | apply u_cons | apply u2_agg | exact u2_int | exact u1_int | exact u2_bool | exact u1_bool | exact u2_sli | exact u1_sli | exact u2_s0 | exact u1_s0))); all_goals (first | (rintro t ⟨ht, ho⟩; cbv) | (assumption)))
    | (apply E_callX hE (k_opDiv ⟨_, ⟨_, _, _, _⟩, ⟨_, _, _, _⟩⟩ ?_ ⟨_, ⟨_, _, _, _⟩, ⟨_, _, _, _⟩⟩ ?_); (case hf => rfl); (case hc => (cbv <;> trivial)); (case hle => (repeat' (first | exact u_nil | apply u_cons | apply u2_agg | exact u2_int | exact u1_int | exact u2_bool | exact u1_bool | exact u2_sli | exact u1_sli | exact u2_s0 | exact u1_s0))); all_goals (first | (rintro t ⟨ht, ho⟩; cbv) | (assumption)))
    | (apply E_callX hE (k_opNeg ⟨_, ⟨_, _, _, _⟩, ⟨_, _, _, _⟩⟩ ?_); (case hf => rfl); (case hc => (cbv <;> trivial)); (case hle => (repeat' (first | exact u_nil | apply u_cons | apply u2_agg | exact u2_int | exact u1_int | exact u2_bool | exact u1_bool | exact u2_sli | exact u1_sli | exact u2_s0 | exact u1_s0))); all_goals (first | (rintro t ⟨ht, ho⟩; cbv) | (assumption)))
    | (apply E_callX hE (k_opSqr ⟨_, ⟨_, _, _, _⟩, ⟨_, _, _, _⟩⟩ ?_); (case hf => rfl); (case hc => (cbv <;> trivial)); (case hle => (repeat' (first | exact u_nil | apply u_cons | apply u2_agg | exact u2_int | exact u1_int | exact u2_bool | exact u1_bool | exact u2_sli | exact u1_sli | exact u2_s0 | exact u1_s0))); all_goals (first | (rintro t ⟨ht, ho⟩; cbv) | (assumption)))
    | (apply E_callX hE (k_opAbs ⟨_, ⟨_, _, _, _⟩, ⟨_, _, _, _⟩⟩ ?_); (case hf => rfl); (case hc => (cbv <;> trivial)); (case hle => (repeat' (first | exact u_nil | apply u_cons | apply u2_agg | exact u2_int | exact u1_int | exact u2_bool | exact u1_bool | exact u2_sli | exact u1_sli | exact u2_s0 | exact u1_s0))); all_goals (first | (rintro t ⟨ht, ho⟩; cbv) | (assumption)))
    | (apply E_callX hE (k_opRoot ⟨_, ⟨_, _, _, _⟩, ⟨_, _, _, _⟩⟩ ?_); (case hf => rfl); (case hc => (cbv <;> trivial)); (case hle => (repeat' (first | exact u_nil | apply u_cons | apply u2_agg | exact u2_int | exact u1_int | exact u2_bool | exact u1_bool | exact u2_sli | exact u1_sli | exact u2_s0 | exact u1_s0))); all_goals (first | (rintro t ⟨ht, ho⟩; cbv) | (assumption)))
    | (apply E_pcallX hE (c_ivMay ⟨_, ⟨_, _, _, _⟩, ⟨_, _, _, _⟩⟩); (case hm => rfl); (case hle => (repeat' (first | exact u_nil | apply u_cons | apply u2_agg | exact u2_int | exact u1_int | exact u2_bool | exact u1_bool | exact u2_sli | exact u1_sli | exact u2_s0 | exact u1_s0))); all_goals (first | (intro t ht; cbv) | (assumption)))
    | (apply E_pcallX hE (c_ivWithin ⟨_, ⟨_, _, _, _⟩, ⟨_, _, _, _⟩⟩ ⟨_, ⟨_, _, _, _⟩, ⟨_, _, _, _⟩⟩); (case hm => rfl); (case hle => (repeat' (first | exact u_nil | apply u_cons | apply u2_agg | exact u2_int | exact u1_int | exact u2_bool | exact u1_bool | exact u2_sli | exact u1_sli | exact u2_s0 | exact u1_s0))); all_goals (first | (intro t ht; cbv) | (assumption)))
    | (apply E_pcallX hE (k_opAdd2 ⟨_, ⟨_, _, _, _⟩, ⟨_, _, _, _⟩⟩ ?_ ⟨_, ⟨_, _, _, _⟩, ⟨_, _, _, _⟩⟩ ?_); (case hm => rfl); (case hle => exact ⟨slcG2, trivial⟩); all_goals (first | (rintro t ⟨ht, ho⟩; cbv) | (assumption)))
    | (apply E_pcallX hE (k_opMul ⟨_, ⟨_, _, _, _⟩, ⟨_, _, _, _⟩⟩ ?_ ⟨_, ⟨_, _, _, _⟩, ⟨_, _, _, _⟩⟩ ?_); (case hm => rfl); (case hle => (repeat' (first | exact u_nil | apply u_cons | apply u2_agg | exact u2_int | exact u1_int | exact u2_bool | exact u1_bool | exact u2_sli | exact u1_sli | exact u2_s0 | exact u1_s0))); all_goals (first | (rintro t ⟨ht, ho⟩; cbv) | (assumption)))
    | (apply E_pcallX hE (k_opSub ⟨_, ⟨_, _, _, _⟩, ⟨_, _, _, _⟩⟩ ?_ ⟨_, ⟨_, _, _, _⟩, ⟨_, _, _, _⟩⟩ ?_); (case hm => rfl); (case hle => (repeat' (first | exact u_nil | apply u_cons | apply u2_agg | exact u2_int | exact u1_int | exact u2_bool | exact u1_bool | exact u2_sli | exact u1_sli | exact u2_s0 | exact u1_s0))); all_goals (first | (rintro t ⟨ht, ho⟩; cbv) | (assumption)))
    | (apply E_pcallX hE (k_opDiv ⟨_, ⟨_, _, _, _⟩, ⟨_, _, _, _⟩⟩ ?_ ⟨_, ⟨_, _, _, _⟩, ⟨_, _, _, _⟩⟩ ?_); (case hm => rfl); (case hle => (repeat' (first | exact u_nil | apply u_cons | apply u2_agg | exact u2_int | exact u1_int | exact u2_bool | exact u1_bool | exact u2_sli | exact u1_sli | exact u2_s0 | exact u1_s0))); all_goals (first | (rintro t ⟨ht, ho⟩; cbv) | (assumption)))
    | (apply E_pcallX hE (k_opNeg ⟨_, ⟨_, _, _, _⟩, ⟨_, _, _, _⟩⟩ ?_); (case hm => rfl); (case hle => (repeat' (first | exact u_nil | apply u_cons | apply u2_agg | exact u2_int | exact u1_int | exact u2_bool | exact u1_bool | exact u2_sli | exact u1_sli | exact u2_s0 | exact u1_s0))); all_goals (first | (rintro t ⟨ht, ho⟩; cbv) | (assumption)))
    | (apply E_pcallX hE (k_opSqr ⟨_, ⟨_, _, _, _⟩, ⟨_, _, _, _⟩⟩ ?_); (case hm => rfl); (case hle => (repeat' (first | exact u_nil | apply u_cons | apply u2_agg | exact u2_int | exact u1_int | exact u2_bool | exact u1_bool | exact u2_sli | exact u1_sli | exact u2_s0 | exact u1_s0))); all_goals (first | (rintro t ⟨ht, ho⟩; cbv) | (assumption)))
    | (apply E_pcallX hE (k_opAbs ⟨_, ⟨_, _, _, _⟩, ⟨_, _, _, _⟩⟩ ?_); (case hm => rfl); (case hle => (repeat' (first | exact u_nil | apply u_cons | apply u2_agg | exact u2_int | exact u1_int | exact u2_bool | exact u1_bool | exact u2_sli | exact u1_sli | exact u2_s0 | exact u1_s0))); all_goals (first | (rintro t ⟨ht, ho⟩; cbv) | (assumption)))
    | (apply E_pcallX hE (k_opRoot ⟨_, ⟨_, _, _, _⟩, ⟨_, _, _, _⟩⟩ ?_); (case hm => rfl); (case hle => (repeat' (first | exact u_nil | apply u_cons | apply u2_agg | exact u2_int | exact u1_int | exact u2_bool | exact u1_bool | exact u2_sli | exact u1_sli | exact u2_s0 | exact u1_s0))); all_goals (first | (rintro t ⟨ht, ho⟩; cbv) | (assumption)))
    | fail)
  all_goals subst hE
  all_goals (try rfl)
  all_goals simp only [NatCast.natCast, Int.ofNat_eq_natCast, realE, cmp_eql, cmp_neq, cmp_lss, cmp_leq, cmp_gtr, cmp_geq, intBinR, SI.val, SB.val, Num.eta, Iv.eta] at *
  all_goals subst_vars
  all_goals (try rfl)
  all_goals (try (have RL := L (by simpa using ‹(!a.may) = false›) (by simpa using ‹(!b.may) = false›)
                  first
                    | exact RL.abs
                    | exact absurd (RL.sqr.symm.trans ‹Iv.within _ _ = false›) (by decide)
                    | exact absurd ((iv_chain RL.add).symm.trans h) (by decide)
                    | exact absurd ((iv_chain RL.mul).symm.trans h) (by decide)
                    | exact absurd ((iv_chain RL.neg).symm.trans h) (by decide)
                    | exact absurd ((iv_chain RL.sub).symm.trans h) (by decide)
                    | exact absurd (ht.trans RL.sqr) (by decide)))

structure Iv.WithinOK (a b c d : Iv) : Prop where
  add : (Iv.add [a, b]).within (Iv.add [c, d]) = true
  sub : (Iv.sub a b).within (Iv.sub c d) = true
  mul : (Iv.mul a b).within (Iv.mul c d) = true
  div : (Iv.div a b).within (Iv.div c d) = true
  sqr : (Iv.sqr a).within (Iv.sqr c) = true
  root : (Iv.root a).within (Iv.root c) = true
  abs : (Iv.abs a).within (Iv.abs c) = true
set_option maxRecDepth 10000 in
set_option maxHeartbeats 8000000 in
theorem c_Within (a b c d : Iv) (ha : a.lo.ok ∧ a.hi.ok) (hb : b.lo.ok ∧ b.hi.ok) (hc : c.lo.ok ∧ c.hi.ok) (hd : d.lo.ok ∧ d.hi.ok) (L : a.within c = true → b.within d = true → Iv.WithinOK a b c d) :
    ∃ t, t = true ∧ CallsA Try.prog 13 [a.av, b.av, c.av, d.av] (.bool (.s t)) := by
  refine ⟨_, rfl, ?_⟩
  generalize hr : true = r
  refine callsA_of hG hm Try.func13 (by kernel_rfl) ?_
  intro E hE lp hl
  cbv
  (apply E_callX hE (c_awake); (case hf => rfl); (case hc => (cbv <;> trivial)); (case hle => (repeat' (first | exact u_nil | apply u_cons | apply u2_agg | exact u2_int | exact u1_int | exact u2_bool | exact u1_bool | exact u2_sli | exact u1_sli | exact u2_s0 | exact u1_s0))); all_goals (first | (intro t ht; cbv) | (assumption)))
  repeat' (first
    | (apply E_br_t hE; assumption; cbv)
    | (apply E_br_f hE; assumption; cbv)
    | (refine E_br hE (fun h => ?_) (fun h => ?_) <;> cbv)
    | (refine E_nm hE (fun v hv => ?_); cbv)
    | (apply E_callX hE (c_ivMay ⟨_, ⟨_, _, _, _⟩, ⟨_, _, _, _⟩⟩); (case hf => rfl); (case hc => (cbv <;> trivial)); (case hle => (repeat' (first | exact u_nil | apply u_cons | apply u2_agg | exact u2_int | exact u1_int | exact u2_bool | exact u1_bool | exact u2_sli | exact u1_sli | exact u2_s0 | exact u1_s0))); all_goals (first | (intro t ht; cbv) | (assumption)))
    | (apply E_callX hE (c_ivWithin ⟨_, ⟨_, _, _, _⟩, ⟨_, _, _, _⟩⟩ ⟨_, ⟨_, _, _, _⟩, ⟨_, _, _, _⟩⟩); (case hf => rfl); (case hc => (cbv <;> trivial)); (case hle => (repeat' (first | exact u_nil | apply u_cons | apply u2_agg | exact u2_int | exact u1_int | exact u2_bool | exact u1_bool | exact u2_sli | exact u1_sli | exact u2_s0 | exact u1_s0))); all_goals (first | (intro t ht; cbv) | (assumption)))
    | (apply E_callX hE (k_opAdd2 ⟨_, ⟨_, _, _, _⟩, ⟨_, _, _, _⟩⟩ ?_ ⟨_, ⟨_, _, _, _⟩, ⟨_, _, _, _⟩⟩ ?_); (case hf => rfl); (case hc => (cbv <;> trivial)); (case hle => exact ⟨slcG2, trivial⟩); all_goals (first | (rintro t ⟨ht, ho⟩; cbv) | (assumption)))
    | (apply E_callX hE (k_opMul ⟨_, ⟨_, _, _, _⟩, ⟨_, _, _, _⟩⟩ ?_ ⟨_, ⟨_, _, _, _⟩, ⟨_, _, _, _⟩⟩ ?_); (case hf => rfl); (case hc => (cbv <;> trivial)); (case hle => (repeat' (first | exact u_nil | apply u_cons | apply u2_agg | exact u2_int | exact u1_int | exact u2_bool | exact u1_bool | exact u2_sli | exact u1_sli | exact u2_s0 | exact u1_s0))); all_goals (first | (rintro t ⟨ht, ho⟩; cbv) | (assumption)))
    | (apply E_callX hE (k_opSub ⟨_, ⟨_, _, _, _⟩, ⟨_, _, _, _⟩⟩ ?_ ⟨_, ⟨_, _, _, _⟩, ⟨_, _, _, _⟩⟩ ?_); (case hf => rfl); (case hc => (cbv <;> trivial)); (case hle => (repeat' (first | exact u_nil | apply u_cons | apply u2_agg | exact u2_int | exact u1_int | exact u2_bool | exact u1_bool | exact u2_sli | exact u1_sli | exact u2_s0 | exact u1_s0))); all_goals (first | (rintro t ⟨ht, ho⟩; cbv) | (assumption)))
    | (apply E_callX hE (k_opDiv ⟨_, ⟨_, _, _, _⟩, ⟨_, _, _, _⟩⟩ ?_ ⟨_, ⟨_, _, _, _⟩, ⟨_, _, _, _⟩⟩ ?_); (case hf => rfl); (case hc => (cbv <;> trivial)); (case hle => (repeat' (first | exact u_nil | apply u_cons | apply u2_agg | exact u2_int | exact u1_int | exact u2_bool | exact u1_bool | exact u2_sli | exact u1_sli | exact u2_s0 | exact u1_s0))); all_goals (first | (rintro t ⟨ht, ho⟩; cbv) | (assumption)))
    | (apply E_callX hE (k_opNeg ⟨_, ⟨_, _, _, _⟩, ⟨_, _, _, _⟩⟩ ?_); (case hf => rfl); (case hc => (cbv <;> trivial)); (case hle => (repeat' (first | exact u_nil | apply u_cons | apply u2_agg | exact u2_int | exact u1_int | exact u2_bool | exact u1_bool | exact u2_sli | exact u1_sli | exact u2_s0 | exact u1_s0))); all_goals (first | (rintro t ⟨ht, ho⟩; cbv) | (assumption)))
    | (apply E_callX hE (k_opSqr ⟨_, ⟨_, _, _, _⟩, ⟨_, _, _, _⟩⟩ ?_); (case hf => rfl); (case hc => (cbv <;> trivial)); (case hle => (repeat' (first | exact u_nil | apply u_cons | apply u2_agg | exact u2_int | exact u1_int | exact u2_bool | exact u1_bool | exact u2_sli | exact u1_sli | exact u2_s0 | exact u1_s0))); all_goals (first | (rintro t ⟨ht, ho⟩; cbv) | (assumption)))
    | (apply E_callX hE (k_opAbs ⟨_, ⟨_, _, _, _⟩, ⟨_, _, _, _⟩⟩ ?_); (case hf => rfl); (case hc => (cbv <;> trivial)); (case hle => (repeat' (first | exact u_nil | apply u_cons | apply u2_agg | exact u2_int | exact u1_int | exact u2_bool | exact u1_bool | exact u2_sli | exact u1_sli | exact u2_s0 | exact u1_s0))); all_goals (first | (rintro t ⟨ht, ho⟩; cbv) | (assumption)))
    | (apply E_callX hE (k_opRoot ⟨_, ⟨_, _, _, _⟩, ⟨_, _, _, _⟩⟩ ?_); (case hf => rfl); (case hc => (cbv <;> trivial)); (case hle => (repeat' (first | exact u_nil | apply u_cons | apply u2_agg | exact u2_int | exact u1_int | exact u2_bool | exact u1_bool | exact u2_sli | exact u1_sli | exact u2_s0 | exact u1_s0))); all_goals (first | (rintro t ⟨ht, ho⟩; cbv) | (assumption)))
    | (apply E_pcallX hE (c_ivMay ⟨_, ⟨_, _, _, _⟩, ⟨_, _, _, _⟩⟩); (case hm => rfl); (case hle => (repeat' (first | exact u_nil | apply u_cons | apply u2_agg | exact u2_int | exact u1_int | exact u2_bool | exact u1_bool | exact u2_sli | exact u1_sli | exact u2_s0 | exact u1_s0))); all_goals (first | (intro t ht; cbv) | (assumption)))
    | (apply E_pcallX hE (c_ivWithin ⟨_, ⟨_, _, _, _⟩, ⟨_, _, _, _⟩⟩ ⟨_, ⟨_, _, _, _⟩, ⟨_, _, _, _⟩⟩); (case hm => rfl); (case hle => (repeat' (first | exact u_nil | apply u_cons | apply u2_agg | exact u2_int | exact u1_int | exact u2_bool | exact u1_bool | exact u2_sli | exact u1_sli | exact u2_s0 | exact u1_s0))); all_goals (first | (intro t ht; cbv) | (assumption)))
    | (apply E_pcallX hE (k_opAdd2 ⟨_, ⟨_, _, _, _⟩, ⟨_, _, _, _⟩⟩ ?_ ⟨_, ⟨_, _, _, _⟩, ⟨_, _, _, _⟩⟩ ?_); (case hm => rfl); (case hle => exact ⟨slcG2, trivial⟩); all_goals (first | (rintro t ⟨ht, ho⟩; cbv) | (assumption)))
    | (apply E_pcallX hE (k_opMul ⟨_, ⟨_, _, _, _⟩, ⟨_, _, _, _⟩⟩ ?_ ⟨_, ⟨_, _, _, _⟩, ⟨_, _, _, _⟩⟩ ?_); (case hm => rfl); (case hle => (repeat' (first | exact u_nil | apply u_cons | apply u2_agg | exact u2_int | exact u1_int | exact u2_bool | exact u1_bool | exact u2_sli | exact u1_sli | exact u2_s0 | exact u1_s0))); all_goals (first | (rintro t ⟨ht, ho⟩; cbv) | (assumption)))
    | (apply E_pcallX hE (k_opSub ⟨_, ⟨_, _, _, _⟩, ⟨_, _, _, _⟩⟩ ?_ ⟨_, ⟨_, _, _, _⟩, ⟨_, _, _, _⟩⟩ ?_); (case hm => rfl); (case hle => (repeat' (first | exact u_nil | apply u_cons | apply u2_agg | exact u2_int | exact u1_int | exact u2_bool | exact u1_bool | exact u2_sli | exact u1_sli | exact u2_s0 | exact u1_s0))); all_goals (first | (rintro t ⟨ht, ho⟩; cbv) | (assumption)))
    | (apply E_pcallX hE (k_opDiv ⟨_, ⟨_, _, _, _⟩, ⟨_, _, _, _⟩⟩ ?_ ⟨_, ⟨_, _, _, _⟩, ⟨_, _, _, _⟩⟩ ?_); (case hm => rfl); (case hle => (repeat' (first | exact u_nil | apply u_cons | apply u2_agg | exact u2_int | exact u1_int | exact u2_bool | exact u1_bool | exact u2_sli | exact u1_sli | exact u2_s0 | exact u1_s0))); all_goals (first | (rintro t ⟨ht, ho⟩; cbv) | (assumption)))
    | (apply E_pcallX hE (k_opNeg ⟨_, ⟨_, _, _, _⟩, ⟨_, _, _, _⟩⟩ ?_); (case hm => rfl); (case hle => (repeat' (first | exact u_nil | apply u_cons | apply u2_agg | exact u2_int | exact u1_int | exact u2_bool | exact u1_bool | exact u2_sli | exact u1_sli | exact u2_s0 | exact u1_s0))); all_goals (first | (rintro t ⟨ht, ho⟩; cbv) | (assumption)))
    | (apply E_pcallX hE (k_opSqr ⟨_, ⟨_, _, _, _⟩, ⟨_, _, _, _⟩⟩ ?_); (case hm => rfl); (case hle => (repeat' (first | exact u_nil | apply u_cons | apply u2_agg | exact u2_int | exact u1_int | exact u2_bool | exact u1_bool | exact u2_sli | exact u1_sli | exact u2_s0 | exact u1_s0))); all_goals (first | (rintro t ⟨ht, ho⟩; cbv) | (assumption)))
    | (apply E_pcallX hE (k_opAbs ⟨_, ⟨_, _, _, _⟩, ⟨_, _, _, _⟩⟩ ?_); (case hm => rfl); (case hle => (repeat' (first | exact u_nil | apply u_cons | apply u2_agg | exact u2_int | exact u1_int | exact u2_bool | exact u1_bool | exact u2_sli | exact u1_sli | exact u2_s0 | exact u1_s0))); all_goals (first | (rintro t ⟨ht, ho⟩; cbv) | (assumption)))
    | (apply E_pcallX hE (k_opRoot ⟨_, ⟨_, _, _, _⟩, ⟨_, _, _, _⟩⟩ ?_); (case hm => rfl); (case hle => (repeat' (first | exact u_nil | apply u_cons | apply u2_agg | exact u2_int | exact u1_int | exact u2_bool | exact u1_bool | exact u2_sli | exact u1_sli | exact u2_s0 | exact u1_s0))); all_goals (first | (rintro t ⟨ht, ho⟩; cbv) | (assumption)))
    | fail)
  all_goals subst hE
  all_goals (try rfl)
  all_goals simp only [NatCast.natCast, Int.ofNat_eq_natCast, realE, cmp_eql, cmp_neq, cmp_lss, cmp_leq, cmp_gtr, cmp_geq, intBinR, SI.val, SB.val, Num.eta, Iv.eta] at *
  all_goals subst_vars
  all_goals (try rfl)
  all_goals (have RL := L (by first | assumption | simpa using ‹(!a.within c) = false›) (by first | assumption | simpa using ‹(!b.within d) = false›))
  all_goals (first
    | exact RL.abs
    | exact absurd (Eq.trans (by assumption) RL.add : false = true) (by decide)
    | exact absurd (Eq.trans (by assumption) RL.sub : false = true) (by decide)
    | exact absurd (Eq.trans (by assumption) RL.mul : false = true) (by decide)
    | exact absurd (Eq.trans (by assumption) RL.div : false = true) (by decide)
    | exact absurd (Eq.trans (by assumption) RL.sqr : false = true) (by decide)
    | exact absurd (Eq.trans (by assumption) RL.root : false = true) (by decide)
    | exact absurd (Eq.trans (by assumption) RL.abs : false = true) (by decide))

end Go.Proofs.Ytincnfjihffllaa.Ev

/- Sums and products grow with their operands: plain Lean. -/
namespace Go.Proofs.Ytincnfjihffllaa.Ev
open Go

theorem Num.add_may {a b : Num} (oa : a.ok) (ob : b.ok) (up : Bool) : (Num.add a b up).may = true := by
  by_cases ka : a.fair.kind = 2
  · rw [Num.add_inf up ka]; split
    · exact Num.inf_may _
    · exact a.fair_may
  · by_cases kb : b.fair.kind = 2
    · rw [Num.add_inf2 oa ob up kb]; split
      · exact Num.inf_may _
      · exact b.fair_may
    · exact (add_best oa ob ka kb up).may
/-- a number is finite, or one of the two others -/
theorem Num.three {a : Num} (oa : a.ok) : (a.fair.kind ≠ 2 ∧ -pw 1048640 < a.fair.val ∧ a.fair.val < pw 1048640) ∨ (a.fair = Num.inf false) ∨ (a.fair = Num.inf true) := by
  by_cases k : a.fair.kind = 2
  · have e := Num.fair_inf oa k
    cases h : a.fair.neg with
    | false => rw [h] at e; exact .inr (.inl e)
    | true => rw [h] at e; exact .inr (.inr e)
  · exact .inl ⟨k, (Num.fin_val a.fair_may (Num.fair_ok oa)).1 k⟩
theorem Num.val_cases (b : Bool) : (Num.inf b).val = if b then -pw 1048640 else pw 1048640 := Num.val_inf b
theorem Num.add_mono {x y z : Num} (ox : x.ok) (oy : y.ok) (oz : z.ok) (h : y.fair.val ≤ z.fair.val) (up : Bool) : (Num.add x y up).val ≤ (Num.add x z up).val := by
  have p := pw_pos 1048640
  have bz := (Num.val_le (Num.add_may ox oz up) (Num.add_ok ox oz up)).1
  have by_ := (Num.val_le (Num.add_may ox oy up) (Num.add_ok ox oy up)).2
  have vt : (Num.inf false).val = pw 1048640 := rfl
  have vb : (Num.inf true).val = -pw 1048640 := rfl
  have kf : (Num.inf false).kind = 2 := rfl
  have kt : (Num.inf true).kind = 2 := rfl
  have nf : (Num.inf false).neg = false := rfl
  have nt : (Num.inf true).neg = true := rfl
  by_cases kx : x.fair.kind = 2
  · have h0 : ∀ b, x.fair = Num.inf b → (Num.add x y up).val ≤ (Num.add x z up).val := by
      intro b ex
      have fy : (Num.add x y up) = if y.fair.kind = 2 ∧ b ≠ y.fair.neg then Num.inf (!up) else Num.inf b := by rw [Num.add_inf up kx, ex]; rfl
      have fz : (Num.add x z up) = if z.fair.kind = 2 ∧ b ≠ z.fair.neg then Num.inf (!up) else Num.inf b := by rw [Num.add_inf up kx, ex]; rfl
      clear by_ bz ex kx
      rw [fy, fz]
      clear fy fz
      rcases Num.three oy with ⟨k1, l1, u1⟩ | e1 | e1
      · rw [if_neg (fun k => k1 k.1)]
        rcases Num.three oz with ⟨k2, l2, u2⟩ | e2 | e2
        · rw [if_neg (fun k => k2 k.1)]; omega
        · rw [e2, kf, nf]; cases b <;> cases up <;> simp [vt, vb] <;> omega
        · exfalso; rw [e2, vb] at h; omega
      · rcases Num.three oz with ⟨k2, l2, u2⟩ | e2 | e2
        · exfalso; rw [e1, vt] at h; omega
        · rw [e1, e2]; omega
        · exfalso; rw [e1, e2, vt, vb] at h; omega
      · rw [e1, kt, nt]
        rcases Num.three oz with ⟨k2, l2, u2⟩ | e2 | e2
        · rw [if_neg (c := z.fair.kind = 2 ∧ _) (fun k => k2 k.1)]; cases b <;> cases up <;> simp [vt, vb] <;> omega
        · rw [e2, kf, nf]; cases b <;> cases up <;> simp [vt, vb] <;> omega
        · rw [e2, kt, nt]; omega
    exact h0 _ (Num.fair_inf ox kx)
  · rcases Num.three oy with ⟨k1, l1, u1⟩ | e1 | e1
    · rcases Num.three oz with ⟨k2, l2, u2⟩ | e2 | e2
      · exact (add_best ox oy kx k1 up).mono (add_best ox oz kx k2 up) (by decide) (by decide) (by omega)
      · have e : Num.add x z up = Num.inf false := by rw [Num.add_inf2 ox oz up (by rw [e2]; rfl), if_neg (fun k => kx k.1), e2]
        rw [e, vt]; exact by_
      · exfalso; rw [e2, vb] at h; omega
    · have ez : z.fair = Num.inf false := by
        rcases Num.three oz with ⟨k2, l2, u2⟩ | e2 | e2
        · exfalso; rw [e1, vt] at h; omega
        · exact e2
        · exfalso; rw [e1, e2, vt, vb] at h; omega
      have e : Num.add x z up = Num.inf false := by rw [Num.add_inf2 ox oz up (by rw [ez]; rfl), if_neg (fun k => kx k.1), ez]
      rw [e, vt]; exact by_
    · have e : Num.add x y up = Num.inf true := by rw [Num.add_inf2 ox oy up (by rw [e1]; rfl), if_neg (fun k => kx k.1), e1]
      rw [e, vb]; exact bz
end Go.Proofs.Ytincnfjihffllaa.Ev

/- Products grow with their operands: plain Lean. -/
namespace Go.Proofs.Ytincnfjihffllaa.Ev
open Go

theorem Num.mul_opp_l {a b : Num} (oa : a.ok) (ob : b.ok) (up : Bool) : Num.mul a.opp b (!up) = (Num.mul a b up).opp := by
  by_cases h : a.fair.kind = 2 ∨ b.fair.kind = 2
  · rw [Num.mul_inf up h, Num.mul_inf (!up) (by rw [Num.opp_fair, Num.opp_kind]; exact h), Num.opp_fair, Num.opp_kind]
    by_cases h0 : a.fair.kind = 0 ∨ b.fair.kind = 0
    · rw [if_pos h0, if_pos h0]; decide
    · rw [if_neg h0, if_neg h0, Num.opp_neg (fun e => h0 (.inl e)), Num.opp_inf]
      congr 1
      cases a.fair.neg <;> cases b.fair.neg <;> rfl
  · have ka : a.fair.kind ≠ 2 := fun e => h (.inl e)
    have kb : b.fair.kind ≠ 2 := fun e => h (.inr e)
    refine (mul_best (Num.opp_ok oa) ob (by rw [Num.opp_fair, Num.opp_kind]; exact ka) kb (!up)).uniq (mul_best oa ob ka kb up).opp (pw_pos 0) (pw_pos 0) ?_
    rw [Num.opp_fair, Num.opp_val, Int.neg_mul]

theorem Num.mul_zero_l {a b : Num} (up : Bool) (h : a.fair.kind = 0) : Num.mul a b up = Num.zero := by unfold Num.mul; rw [if_pos (.inl h)]
theorem Num.pos_kind {a : Num} (oa : a.ok) (h : 0 < a.fair.val) : a.fair.kind ≠ 0 ∧ a.fair.neg = false := by
  rcases Num.nn_cases a.fair_may (Num.fair_ok oa) (by omega) with e | ⟨e, n⟩ | e
  · rw [e, Num.val_zero] at h; omega
  · exact ⟨by rw [e.kind]; decide, n⟩
  · rw [e]; exact ⟨by decide, rfl⟩
/-- A product with one above nought grows with the other. -/
theorem Num.mul_mono_pos {x y z : Num} (ox : x.ok) (oy : y.ok) (oz : z.ok) (hx : 0 < x.fair.val) (h : y.fair.val ≤ z.fair.val) (up : Bool) : (Num.mul x y up).val ≤ (Num.mul x z up).val := by
  have p := pw_pos 1048640
  have bz := (Num.val_le (Num.mul_may ox oz up) (Num.mul_ok ox oz up)).1
  have by_ := (Num.val_le (Num.mul_may ox oy up) (Num.mul_ok ox oy up)).2
  have vt : (Num.inf false).val = pw 1048640 := rfl
  have vb : (Num.inf true).val = -pw 1048640 := rfl
  obtain ⟨k0, nx⟩ := Num.pos_kind ox hx
  have it : ∀ w : Num, w.fair = Num.inf false → Num.mul x w up = Num.inf false := by
    intro w e; rw [Num.mul_inf up (.inr (by rw [e]; rfl)), e, nx, if_neg (by rintro (k | k); exact k0 k; exact absurd k (by decide))]; rfl
  have ib : ∀ w : Num, w.fair = Num.inf true → Num.mul x w up = Num.inf true := by
    intro w e; rw [Num.mul_inf up (.inr (by rw [e]; rfl)), e, nx, if_neg (by rintro (k | k); exact k0 k; exact absurd k (by decide))]; rfl
  rcases Num.three oy with ⟨k1, l1, u1⟩ | e1 | e1
  · rcases Num.three oz with ⟨k2, l2, u2⟩ | e2 | e2
    · by_cases kx : x.fair.kind = 2
      · have fx := Num.fair_inf ox kx
        rw [nx] at fx
        have f : ∀ w : Num, w.ok → Num.mul x w up = if w.fair.kind = 0 then Num.zero else Num.inf w.fair.neg := by
          intro w _
          rw [Num.mul_inf up (.inl kx), nx]
          by_cases kw : w.fair.kind = 0
          · rw [if_pos (.inr kw), if_pos kw]
          · rw [if_neg (by rintro (k | k); exact k0 k; exact kw k), if_neg kw]; cases w.fair.neg <;> rfl
        rw [f y oy, f z oz]
        have g : ∀ w : Num, w.ok → ((if w.fair.kind = 0 then Num.zero else Num.inf w.fair.neg).val = 0 ∧ w.fair.val = 0) ∨ ((if w.fair.kind = 0 then Num.zero else Num.inf w.fair.neg).val = pw 1048640 ∧ 0 < w.fair.val) ∨
            ((if w.fair.kind = 0 then Num.zero else Num.inf w.fair.neg).val = -pw 1048640 ∧ w.fair.val < 0) := by
          intro w ow
          rcases Num.sign_of w.fair_may (Num.fair_ok ow) with s | s | s
          · refine .inl ⟨?_, s.2.1⟩
            rw [if_pos (by rw [s.2.2.2]; rfl)]; rfl
          · refine .inr (.inl ⟨?_, by have := s.2.2.1; omega⟩)
            rw [if_neg s.2.2.2.2, s.2.2.2.1]; rfl
          · refine .inr (.inr ⟨?_, by have := s.2.2.1; omega⟩)
            rw [if_neg s.2.2.2.2, s.2.2.2.1]; rfl
        have gy := g y oy
        have gz := g z oz
        omega
      · refine (mul_best ox oy kx k1 up).mono (mul_best ox oz kx k2 up) (pw_pos 0) (pw_pos 0) ?_
        exact Int.mul_le_mul_of_nonneg_right (Int.mul_le_mul_of_nonneg_left h (by omega)) (Int.le_of_lt (pw_pos 0))
    · rw [it z e2, vt]; exact by_
    · exfalso; rw [e2, vb] at h; omega
  · have ez : z.fair = Num.inf false := by
      rcases Num.three oz with ⟨k2, l2, u2⟩ | e2 | e2
      · exfalso; rw [e1, vt] at h; omega
      · exact e2
      · exfalso; rw [e1, e2, vt, vb] at h; omega
    rw [it z ez, vt]; exact by_
  · rw [ib y e1, vb]; exact bz
theorem Num.mul_mono_neg {x y z : Num} (ox : x.ok) (oy : y.ok) (oz : z.ok) (hx : x.fair.val < 0) (h : y.fair.val ≤ z.fair.val) (up : Bool) : (Num.mul x z up).val ≤ (Num.mul x y up).val := by
  have e : ∀ w : Num, w.ok → (Num.mul x w up).val = -(Num.mul x.opp w (!up)).val := by
    intro w ow
    rw [Num.mul_opp_l ox ow, Num.opp_val, Num.may_fair (Num.mul_may ox ow up)]; omega
  rw [e y oy, e z oz]
  have := Num.mul_mono_pos (Num.opp_ok ox) oy oz (by rw [Num.opp_fair, Num.opp_val]; omega) h (!up)
  omega
end Go.Proofs.Ytincnfjihffllaa.Ev

/- Quotients grow with what is divided, and shrink with the divisor: plain Lean. -/
namespace Go.Proofs.Ytincnfjihffllaa.Ev
open Go

theorem Num.div_inf_r {a b : Num} (up : Bool) (h : b.fair.kind = 2) : Num.div a b up = Num.zero := by
  unfold Num.div
  rw [if_neg (by rw [h]; decide), if_pos (.inr h)]
theorem Num.div_inf_l {a b : Num} (up : Bool) (ha : a.fair.kind = 2) (h0 : b.fair.kind ≠ 0) (h2 : b.fair.kind ≠ 2) : Num.div a b up = Num.inf (a.fair.neg != b.fair.neg) := by
  unfold Num.div
  rw [if_neg h0, if_neg (by rintro (k | k); (rw [ha] at k; exact absurd k (by decide)); exact h2 k), if_pos ha]
theorem Num.kind1 {a : Num} (oa : a.ok) (h0 : a.fair.kind ≠ 0) (h2 : a.fair.kind ≠ 2) : a.fair.kind = 1 := (Num.fair_fin oa h0 h2).kind

theorem Num.div_opp_opp {a b : Num} (oa : a.ok) (ob : b.ok) (up : Bool) : Num.div a.opp b.opp up = Num.div a b up := by
  by_cases h0 : b.fair.kind = 0
  · unfold Num.div
    rw [Num.opp_fair, Num.opp_fair, Num.opp_kind, Num.opp_kind, if_pos h0, if_pos h0]
  · by_cases h2 : b.fair.kind = 2
    · rw [Num.div_inf_r up h2, Num.div_inf_r up (by rw [Num.opp_fair, Num.opp_kind]; exact h2)]
    · by_cases ha : a.fair.kind = 2
      · rw [Num.div_inf_l up ha h0 h2, Num.div_inf_l up (by rw [Num.opp_fair, Num.opp_kind]; exact ha) (by rw [Num.opp_fair, Num.opp_kind]; exact h0) (by rw [Num.opp_fair, Num.opp_kind]; exact h2), Num.opp_fair, Num.opp_fair,
          Num.opp_neg h0, Num.opp_neg (by rw [ha]; decide)]
        congr 1
        cases a.fair.neg <;> cases b.fair.neg <;> rfl
      · have k1 := Num.kind1 ob h0 h2
        have w : b.opp.fair.W = b.fair.W := by rw [Num.opp_fair]; rfl
        refine (div_best (Num.opp_ok oa) (Num.opp_ok ob) (by rw [Num.opp_fair, Num.opp_kind]; exact ha) (by rw [Num.opp_fair, Num.opp_kind]; exact k1) up).uniq (div_best oa ob ha k1 up)
          (by rw [w]; exact (Num.fair_fin ob h0 h2).lt.1) (Num.fair_fin ob h0 h2).lt.1 ?_
        rw [w, Num.opp_fair, Num.opp_fair, Num.opp_neg h0, Num.opp_val]
        cases b.fair.neg <;> simp [Int.neg_mul]
theorem Num.div_opp_l {a b : Num} (oa : a.ok) (ob : b.ok) (h0 : b.fair.kind ≠ 0) (up : Bool) : Num.div a.opp b (!up) = (Num.div a b up).opp := by
  by_cases h2 : b.fair.kind = 2
  · rw [Num.div_inf_r up h2, Num.div_inf_r (!up) h2]; decide
  · by_cases ha : a.fair.kind = 2
    · rw [Num.div_inf_l up ha h0 h2, Num.div_inf_l (!up) (by rw [Num.opp_fair, Num.opp_kind]; exact ha) h0 h2, Num.opp_fair, Num.opp_neg (by rw [ha]; decide), Num.opp_inf]
      congr 1
      cases a.fair.neg <;> cases b.fair.neg <;> rfl
    · have k1 := Num.kind1 ob h0 h2
      have p := (Num.fair_fin ob h0 h2).lt.1
      refine (div_best (Num.opp_ok oa) ob (by rw [Num.opp_fair, Num.opp_kind]; exact ha) k1 (!up)).uniq (div_best oa ob ha k1 up).opp p p ?_
      rw [Num.opp_fair, Num.opp_val]
      cases b.fair.neg <;> simp [Int.neg_mul]
theorem Num.div_may {a b : Num} (oa : a.ok) (ob : b.ok) (up : Bool) : (Num.div a b up).may = true := by
  by_cases h0 : b.fair.kind = 0
  · unfold Num.div; rw [if_pos h0]; exact Num.inf_may _
  · by_cases h2 : b.fair.kind = 2
    · rw [Num.div_inf_r up h2]; exact Num.zero_may
    · by_cases ha : a.fair.kind = 2
      · rw [Num.div_inf_l up ha h0 h2]; exact Num.inf_may _
      · exact (div_best oa ob ha (Num.kind1 ob h0 h2) up).may

theorem Num.div_mono {x z y : Num} (ox : x.ok) (oz : z.ok) (oy : y.ok) (hy : 0 < y.fair.val) (h : x.fair.val ≤ z.fair.val) (up : Bool) : (Num.div x y up).val ≤ (Num.div z y up).val := by
  obtain ⟨k0, ny⟩ := Num.pos_kind oy hy
  by_cases k2 : y.fair.kind = 2
  · rw [Num.div_inf_r up k2, Num.div_inf_r up k2]; exact Int.le_refl _
  · have k1 := Num.kind1 oy k0 k2
    have bz := (Num.val_le (Num.div_may oz oy up) (Num.div_ok oz oy up)).1
    have bx := (Num.val_le (Num.div_may ox oy up) (Num.div_ok ox oy up)).2
    have vt : (Num.inf false).val = pw 1048640 := rfl
    have vb : (Num.inf true).val = -pw 1048640 := rfl
    have it : ∀ w : Num, w.fair = Num.inf false → Num.div w y up = Num.inf false := by
      intro w e; rw [Num.div_inf_l up (by rw [e]; rfl) k0 k2, e, ny]; rfl
    have ib : ∀ w : Num, w.fair = Num.inf true → Num.div w y up = Num.inf true := by
      intro w e; rw [Num.div_inf_l up (by rw [e]; rfl) k0 k2, e, ny]; rfl
    rcases Num.three ox with ⟨a1, a2, a3⟩ | e1 | e1
    · rcases Num.three oz with ⟨b1, b2, b3⟩ | e2 | e2
      · have B1 := div_best ox oy a1 k1 up
        have B2 := div_best oz oy b1 k1 up
        rw [ny] at B1 B2
        have w := (Num.fair_fin oy k0 k2).lt.1
        refine B1.mono B2 w w ?_
        simp only [Bool.false_eq_true, if_false]
        exact Int.mul_le_mul_of_nonneg_right (Int.mul_le_mul_of_nonneg_right h (Int.le_of_lt (pw_pos 0))) (Int.le_of_lt w)
      · rw [it z e2, vt]; exact bx
      · exfalso; rw [e2, vb] at h; omega
    · have ez : z.fair = Num.inf false := by
        rcases Num.three oz with ⟨k2, l2, u2⟩ | e2 | e2
        · exfalso; rw [e1, vt] at h; omega
        · exact e2
        · exfalso; have p := pw_pos 1048640; rw [e1, e2, vt, vb] at h; omega
      rw [it z ez, vt]; exact bx
    · rw [ib x e1, vb]; exact bz
theorem Num.div_zero_l {y : Num} (h : y.fair.kind ≠ 0) (up : Bool) : Num.div Num.zero y up = Num.zero := by
  unfold Num.div
  rw [if_neg h, if_pos (.inl (by decide))]
theorem Num.div_anti {x y z : Num} (ox : x.ok) (oy : y.ok) (oz : z.ok) (hx : 0 ≤ x.fair.val) (hy : 0 < y.fair.val) (h : y.fair.val ≤ z.fair.val) (up : Bool) : (Num.div x z up).val ≤ (Num.div x y up).val := by
  obtain ⟨k0, ny⟩ := Num.pos_kind oy hy
  obtain ⟨j0, nz⟩ := Num.pos_kind oz (by omega)
  have vz : Num.zero.fair.val = 0 := by decide
  by_cases k2 : z.fair.kind = 2
  · rw [Num.div_inf_r up k2]
    have := Num.div_mono Num.zero_ok ox oy hy (by rw [vz]; exact hx) up
    rwa [Num.div_zero_l k0] at this
  · have j2 : y.fair.kind ≠ 2 := by
      intro k
      have e := Num.fair_inf oy k
      rw [ny] at e
      have b := ((Num.fin_val z.fair_may (Num.fair_ok oz)).1 k2).2
      rw [e, Num.val_inf] at h
      simp at h; omega
    by_cases a2 : x.fair.kind = 2
    · rw [Num.div_inf_l up a2 k0 j2, Num.div_inf_l up a2 j0 k2, ny, nz]; exact Int.le_refl _
    · have B1 := div_best ox oz a2 (Num.kind1 oz j0 k2) up
      have B2 := div_best ox oy a2 (Num.kind1 oy k0 j2) up
      rw [nz] at B1
      rw [ny] at B2
      have w1 := (Num.fair_fin oz j0 k2).lt.1
      have w2 := (Num.fair_fin oy k0 j2).lt.1
      refine B1.mono B2 w1 w2 ?_
      simp only [Bool.false_eq_true, if_false]
      refine Int.mul_le_mul_of_nonneg_left ?_ (Int.mul_nonneg hx (Int.le_of_lt (pw_pos 0)))
      have v1 : y.fair.val = y.fair.W := Num.val_nn ny
      have v2 : z.fair.val = z.fair.W := Num.val_nn nz
      omega
end Go.Proofs.Ytincnfjihffllaa.Ev

/- Sums and products of parts are parts: plain Lean. -/
namespace Go.Proofs.Ytincnfjihffllaa.Ev
open Go

/-- a is a part of c -/
structure Iv.Part (a c : Iv) : Prop where
  ra : a.Real
  rc : c.Real
  lo : c.lo.val ≤ a.lo.val
  hi : a.hi.val ≤ c.hi.val
theorem Iv.fair_empty (a : Iv) : a.fair.empty = a.bad := by
  unfold Iv.fair Iv.bad
  cases h : a.may <;> simp [Iv.none]
theorem Iv.within_part {a c : Iv} (ha : a.lo.ok ∧ a.hi.ok) (hc : c.lo.ok ∧ c.hi.ok) (h : a.within c = true) : a.bad = true ∨ Iv.Part a c := by
  cases hb : a.bad with
  | true => exact .inl rfl
  | false =>
    right
    have ra := Iv.real_of_good hb ha.1 ha.2
    unfold Iv.within at h
    rw [Iv.fair_empty, Iv.fair_empty, hb] at h
    simp only [Bool.false_or, Bool.and_eq_true, decide_eq_true_eq, Bool.not_eq_true'] at h
    obtain ⟨⟨h1, h2⟩, h3⟩ := h
    have rc := Iv.real_of_good h1 hc.1 hc.2
    rw [ra.fair, rc.fair] at h2 h3
    have e1 := (Num.cmp_le hc.1 ha.1).1 h2
    have e2 := (Num.cmp_le ha.2 hc.2).1 h3
    rw [Num.may_fair rc.lom, Num.may_fair ra.lom] at e1
    rw [Num.may_fair ra.him, Num.may_fair rc.him] at e2
    exact ⟨ra, rc, e1, e2⟩
theorem Iv.Part.lo' {a c : Iv} (P : Iv.Part a c) : c.lo.fair.val ≤ a.lo.fair.val := by rw [Num.may_fair P.rc.lom, Num.may_fair P.ra.lom]; exact P.lo
theorem Iv.Part.hi' {a c : Iv} (P : Iv.Part a c) : a.hi.fair.val ≤ c.hi.fair.val := by rw [Num.may_fair P.rc.him, Num.may_fair P.ra.him]; exact P.hi
theorem Iv.Part.within {a c : Iv} (P : Iv.Part a c) : a.within c = true := Iv.real_within P.ra P.rc P.lo P.hi

theorem Num.add_mono2 {x x' y y' : Num} (ox : x.ok) (ox' : x'.ok) (oy : y.ok) (oy' : y'.ok) (h : x.fair.val ≤ x'.fair.val) (h' : y.fair.val ≤ y'.fair.val) (up : Bool) : (Num.add x y up).val ≤ (Num.add x' y' up).val := by
  have a1 := Num.add_mono ox oy oy' h' up
  have a2 := Num.add_mono oy' ox ox' h up
  rw [Num.add_comm oy' ox, Num.add_comm oy' ox'] at a2
  omega
theorem Iv.add_within {a b c d : Iv} (P : a.bad = true ∨ Iv.Part a c) (Q : b.bad = true ∨ Iv.Part b d) : (Iv.add [a, b]).within (Iv.add [c, d]) = true := by
  rcases P with P | P
  · rw [Iv.add2_eq (a := a), P]; exact Iv.empty_within _
  · rcases Q with Q | Q
    · rw [Iv.add2_eq (b := b), Q, Bool.or_true]; exact Iv.empty_within _
    · rw [Iv.add2_eq, Iv.add2_eq, P.ra.good, Q.ra.good, P.rc.good, Q.rc.good]
      simp only [Bool.or_self, Bool.false_eq_true, if_false]
      refine Iv.make_within (Num.add_ok P.ra.loo Q.ra.loo _) (Num.add_ok P.ra.hio Q.ra.hio _) (Num.add_ok P.rc.loo Q.rc.loo _) (Num.add_ok P.rc.hio Q.rc.hio _) ?_ ?_
      · rw [Num.may_fair (Num.add_may P.ra.loo Q.ra.loo _), Num.may_fair (Num.add_may P.rc.loo Q.rc.loo _)]
        exact Num.add_mono2 P.rc.loo P.ra.loo Q.rc.loo Q.ra.loo P.lo' Q.lo' false
      · rw [Num.may_fair (Num.add_may P.ra.hio Q.ra.hio _), Num.may_fair (Num.add_may P.rc.hio Q.rc.hio _)]
        exact Num.add_mono2 P.ra.hio P.rc.hio Q.ra.hio Q.rc.hio P.hi' Q.hi' true
theorem Iv.Part.neg {a c : Iv} (P : Iv.Part a c) : Iv.Part (Iv.neg a) (Iv.neg c) := by
  rw [Iv.neg_real P.ra, Iv.neg_real P.rc]
  refine ⟨P.ra.neg, P.rc.neg, ?_, ?_⟩
  · show c.hi.opp.val ≤ a.hi.opp.val
    rw [Num.opp_val, Num.opp_val]; have := P.hi'; omega
  · show a.lo.opp.val ≤ c.lo.opp.val
    rw [Num.opp_val, Num.opp_val]; have := P.lo'; omega
theorem Iv.sub_within {a b c d : Iv} (hb : b.lo.ok ∧ b.hi.ok) (P : a.bad = true ∨ Iv.Part a c) (Q : b.bad = true ∨ Iv.Part b d) : (Iv.add [a, Iv.neg b]).within (Iv.add [c, Iv.neg d]) = true :=
  Iv.add_within P (Q.imp (fun h => by rw [Iv.neg_bad hb]; exact h) Iv.Part.neg)

theorem Num.least_le {l l' : List Num} (h : ∀ x ∈ l, x.ok) (h' : ∀ x ∈ l', x.ok) (H : ∀ x ∈ l', ∃ s ∈ l, s.fair.val ≤ x.fair.val) : (Num.least l).val ≤ (Num.least l').val := by
  have a := Num.least_spec l h
  have b := Num.least_spec l' h'
  rcases b.2.2.2 with e | ⟨x, hx, e⟩
  · rw [e, Num.val_inf]; have := (Num.val_le a.1 a.2.1).2; simpa using this
  · obtain ⟨s, hs, k⟩ := H x hx
    have := a.2.2.1 s hs
    rw [e]; omega
theorem Num.most_le {l l' : List Num} (h : ∀ x ∈ l, x.ok) (h' : ∀ x ∈ l', x.ok) (H : ∀ x ∈ l, ∃ s ∈ l', x.fair.val ≤ s.fair.val) : (Num.most l).val ≤ (Num.most l').val := by
  have a := Num.most_spec l h
  have b := Num.most_spec l' h'
  rcases a.2.2.2 with e | ⟨x, hx, e⟩
  · rw [e, Num.val_inf]; have := (Num.val_le b.1 b.2.1).1; simpa using this
  · obtain ⟨s, hs, k⟩ := H x hx
    have := b.2.2.1 s hs
    rw [e]; omega
/-- the corners of a and b -/
theorem corner_mem {F : Num → Num → Bool → Num} {a b : Iv} {up : Bool} {z : Num} : z ∈ [F a.lo b.lo up, F a.lo b.hi up, F a.hi b.lo up, F a.hi b.hi up] ↔
    ∃ u v, (u = a.lo ∨ u = a.hi) ∧ (v = b.lo ∨ v = b.hi) ∧ z = F u v up := by
  simp only [List.mem_cons, List.not_mem_nil, or_false]
  constructor
  · rintro (h | h | h | h)
    · exact ⟨_, _, .inl rfl, .inl rfl, h⟩
    · exact ⟨_, _, .inl rfl, .inr rfl, h⟩
    · exact ⟨_, _, .inr rfl, .inl rfl, h⟩
    · exact ⟨_, _, .inr rfl, .inr rfl, h⟩
  · rintro ⟨u, v, rfl | rfl, rfl | rfl, rfl⟩
    · exact .inl rfl
    · exact .inr (.inl rfl)
    · exact .inr (.inr (.inl rfl))
    · exact .inr (.inr (.inr rfl))
structure Fine (F : Num → Num → Bool → Num) : Prop where
  ok : ∀ {x y : Num}, x.ok → y.ok → ∀ up, (F x y up).ok
  may : ∀ {x y : Num}, x.ok → y.ok → ∀ up, (F x y up).may = true
theorem end_ok {a : Iv} (r : a.Real) {x : Num} (h : x = a.lo ∨ x = a.hi) : x.ok := by
  rcases h with rfl | rfl
  · exact r.loo
  · exact r.hio
theorem corner_ok {F : Num → Num → Bool → Num} (hF : Fine F) {a b : Iv} (ra : a.Real) (rb : b.Real) (up : Bool) : ∀ z ∈ [F a.lo b.lo up, F a.lo b.hi up, F a.hi b.lo up, F a.hi b.hi up], z.ok := by
  intro z hz
  obtain ⟨u, v, hu, hv, rfl⟩ := corner_mem.1 hz
  exact hF.ok (end_ok ra hu) (end_ok rb hv) up
theorem Iv.corners_within {F : Num → Num → Bool → Num} (hF : Fine F) {a b c d : Iv} (ra : a.Real) (rb : b.Real) (rc : c.Real) (rd : d.Real)
    (L : ∀ x y, (x = a.lo ∨ x = a.hi) → (y = b.lo ∨ y = b.hi) → ∃ u v, (u = c.lo ∨ u = c.hi) ∧ (v = d.lo ∨ v = d.hi) ∧ (F u v false).val ≤ (F x y false).val)
    (U : ∀ x y, (x = a.lo ∨ x = a.hi) → (y = b.lo ∨ y = b.hi) → ∃ u v, (u = c.lo ∨ u = c.hi) ∧ (v = d.lo ∨ v = d.hi) ∧ (F x y true).val ≤ (F u v true).val) :
    (Iv.corners F a b).within (Iv.corners F c d) = true := by
  have l1 := Num.least_spec _ (corner_ok hF ra rb false)
  have l2 := Num.least_spec _ (corner_ok hF rc rd false)
  have m1 := Num.most_spec _ (corner_ok hF ra rb true)
  have m2 := Num.most_spec _ (corner_ok hF rc rd true)
  unfold Iv.corners
  refine Iv.make_within l1.2.1 m1.2.1 l2.2.1 m2.2.1 ?_ ?_
  · rw [Num.may_fair l1.1, Num.may_fair l2.1]
    refine Num.least_le (corner_ok hF rc rd false) (corner_ok hF ra rb false) (fun z hz => ?_)
    obtain ⟨x, y, hx, hy, rfl⟩ := corner_mem.1 hz
    obtain ⟨u, v, hu, hv, k⟩ := L x y hx hy
    refine ⟨F u v false, corner_mem.2 ⟨u, v, hu, hv, rfl⟩, ?_⟩
    rw [Num.may_fair (hF.may (end_ok rc hu) (end_ok rd hv) _), Num.may_fair (hF.may (end_ok ra hx) (end_ok rb hy) _)]
    exact k
  · rw [Num.may_fair m1.1, Num.may_fair m2.1]
    refine Num.most_le (corner_ok hF ra rb true) (corner_ok hF rc rd true) (fun z hz => ?_)
    obtain ⟨x, y, hx, hy, rfl⟩ := corner_mem.1 hz
    obtain ⟨u, v, hu, hv, k⟩ := U x y hx hy
    refine ⟨F u v true, corner_mem.2 ⟨u, v, hu, hv, rfl⟩, ?_⟩
    rw [Num.may_fair (hF.may (end_ok rc hu) (end_ok rd hv) _), Num.may_fair (hF.may (end_ok ra hx) (end_ok rb hy) _)]
    exact k
/-- the ends of a part lie between the ends of the whole -/
theorem Iv.Part.ends {a c : Iv} (P : Iv.Part a c) {x : Num} (h : x = a.lo ∨ x = a.hi) : x.ok ∧ x.may = true ∧ c.lo.fair.val ≤ x.fair.val ∧ x.fair.val ≤ c.hi.fair.val := by
  have h1 := P.lo
  have h2 := P.hi
  have h3 := P.ra.le
  rw [Num.may_fair P.rc.lom, Num.may_fair P.rc.him]
  rcases h with rfl | rfl
  · refine ⟨P.ra.loo, P.ra.lom, ?_, ?_⟩ <;> rw [Num.may_fair P.ra.lom] <;> omega
  · refine ⟨P.ra.hio, P.ra.him, ?_, ?_⟩ <;> rw [Num.may_fair P.ra.him] <;> omega

theorem Num.zero_of_val {x : Num} (ox : x.ok) (h : x.fair.val = 0) : x.fair = Num.zero := ((Num.val_pos x.fair_may (Num.fair_ok ox)).2.2 h).2
theorem Num.mul_between {x y z1 z2 : Num} (ox : x.ok) (oy : y.ok) (o1 : z1.ok) (o2 : z2.ok) (h1 : z1.fair.val ≤ y.fair.val) (h2 : y.fair.val ≤ z2.fair.val) (up : Bool) :
    (∃ z, (z = z1 ∨ z = z2) ∧ (Num.mul x z up).val ≤ (Num.mul x y up).val) ∧ (∃ z, (z = z1 ∨ z = z2) ∧ (Num.mul x y up).val ≤ (Num.mul x z up).val) := by
  rcases Int.lt_trichotomy x.fair.val 0 with h | h | h
  · exact ⟨⟨z2, .inr rfl, Num.mul_mono_neg ox oy o2 h h2 up⟩, ⟨z1, .inl rfl, Num.mul_mono_neg ox o1 oy h h1 up⟩⟩
  · have k : x.fair.kind = 0 := by rw [Num.zero_of_val ox h]; rfl
    exact ⟨⟨z1, .inl rfl, by rw [Num.mul_zero_l up k, Num.mul_zero_l up k]; exact Int.le_refl _⟩, ⟨z1, .inl rfl, by rw [Num.mul_zero_l up k, Num.mul_zero_l up k]; exact Int.le_refl _⟩⟩
  · exact ⟨⟨z1, .inl rfl, Num.mul_mono_pos ox o1 oy h h1 up⟩, ⟨z2, .inr rfl, Num.mul_mono_pos ox oy o2 h h2 up⟩⟩
theorem mul_fine : Fine Num.mul := ⟨fun ox oy up => Num.mul_ok ox oy up, fun ox oy up => Num.mul_may ox oy up⟩
theorem either_ok {z z1 z2 : Num} (h : z = z1 ∨ z = z2) (o1 : z1.ok) (o2 : z2.ok) : z.ok := by
  rcases h with rfl | rfl
  · exact o1
  · exact o2
theorem Iv.mul_within {a b c d : Iv} (P : a.bad = true ∨ Iv.Part a c) (Q : b.bad = true ∨ Iv.Part b d) : (Iv.mul a b).within (Iv.mul c d) = true := by
  unfold Iv.mul
  rw [Iv.bad_two, Iv.bad_two]
  rcases P with P | P
  · rw [P]; exact Iv.empty_within _
  · rcases Q with Q | Q
    · rw [Q, Bool.or_true]; exact Iv.empty_within _
    · rw [P.ra.good, Q.ra.good, P.rc.good, Q.rc.good]
      simp only [Bool.or_self, Bool.false_eq_true, if_false]
      refine Iv.corners_within mul_fine P.ra Q.ra P.rc Q.rc (fun x y hx hy => ?_) (fun x y hx hy => ?_)
      · obtain ⟨ox, -, x1, x2⟩ := P.ends hx
        obtain ⟨oy, -, y1, y2⟩ := Q.ends hy
        obtain ⟨⟨v, hv, k⟩, -⟩ := Num.mul_between ox oy Q.rc.loo Q.rc.hio y1 y2 false
        have ov := either_ok hv Q.rc.loo Q.rc.hio
        obtain ⟨⟨u, hu, j⟩, -⟩ := Num.mul_between ov ox P.rc.loo P.rc.hio x1 x2 false
        rw [Num.mul_comm ov (either_ok hu P.rc.loo P.rc.hio), Num.mul_comm ov ox] at j
        exact ⟨u, v, hu, hv, by omega⟩
      · obtain ⟨ox, -, x1, x2⟩ := P.ends hx
        obtain ⟨oy, -, y1, y2⟩ := Q.ends hy
        obtain ⟨-, ⟨v, hv, k⟩⟩ := Num.mul_between ox oy Q.rc.loo Q.rc.hio y1 y2 true
        have ov := either_ok hv Q.rc.loo Q.rc.hio
        obtain ⟨-, ⟨u, hu, j⟩⟩ := Num.mul_between ov ox P.rc.loo P.rc.hio x1 x2 true
        rw [Num.mul_comm ov (either_ok hu P.rc.loo P.rc.hio), Num.mul_comm ov ox] at j
        exact ⟨u, v, hu, hv, by omega⟩
end Go.Proofs.Ytincnfjihffllaa.Ev

/- Squares and roots of parts are parts: plain Lean. -/
namespace Go.Proofs.Ytincnfjihffllaa.Ev
open Go

theorem Iv.abs_ends {a : Iv} (r : a.Real) : (Iv.abs a).Real ∧ 0 ≤ (Iv.abs a).lo.val ∧ a.lo.val ≤ (Iv.abs a).lo.val ∧ -a.hi.val ≤ (Iv.abs a).lo.val ∧
    ((Iv.abs a).lo.val = 0 ∨ (Iv.abs a).lo.val = a.lo.val ∨ (Iv.abs a).lo.val = -a.hi.val) ∧
    a.hi.val ≤ (Iv.abs a).hi.val ∧ -a.lo.val ≤ (Iv.abs a).hi.val ∧ ((Iv.abs a).hi.val = a.hi.val ∨ (Iv.abs a).hi.val = -a.lo.val) := by
  have le := r.le
  have ol : a.lo.opp.val = -a.lo.val := by rw [Num.opp_val, Num.may_fair r.lom]
  have oh : a.hi.opp.val = -a.hi.val := by rw [Num.opp_val, Num.may_fair r.him]
  rcases Iv.abs_cases r with ⟨h, e⟩ | ⟨h1, h2, e⟩ | ⟨h1, h2, e, h4, h5, h6⟩
  · rw [e]; exact ⟨r, h, by omega, by omega, by omega, by omega, by omega, by omega⟩
  · rw [e]
    refine ⟨r.neg, ?_⟩
    show 0 ≤ a.hi.opp.val ∧ a.lo.val ≤ a.hi.opp.val ∧ -a.hi.val ≤ a.hi.opp.val ∧ (a.hi.opp.val = 0 ∨ a.hi.opp.val = a.lo.val ∨ a.hi.opp.val = -a.hi.val) ∧
      a.hi.val ≤ a.lo.opp.val ∧ -a.lo.val ≤ a.lo.opp.val ∧ (a.lo.opp.val = a.hi.val ∨ a.lo.opp.val = -a.lo.val)
    rw [ol, oh]; omega
  · rw [e]
    have p := pw_pos 1048640
    have mo : (Num.most [a.hi, a.lo.opp]).may = true ∧ (Num.most [a.hi, a.lo.opp]).ok ∧ ((Num.most [a.hi, a.lo.opp]).val = a.hi.val ∨ (Num.most [a.hi, a.lo.opp]).val = -a.lo.val) := by
      rcases h4 with h4 | h4 <;> rw [h4]
      · exact ⟨r.him, r.hio, .inl rfl⟩
      · exact ⟨Num.opp_may _, Num.opp_ok r.loo, .inr ol⟩
    have z : Num.zero.val = 0 := Num.val_zero
    refine ⟨⟨rfl, Num.zero_may, mo.1, Num.zero_ok, mo.2.1, ?_, ?_, ?_⟩, ?_⟩
    · show Num.zero.val ≤ (Num.most [a.hi, a.lo.opp]).val; omega
    · show Num.zero.val < _; omega
    · show -pw 1048640 < (Num.most [a.hi, a.lo.opp]).val; omega
    · show 0 ≤ Num.zero.val ∧ a.lo.val ≤ Num.zero.val ∧ -a.hi.val ≤ Num.zero.val ∧ (Num.zero.val = 0 ∨ Num.zero.val = a.lo.val ∨ Num.zero.val = -a.hi.val) ∧
        a.hi.val ≤ (Num.most [a.hi, a.lo.opp]).val ∧ -a.lo.val ≤ (Num.most [a.hi, a.lo.opp]).val ∧ ((Num.most [a.hi, a.lo.opp]).val = a.hi.val ∨ (Num.most [a.hi, a.lo.opp]).val = -a.lo.val)
      exact ⟨by omega, by omega, by omega, .inl z, h5, h6, mo.2.2⟩
theorem Iv.Part.abs {a c : Iv} (P : Iv.Part a c) : Iv.Part (Iv.abs a) (Iv.abs c) := by
  obtain ⟨r1, a1, a2, a3, a4, a5, a6, a7⟩ := Iv.abs_ends P.ra
  obtain ⟨r2, c1, c2, c3, c4, c5, c6, c7⟩ := Iv.abs_ends P.rc
  have := P.lo
  have := P.hi
  exact ⟨r1, r2, by omega, by omega⟩
theorem Iv.abs_bad {a : Iv} (h : a.bad = true) : Iv.abs a = Iv.none := by
  unfold Iv.abs
  rw [Iv.bad_one, h]; rfl
theorem Iv.part_abs {a c : Iv} (P : a.bad = true ∨ Iv.Part a c) : (Iv.abs a).within (Iv.abs c) = true := by
  rcases P with P | P
  · rw [Iv.abs_bad P]; exact Iv.empty_within _
  · exact P.abs.within

theorem Num.sq_mono {x y : Num} (ox : x.ok) (oy : y.ok) (h0 : 0 ≤ x.fair.val) (h : x.fair.val ≤ y.fair.val) (up : Bool) : (Num.mul x x up).val ≤ (Num.mul y y up).val := by
  rcases Int.lt_or_le 0 x.fair.val with k | k
  · have a1 := Num.mul_mono_pos ox ox oy k h up
    have a2 := Num.mul_mono_pos oy ox oy (by omega) h up
    rw [Num.mul_comm oy ox] at a2
    omega
  · have zx : x.fair.kind = 0 := by rw [Num.zero_of_val ox (by omega)]; rfl
    rw [Num.mul_zero_l up zx]
    rcases Int.lt_or_le 0 y.fair.val with j | j
    · have a2 := Num.mul_mono_pos oy ox oy j h up
      rw [Num.mul_comm oy ox, Num.mul_zero_l up zx] at a2
      exact a2
    · have zy : y.fair.kind = 0 := by rw [Num.zero_of_val oy (by omega)]; rfl
      rw [Num.mul_zero_l up zy]; exact Int.le_refl _
theorem Iv.sqr_of {a : Iv} (r : a.Real) : Iv.sqr a = Iv.make (Num.mul (Iv.abs a).lo (Iv.abs a).lo false) (Num.mul (Iv.abs a).hi (Iv.abs a).hi true) := by
  unfold Iv.sqr; rw [(Iv.abs_ends r).1.some]; rfl
theorem Iv.part_sqr {a c : Iv} (P : a.bad = true ∨ Iv.Part a c) : (Iv.sqr a).within (Iv.sqr c) = true := by
  rcases P with P | P
  · have e : Iv.sqr a = Iv.none := by unfold Iv.sqr; rw [Iv.abs_bad P]; rfl
    rw [e]; exact Iv.empty_within _
  · have A := P.abs
    have n1 := (Iv.abs_ends P.ra).2.1
    have n2 := (Iv.abs_ends P.rc).2.1
    rw [Iv.sqr_of P.ra, Iv.sqr_of P.rc]
    generalize Iv.abs a = u at *
    generalize Iv.abs c = w at *
    have le := A.ra.le
    refine Iv.make_within (Num.mul_ok A.ra.loo A.ra.loo _) (Num.mul_ok A.ra.hio A.ra.hio _) (Num.mul_ok A.rc.loo A.rc.loo _) (Num.mul_ok A.rc.hio A.rc.hio _) ?_ ?_
    · rw [Num.may_fair (Num.mul_may A.ra.loo A.ra.loo _), Num.may_fair (Num.mul_may A.rc.loo A.rc.loo _)]
      exact Num.sq_mono A.rc.loo A.ra.loo (by rw [Num.may_fair A.rc.lom]; exact n2) A.lo' false
    · rw [Num.may_fair (Num.mul_may A.ra.hio A.ra.hio _), Num.may_fair (Num.mul_may A.rc.hio A.rc.hio _)]
      exact Num.sq_mono A.ra.hio A.rc.hio (by rw [Num.may_fair A.ra.him]; omega) A.hi' true

theorem Num.root_mono {x y : Num} (mx : x.may = true) (my : y.may = true) (ox : x.ok) (oy : y.ok) (h0 : 0 ≤ x.val) (h : x.val ≤ y.val) (up : Bool) : (Num.root x up).1.val ≤ (Num.root y up).1.val := by
  have ny := (Num.root_may my oy (by omega) up).2
  have p := pw_pos 1048640
  have p0 := pw_pos 0
  rcases Num.nn_cases mx ox h0 with k | ⟨k, hn⟩ | k
  · rw [k, Num.root_zero, Num.val_zero]; exact ny
  · rcases Num.nn_cases my oy (by omega) with j | ⟨j, jn⟩ | j
    · exfalso; have := k.lt; rw [Num.val_nn hn] at h; rw [j, Num.val_zero] at h; omega
    · rw [Num.root_fin k hn, Num.root_fin j jn]
      rw [Num.val_nn hn, Num.val_nn jn] at h
      have hm : x.W * pw 0 ≤ y.W * pw 0 := Int.mul_le_mul_of_nonneg_right h (Int.le_of_lt p0)
      cases up with
      | false =>
        obtain ⟨r1, r2, r3, -⟩ := rootF_dn k
        obtain ⟨s1, s2, -, s4⟩ := rootF_dn j
        rw [Num.val_nn r2, Num.val_nn s2]
        exact s4 _ r1.may r1.ok (by rw [r1.kind]; decide) (by omega)
      | true =>
        obtain ⟨r1, r2, -, r4⟩ := rootF_up k
        obtain ⟨s1, s2, s3, -⟩ := rootF_up j
        rw [Num.val_nn r2, Num.val_nn s2]
        exact r4 _ s1.may s1.ok (by omega)
    · rw [j, Num.root_inf, Num.val_inf]
      have := (Num.val_le (Num.root_may mx ox h0 up).1 (Num.root_ok ox up)).2
      simpa using this
  · have e : y = Num.inf false := Num.val_inj my (Num.inf_may _) oy (Num.inf_ok _) (by
      have := (Num.val_le my oy).2
      rw [k, Num.val_inf] at h
      rw [Num.val_inf]; simp at h ⊢; omega)
    rw [k, e]; exact Int.le_refl _
/-- what the positive ones leave -/
theorem Iv.meet_pos {x : Iv} (r : x.Real) : ∃ m : Num, m.may = true ∧ m.ok ∧ x.lo.val ≤ m.val ∧ 0 ≤ m.val ∧ (m.val = x.lo.val ∨ m.val = 0) ∧ Iv.meet [x, Iv.positive] = Iv.make m x.hi := by
  have ep : Iv.positive = ⟨false, Num.zero, Num.inf false⟩ := by decide
  have fp : Iv.positive.fair = Iv.positive := by decide
  have se := r.some
  have g : Iv.goods [x, Iv.positive] = [x, Iv.positive] := by
    simp only [Iv.goods, r.fair, fp, se]
    rw [if_neg (by decide), if_neg (by decide)]
  have ag : Iv.allGood [x, Iv.positive] = true := by
    simp only [Iv.allGood, List.all_cons, List.all_nil, r.fair, fp, se]; decide
  have m1 := Num.most_spec [x.lo, Num.zero] (by simp; exact ⟨r.loo, Num.zero_ok⟩)
  have m2 := Num.least_spec [x.hi, Num.inf false] (by simp; exact ⟨r.hio, Num.inf_ok _⟩)
  have p := pw_pos 1048640
  have eh : Num.least [x.hi, Num.inf false] = x.hi := by
    refine Num.val_inj m2.1 r.him m2.2.1 r.hio ?_
    have a1 := m2.2.2.1 x.hi (by simp)
    rw [Num.may_fair r.him] at a1
    have t := (Num.val_le r.him r.hio).2
    rcases m2.2.2.2 with e | ⟨y, hy, e⟩
    · rw [e, Num.val_inf] at a1 ⊢; simp at a1 ⊢; omega
    · simp at hy
      rcases hy with rfl | rfl
      · rw [e, Num.may_fair r.him]
      · rw [e, Num.may_fair (Num.inf_may _), Num.val_inf] at a1 ⊢; simp at a1 ⊢; omega
  have a1 := m1.2.2.1 x.lo (by simp)
  have a2 := m1.2.2.1 Num.zero (by simp)
  rw [Num.may_fair r.lom] at a1
  rw [Num.may_fair Num.zero_may, Num.val_zero] at a2
  refine ⟨Num.most [x.lo, Num.zero], m1.1, m1.2.1, a1, a2, ?_, ?_⟩
  · rcases m1.2.2.2 with e | ⟨y, hy, e⟩
    · exfalso; rw [e, Num.val_inf] at a2; simp at a2; omega
    · simp at hy
      rcases hy with rfl | rfl
      · left; rw [e, Num.may_fair r.lom]
      · right; rw [e, Num.may_fair Num.zero_may, Num.val_zero]
  · unfold Iv.meet
    rw [if_pos ag]
    have l1 : Iv.los [x, Iv.positive] = [x.lo, Num.zero] := by unfold Iv.los; rw [g, ep]; rfl
    have l2 : Iv.his [x, Iv.positive] = [x.hi, Num.inf false] := by unfold Iv.his; rw [g, ep]; rfl
    rw [l1, l2, eh]
theorem Iv.part_root {a c : Iv} (P : a.bad = true ∨ Iv.Part a c) : (Iv.root a).within (Iv.root c) = true := by
  rcases P with P | P
  · have e : Iv.meet [a, Iv.positive] = Iv.none := by
      unfold Iv.meet Iv.allGood
      simp [Iv.fair_empty, P]
    have : Iv.root a = Iv.none := by unfold Iv.root; rw [e]; rfl
    rw [this]; exact Iv.empty_within _
  · obtain ⟨m, mm, mo, ma, m0, mc, em⟩ := Iv.meet_pos P.ra
    obtain ⟨n, nm, no, na, n0, nc, en⟩ := Iv.meet_pos P.rc
    have hlo := P.lo
    have hhi := P.hi
    have p := pw_pos 1048640
    rcases Iv.make_cases mo P.ra.hio with ⟨e, -⟩ | ⟨e, R⟩
    · have : Iv.root a = Iv.none := by unfold Iv.root; rw [em, e]; rfl
      rw [this]; exact Iv.empty_within _
    · rw [Num.may_fair mm, Num.may_fair P.ra.him] at e R
      have rle : m.val ≤ a.hi.val := R.le
      have rlt : m.val < pw 1048640 := R.lt
      have S : (Iv.mk false n c.hi).Real := ⟨rfl, nm, P.rc.him, no, P.rc.hio, by show n.val ≤ c.hi.val; omega, by show n.val < _; omega, by show _ < c.hi.val; omega⟩
      have e2 : Iv.make n c.hi = ⟨false, n, c.hi⟩ := by
        have := Iv.make_real (lo := n) (hi := c.hi) (by rw [Num.may_fair nm, Num.may_fair P.rc.him]; exact S)
        rw [this, Num.may_fair nm, Num.may_fair P.rc.him]
      have r1 : Iv.root a = Iv.make (Num.root m false).1 (Num.root a.hi true).1 := by unfold Iv.root; rw [em, e]; rfl
      have r2 : Iv.root c = Iv.make (Num.root n false).1 (Num.root c.hi true).1 := by unfold Iv.root; rw [en, e2]; rfl
      rw [r1, r2]
      have h0 : 0 ≤ a.hi.val := by omega
      have h1 : 0 ≤ c.hi.val := by omega
      refine Iv.make_within (Num.root_ok mo _) (Num.root_ok P.ra.hio _) (Num.root_ok no _) (Num.root_ok P.rc.hio _) ?_ ?_
      · rw [Num.may_fair (Num.root_may mm mo m0 _).1, Num.may_fair (Num.root_may nm no n0 _).1]
        exact Num.root_mono nm mm no mo n0 (by omega) false
      · rw [Num.may_fair (Num.root_may P.ra.him P.ra.hio h0 _).1, Num.may_fair (Num.root_may P.rc.him P.rc.hio h1 _).1]
        exact Num.root_mono P.ra.him P.rc.him P.ra.hio P.rc.hio h0 hhi true
end Go.Proofs.Ytincnfjihffllaa.Ev

/- Quotients of parts are parts: plain Lean. -/
namespace Go.Proofs.Ytincnfjihffllaa.Ev
open Go

theorem div_fine : Fine Num.div := ⟨fun ox oy up => Num.div_ok ox oy up, fun ox oy up => Num.div_may ox oy up⟩
theorem Num.kind_val {y : Num} (h : y.fair.val ≠ 0) : y.fair.kind ≠ 0 := by
  intro k
  apply h
  unfold Num.val Num.W
  rw [if_pos k]; simp
/-- the divisor below nought: both turned -/
theorem Num.div_turn {x y : Num} (ox : x.ok) (oy : y.ok) (up : Bool) : Num.div x y up = Num.div x.opp y.opp up := (Num.div_opp_opp ox oy up).symm
theorem Num.opp_fval (x : Num) : x.opp.fair.val = -x.fair.val := by rw [Num.opp_fair, Num.opp_val]
theorem Num.div_mono_neg {x z y : Num} (ox : x.ok) (oz : z.ok) (oy : y.ok) (hy : y.fair.val < 0) (h : x.fair.val ≤ z.fair.val) (up : Bool) : (Num.div z y up).val ≤ (Num.div x y up).val := by
  rw [Num.div_turn ox oy, Num.div_turn oz oy]
  exact Num.div_mono (Num.opp_ok oz) (Num.opp_ok ox) (Num.opp_ok oy) (by rw [Num.opp_fval]; omega) (by rw [Num.opp_fval, Num.opp_fval]; omega) up
/-- below nought a quotient grows with a divisor above it -/
theorem Num.div_grow {x y z : Num} (ox : x.ok) (oy : y.ok) (oz : z.ok) (hx : x.fair.val ≤ 0) (hy : 0 < y.fair.val) (h : y.fair.val ≤ z.fair.val) (up : Bool) : (Num.div x y up).val ≤ (Num.div x z up).val := by
  have a := Num.div_anti (Num.opp_ok ox) oy oz (by rw [Num.opp_fval]; omega) hy h (!up)
  rw [Num.div_opp_l ox oy (Num.kind_val (by omega)), Num.div_opp_l ox oz (Num.kind_val (by omega)), Num.opp_val, Num.opp_val, Num.may_fair (Num.div_may ox oy up), Num.may_fair (Num.div_may ox oz up)] at a
  omega
theorem Num.div_between_pos {x y v1 v2 : Num} (ox : x.ok) (oy : y.ok) (o1 : v1.ok) (o2 : v2.ok) (h0 : 0 < v1.fair.val) (h1 : v1.fair.val ≤ y.fair.val) (h2 : y.fair.val ≤ v2.fair.val) (up : Bool) :
    (∃ z, (z = v1 ∨ z = v2) ∧ (Num.div x z up).val ≤ (Num.div x y up).val) ∧ (∃ z, (z = v1 ∨ z = v2) ∧ (Num.div x y up).val ≤ (Num.div x z up).val) := by
  rcases Int.lt_or_le x.fair.val 0 with h | h
  · exact ⟨⟨v1, .inl rfl, Num.div_grow ox o1 oy (by omega) h0 h1 up⟩, ⟨v2, .inr rfl, Num.div_grow ox oy o2 (by omega) (by omega) h2 up⟩⟩
  · exact ⟨⟨v2, .inr rfl, Num.div_anti ox oy o2 h (by omega) h2 up⟩, ⟨v1, .inl rfl, Num.div_anti ox o1 oy h h0 h1 up⟩⟩
theorem Num.div_between {x y v1 v2 : Num} (ox : x.ok) (oy : y.ok) (o1 : v1.ok) (o2 : v2.ok) (h0 : 0 < v1.fair.val ∨ v2.fair.val < 0) (h1 : v1.fair.val ≤ y.fair.val) (h2 : y.fair.val ≤ v2.fair.val) (up : Bool) :
    (∃ z, (z = v1 ∨ z = v2) ∧ (Num.div x z up).val ≤ (Num.div x y up).val) ∧ (∃ z, (z = v1 ∨ z = v2) ∧ (Num.div x y up).val ≤ (Num.div x z up).val) := by
  rcases h0 with h0 | h0
  · exact Num.div_between_pos ox oy o1 o2 h0 h1 h2 up
  · have k := Num.div_between_pos (Num.opp_ok ox) (Num.opp_ok oy) (Num.opp_ok o2) (Num.opp_ok o1) (by rw [Num.opp_fval]; omega) (by rw [Num.opp_fval, Num.opp_fval]; omega) (by rw [Num.opp_fval, Num.opp_fval]; omega) up
    rw [← Num.div_turn ox oy] at k
    obtain ⟨⟨z, hz, a⟩, ⟨w, hw, b⟩⟩ := k
    constructor
    · rcases hz with rfl | rfl
      · exact ⟨v2, .inr rfl, by rw [Num.div_turn ox o2]; exact a⟩
      · exact ⟨v1, .inl rfl, by rw [Num.div_turn ox o1]; exact a⟩
    · rcases hw with rfl | rfl
      · exact ⟨v2, .inr rfl, by rw [Num.div_turn ox o2]; exact b⟩
      · exact ⟨v1, .inl rfl, by rw [Num.div_turn ox o1]; exact b⟩
theorem Num.div_between_l {x y u1 u2 : Num} (ox : x.ok) (oy : y.ok) (o1 : u1.ok) (o2 : u2.ok) (h0 : y.fair.val ≠ 0) (h1 : u1.fair.val ≤ x.fair.val) (h2 : x.fair.val ≤ u2.fair.val) (up : Bool) :
    (∃ z, (z = u1 ∨ z = u2) ∧ (Num.div z y up).val ≤ (Num.div x y up).val) ∧ (∃ z, (z = u1 ∨ z = u2) ∧ (Num.div x y up).val ≤ (Num.div z y up).val) := by
  rcases Int.lt_or_le y.fair.val 0 with h | h
  · exact ⟨⟨u2, .inr rfl, Num.div_mono_neg ox o2 oy h h2 up⟩, ⟨u1, .inl rfl, Num.div_mono_neg o1 ox oy h h1 up⟩⟩
  · exact ⟨⟨u1, .inl rfl, Num.div_mono o1 ox oy (by omega) h1 up⟩, ⟨u2, .inr rfl, Num.div_mono ox o2 oy (by omega) h2 up⟩⟩

/-- The divisor has no nought: the corners. -/
theorem Iv.div_corners {a b c d : Iv} (P : Iv.Part a c) (Q : Iv.Part b d) (h : 0 < d.lo.val ∨ d.hi.val < 0) : (Iv.corners Num.div a b).within (Iv.corners Num.div c d) = true := by
  have h' : 0 < d.lo.fair.val ∨ d.hi.fair.val < 0 := by rw [Num.may_fair Q.rc.lom, Num.may_fair Q.rc.him]; exact h
  refine Iv.corners_within div_fine P.ra Q.ra P.rc Q.rc (fun x y hx hy => ?_) (fun x y hx hy => ?_)
  · obtain ⟨ox, -, x1, x2⟩ := P.ends hx
    obtain ⟨oy, -, y1, y2⟩ := Q.ends hy
    obtain ⟨⟨v, hv, k⟩, -⟩ := Num.div_between ox oy Q.rc.loo Q.rc.hio h' y1 y2 false
    have ov := either_ok hv Q.rc.loo Q.rc.hio
    have nv : v.fair.val ≠ 0 := by rcases hv with rfl | rfl <;> omega
    obtain ⟨⟨u, hu, j⟩, -⟩ := Num.div_between_l ox ov P.rc.loo P.rc.hio nv x1 x2 false
    exact ⟨u, v, hu, hv, by omega⟩
  · obtain ⟨ox, -, x1, x2⟩ := P.ends hx
    obtain ⟨oy, -, y1, y2⟩ := Q.ends hy
    obtain ⟨-, ⟨v, hv, k⟩⟩ := Num.div_between ox oy Q.rc.loo Q.rc.hio h' y1 y2 true
    have ov := either_ok hv Q.rc.loo Q.rc.hio
    have nv : v.fair.val ≠ 0 := by rcases hv with rfl | rfl <;> omega
    obtain ⟨-, ⟨u, hu, j⟩⟩ := Num.div_between_l ox ov P.rc.loo P.rc.hio nv x1 x2 true
    exact ⟨u, v, hu, hv, by omega⟩

/-! the signs -/
theorem Num.sign_iff {n : Num} (m : n.may = true) (o : n.ok) : (n.sign < 0 ↔ n.val < 0) ∧ (0 < n.sign ↔ 0 < n.val) ∧ (n.sign = 0 ↔ n.val = 0) ∧ (n.sign = if n.val < 0 then -1 else if 0 < n.val then 1 else 0) := by
  have := Num.val_pos m o
  rcases Int.lt_trichotomy n.val 0 with h | h | h
  · have k := (this.2.1 h).2.2; rw [if_pos h]; omega
  · have k := (this.2.2 h).1; rw [if_neg (by omega), if_neg (by omega)]; omega
  · have k := (this.1 h).2.2; rw [if_neg (by omega), if_pos h]; omega
theorem Iv.has_zero {a : Iv} (r : a.Real) : (Iv.has a Num.zero = true) ↔ (a.lo.val ≤ 0 ∧ 0 ≤ a.hi.val) := by
  rw [Iv.has_iff Num.zero_ok r.loo r.hio]
  exact ⟨fun h => ⟨h.2.2.1, h.2.2.2⟩, fun h => ⟨by decide, r, h.1, h.2⟩⟩
theorem Iv.div_real {a b : Iv} (ra : a.Real) (rb : b.Real) : Iv.div a b =
    if b.lo.val = 0 ∧ b.hi.val = 0 then Iv.none else if 0 < b.lo.val ∨ b.hi.val < 0 then Iv.corners Num.div a b
    else if (b.lo.val < 0 ∧ 0 < b.hi.val) ∨ (a.lo.val ≤ 0 ∧ 0 ≤ a.hi.val) then Iv.all
    else Iv.half (if a.lo.val < 0 then a.hi else a.lo) (if b.hi.val = 0 then b.lo else b.hi) := by
  have s1 := Num.sign_iff rb.lom rb.loo
  have s2 := Num.sign_iff rb.him rb.hio
  have s3 := Num.sign_iff ra.lom ra.loo
  unfold Iv.div
  rw [Iv.bad_two, ra.good, rb.good]
  simp only [Bool.or_self, Bool.false_eq_true, false_or, s1.2.2.1, s2.2.2.1, s1.2.1, s2.1, s1.1, s2.2.1, s3.1, Iv.has_zero ra]
theorem Iv.div_bad {a b : Iv} (h : a.bad = true ∨ b.bad = true) : Iv.div a b = Iv.none := by
  unfold Iv.div
  rw [Iv.bad_two, if_pos]
  left
  rcases h with h | h <;> simp [h]
theorem Iv.all_real : Iv.all.Real := by
  have p := pw_pos 1048640
  refine ⟨rfl, Num.inf_may _, Num.inf_may _, Num.inf_ok _, Num.inf_ok _, ?_, ?_, ?_⟩ <;>
  · show _ <;> simp only [Iv.all, Num.val_inf] <;> simp <;> omega
theorem Iv.within_all {a : Iv} (h : a.bad = true ∨ a.Real) : a.within Iv.all = true := by
  rcases h with h | h
  · unfold Iv.within; rw [Iv.fair_empty, h]; rfl
  · refine Iv.real_within h Iv.all_real ?_ ?_
    · have := (Num.val_le h.lom h.loo).1; simpa [Iv.all, Num.val_inf] using this
    · have := (Num.val_le h.him h.hio).2; simpa [Iv.all, Num.val_inf] using this
theorem Iv.bad_or_real {a : Iv} (h : a.lo.ok ∧ a.hi.ok) : a.bad = true ∨ a.Real := by
  cases e : a.bad with
  | true => exact .inl rfl
  | false => exact .inr (Iv.real_of_good e h.1 h.2)

theorem Iv.half_eq {n f : Num} (mn : n.may = true) (mf : f.may = true) (on : n.ok) (of : f.ok) (h1 : n.val ≠ 0) (h2 : f.val ≠ 0) :
    Iv.half n f = if (0 < n.val ↔ 0 < f.val) then Iv.make (Num.div n f false) (Num.inf false) else Iv.make (Num.inf true) (Num.div n f true) := by
  have s1 := (Num.sign_iff mn on).2.2.2
  have s2 := (Num.sign_iff mf of).2.2.2
  unfold Iv.half
  have e : (n.sign = f.sign) ↔ (0 < n.val ↔ 0 < f.val) := by
    rw [s1, s2]
    split <;> split <;> (try split) <;> (try split) <;> omega
  simp only [e]

/-- The nearest of the dividend by the farthest of the divisor, both on one side. -/
theorem quot_lo {x y u v : Num} (ox : x.ok) (oy : y.ok) (ou : u.ok) (ov : v.ok)
    (h : (0 ≤ u.fair.val ∧ u.fair.val ≤ x.fair.val ∧ 0 < y.fair.val ∧ y.fair.val ≤ v.fair.val) ∨ (u.fair.val ≤ 0 ∧ x.fair.val ≤ u.fair.val ∧ y.fair.val < 0 ∧ v.fair.val ≤ y.fair.val)) (up : Bool) :
    (Num.div u v up).val ≤ (Num.div x y up).val := by
  have core : ∀ {x y u v : Num}, x.ok → y.ok → u.ok → v.ok → 0 ≤ u.fair.val → u.fair.val ≤ x.fair.val → 0 < y.fair.val → y.fair.val ≤ v.fair.val → (Num.div u v up).val ≤ (Num.div x y up).val := by
    intro x y u v ox oy ou ov h1 h2 h3 h4
    have a := Num.div_mono ou ox ov (by omega) h2 up
    have b := Num.div_anti ox oy ov (by omega) h3 h4 up
    omega
  rcases h with ⟨h1, h2, h3, h4⟩ | ⟨h1, h2, h3, h4⟩
  · exact core ox oy ou ov h1 h2 h3 h4
  · rw [Num.div_turn ou ov, Num.div_turn ox oy]
    refine core (Num.opp_ok ox) (Num.opp_ok oy) (Num.opp_ok ou) (Num.opp_ok ov) ?_ ?_ ?_ ?_ <;> simp only [Num.opp_fval] <;> omega
theorem quot_hi {x y u v : Num} (ox : x.ok) (oy : y.ok) (ou : u.ok) (ov : v.ok)
    (h : (0 ≤ u.fair.val ∧ u.fair.val ≤ x.fair.val ∧ y.fair.val < 0 ∧ v.fair.val ≤ y.fair.val) ∨ (u.fair.val ≤ 0 ∧ x.fair.val ≤ u.fair.val ∧ 0 < y.fair.val ∧ y.fair.val ≤ v.fair.val)) (up : Bool) :
    (Num.div x y up).val ≤ (Num.div u v up).val := by
  have core : ∀ {x y u v : Num}, x.ok → y.ok → u.ok → v.ok → u.fair.val ≤ 0 → x.fair.val ≤ u.fair.val → 0 < y.fair.val → y.fair.val ≤ v.fair.val → (Num.div x y up).val ≤ (Num.div u v up).val := by
    intro x y u v ox oy ou ov h1 h2 h3 h4
    have a := Num.div_mono ox ou oy h3 h2 up
    have b := Num.div_grow ou oy ov h1 h3 h4 up
    omega
  rcases h with ⟨h1, h2, h3, h4⟩ | ⟨h1, h2, h3, h4⟩
  · rw [Num.div_turn ou ov, Num.div_turn ox oy]
    refine core (Num.opp_ok ox) (Num.opp_ok oy) (Num.opp_ok ou) (Num.opp_ok ov) ?_ ?_ ?_ ?_ <;> simp only [Num.opp_fval] <;> omega
  · exact core ox oy ou ov h1 h2 h3 h4

theorem end_may {a : Iv} (r : a.Real) {x : Num} (h : x = a.lo ∨ x = a.hi) : x.may = true := by
  rcases h with rfl | rfl
  · exact r.lom
  · exact r.him
/-- a quotient by what lies on one side of nought, of what lies on one side of it -/
theorem Iv.div_side {a b : Iv} (ra : a.Real) (rb : b.Real) (ha : 0 < a.lo.val ∨ a.hi.val < 0) (hb : 0 ≤ b.lo.val ∨ b.hi.val ≤ 0) :
    Iv.div a b = Iv.none ∨ Iv.div a b = Iv.corners Num.div a b ∧ (∀ y, (y = b.lo ∨ y = b.hi) → y.val ≠ 0) ∨
      ∃ x y, (x = a.lo ∨ x = a.hi) ∧ (y = b.lo ∨ y = b.hi) ∧ y.val ≠ 0 ∧ x.val ≠ 0 ∧ Iv.div a b = if (0 < x.val ↔ 0 < y.val) then Iv.make (Num.div x y false) (Num.inf false) else Iv.make (Num.inf true) (Num.div x y true) := by
  have la := ra.le
  have lb := rb.le
  rw [Iv.div_real ra rb]
  by_cases h0 : b.lo.val = 0 ∧ b.hi.val = 0
  · rw [if_pos h0]; exact .inl rfl
  · rw [if_neg h0]
    by_cases h1 : 0 < b.lo.val ∨ b.hi.val < 0
    · rw [if_pos h1]
      refine .inr (.inl ⟨rfl, ?_⟩)
      rintro y (rfl | rfl) <;> omega
    · rw [if_neg h1, if_neg (by omega)]
      right; right
      have hx : (if a.lo.val < 0 then a.hi else a.lo) = a.lo ∨ (if a.lo.val < 0 then a.hi else a.lo) = a.hi := by split <;> simp
      have hy : (if b.hi.val = 0 then b.lo else b.hi) = b.lo ∨ (if b.hi.val = 0 then b.lo else b.hi) = b.hi := by split <;> simp
      have nx : (if a.lo.val < 0 then a.hi else a.lo).val ≠ 0 := by split <;> omega
      have ny : (if b.hi.val = 0 then b.lo else b.hi).val ≠ 0 := by split <;> omega
      generalize (if a.lo.val < 0 then a.hi else a.lo) = x at *
      generalize (if b.hi.val = 0 then b.lo else b.hi) = y at *
      refine ⟨x, y, hx, hy, ny, nx, ?_⟩
      have mx := end_may ra hx
      have my := end_may rb hy
      exact Iv.half_eq mx my (end_ok ra hx) (end_ok rb hy) nx ny
theorem div_lo_bound {a b : Iv} (ra : a.Real) (rb : b.Real) (ha : 0 < a.lo.val ∨ a.hi.val < 0) (hb : 0 ≤ b.lo.val ∨ b.hi.val ≤ 0) {u v : Num} (ou : u.ok) (ov : v.ok)
    (S : ∀ x y, (x = a.lo ∨ x = a.hi) → (y = b.lo ∨ y = b.hi) → y.val ≠ 0 → (0 < u.val ∧ u.val ≤ x.val ∧ 0 < y.val ∧ y.val ≤ v.val) ∨ (u.val < 0 ∧ x.val ≤ u.val ∧ y.val < 0 ∧ v.val ≤ y.val)) (mu : u.may = true) (mv : v.may = true) :
    (Iv.div a b).within (Iv.make (Num.div u v false) (Num.inf false)) = true := by
  have K : ∀ x y, (x = a.lo ∨ x = a.hi) → (y = b.lo ∨ y = b.hi) → y.val ≠ 0 → (Num.div u v false).val ≤ (Num.div x y false).val := by
    intro x y hx hy ny
    refine quot_lo (end_ok ra hx) (end_ok rb hy) ou ov ?_ false
    rw [Num.may_fair mu, Num.may_fair mv, Num.may_fair (end_may ra hx), Num.may_fair (end_may rb hy)]
    have := S x y hx hy ny
    omega
  have ub : ∀ r : Num, r.may = true → r.ok → r.fair.val ≤ (Num.inf false).fair.val := by
    intro r m o
    rw [Num.may_fair m, Num.may_fair (Num.inf_may _), Num.val_inf]
    have := (Num.val_le m o).2
    simpa using this
  have om := Num.div_ok ou ov false
  have mm := Num.div_may ou ov false
  rcases Iv.div_side ra rb ha hb with e | ⟨e, n⟩ | ⟨x, y, hx, hy, ny, nx, e⟩
  · rw [e]; exact Iv.empty_within _
  · rw [e]
    have l1 := Num.least_spec _ (corner_ok div_fine ra rb false)
    have m1 := Num.most_spec _ (corner_ok div_fine ra rb true)
    unfold Iv.corners
    refine Iv.make_within l1.2.1 m1.2.1 om (Num.inf_ok _) ?_ (ub _ m1.1 m1.2.1)
    rw [Num.may_fair mm, Num.may_fair l1.1]
    rcases l1.2.2.2 with e | ⟨z, hz, e⟩
    · rw [e, Num.val_inf]; have := (Num.val_le mm om).2; simpa using this
    · obtain ⟨x, y, hx, hy, rfl⟩ := corner_mem.1 hz
      rw [e, Num.may_fair (Num.div_may (end_ok ra hx) (end_ok rb hy) _)]
      exact K x y hx hy (n y hy)
  · have s := S x y hx hy ny
    rw [e, if_pos (by omega)]
    have ox := end_ok ra hx
    have oy := end_ok rb hy
    refine Iv.make_within (Num.div_ok ox oy _) (Num.inf_ok _) om (Num.inf_ok _) ?_ (Int.le_refl _)
    rw [Num.may_fair mm, Num.may_fair (Num.div_may ox oy _)]
    exact K x y hx hy ny
theorem div_hi_bound {a b : Iv} (ra : a.Real) (rb : b.Real) (ha : 0 < a.lo.val ∨ a.hi.val < 0) (hb : 0 ≤ b.lo.val ∨ b.hi.val ≤ 0) {u v : Num} (ou : u.ok) (ov : v.ok)
    (S : ∀ x y, (x = a.lo ∨ x = a.hi) → (y = b.lo ∨ y = b.hi) → y.val ≠ 0 → (0 < u.val ∧ u.val ≤ x.val ∧ y.val < 0 ∧ v.val ≤ y.val) ∨ (u.val < 0 ∧ x.val ≤ u.val ∧ 0 < y.val ∧ y.val ≤ v.val)) (mu : u.may = true) (mv : v.may = true) :
    (Iv.div a b).within (Iv.make (Num.inf true) (Num.div u v true)) = true := by
  have K : ∀ x y, (x = a.lo ∨ x = a.hi) → (y = b.lo ∨ y = b.hi) → y.val ≠ 0 → (Num.div x y true).val ≤ (Num.div u v true).val := by
    intro x y hx hy ny
    refine quot_hi (end_ok ra hx) (end_ok rb hy) ou ov ?_ true
    rw [Num.may_fair mu, Num.may_fair mv, Num.may_fair (end_may ra hx), Num.may_fair (end_may rb hy)]
    have := S x y hx hy ny
    omega
  have lb : ∀ r : Num, r.may = true → r.ok → (Num.inf true).fair.val ≤ r.fair.val := by
    intro r m o
    rw [Num.may_fair m, Num.may_fair (Num.inf_may _), Num.val_inf]
    have := (Num.val_le m o).1
    simpa using this
  have om := Num.div_ok ou ov true
  have mm := Num.div_may ou ov true
  rcases Iv.div_side ra rb ha hb with e | ⟨e, n⟩ | ⟨x, y, hx, hy, ny, nx, e⟩
  · rw [e]; exact Iv.empty_within _
  · rw [e]
    have l1 := Num.least_spec _ (corner_ok div_fine ra rb false)
    have m1 := Num.most_spec _ (corner_ok div_fine ra rb true)
    unfold Iv.corners
    refine Iv.make_within l1.2.1 m1.2.1 (Num.inf_ok _) om (lb _ l1.1 l1.2.1) ?_
    rw [Num.may_fair mm, Num.may_fair m1.1]
    rcases m1.2.2.2 with e | ⟨z, hz, e⟩
    · rw [e, Num.val_inf]; have := (Num.val_le mm om).1; simpa using this
    · obtain ⟨x, y, hx, hy, rfl⟩ := corner_mem.1 hz
      rw [e, Num.may_fair (Num.div_may (end_ok ra hx) (end_ok rb hy) _)]
      exact K x y hx hy (n y hy)
  · have s := S x y hx hy ny
    rw [e, if_neg (by omega)]
    have ox := end_ok ra hx
    have oy := end_ok rb hy
    refine Iv.make_within (Num.inf_ok _) (Num.div_ok ox oy _) (Num.inf_ok _) om (Int.le_refl _) ?_
    rw [Num.may_fair mm, Num.may_fair (Num.div_may ox oy _)]
    exact K x y hx hy ny

theorem Iv.div_parts {a b c d : Iv} (oa : a.lo.ok ∧ a.hi.ok) (ob : b.lo.ok ∧ b.hi.ok) (P : a.bad = true ∨ Iv.Part a c) (Q : b.bad = true ∨ Iv.Part b d) : (Iv.div a b).within (Iv.div c d) = true := by
  rcases P with P | P
  · rw [Iv.div_bad (.inl P)]; exact Iv.empty_within _
  rcases Q with Q | Q
  · rw [Iv.div_bad (.inr Q)]; exact Iv.empty_within _
  have a1 := P.lo
  have a2 := P.hi
  have a3 := P.ra.le
  have b1 := Q.lo
  have b2 := Q.hi
  have b3 := Q.ra.le
  have dok := Iv.bad_or_real (Iv.div_ok oa ob)
  rw [Iv.div_real P.rc Q.rc]
  by_cases h0 : d.lo.val = 0 ∧ d.hi.val = 0
  · rw [Iv.div_real P.ra Q.ra, if_pos (by omega)]; exact Iv.empty_within _
  rw [if_neg h0]
  by_cases h1 : 0 < d.lo.val ∨ d.hi.val < 0
  · rw [if_pos h1, Iv.div_real P.ra Q.ra, if_neg (by omega), if_pos (by omega)]
    exact Iv.div_corners P Q h1
  rw [if_neg h1]
  by_cases h2 : (d.lo.val < 0 ∧ 0 < d.hi.val) ∨ (c.lo.val ≤ 0 ∧ 0 ≤ c.hi.val)
  · rw [if_pos h2]; exact Iv.within_all dok
  rw [if_neg h2]
  have ends : ∀ x y, (x = a.lo ∨ x = a.hi) → (y = b.lo ∨ y = b.hi) → (c.lo.val ≤ x.val ∧ x.val ≤ c.hi.val) ∧ (d.lo.val ≤ y.val ∧ y.val ≤ d.hi.val) := by
    intro x y hx hy
    constructor
    · rcases hx with rfl | rfl <;> omega
    · rcases hy with rfl | rfl <;> omega
  by_cases c0 : c.lo.val < 0
  · rw [if_pos c0]
    by_cases d0 : d.hi.val = 0
    · rw [if_pos d0, Iv.half_eq P.rc.him Q.rc.lom P.rc.hio Q.rc.loo (by omega) (by omega), if_pos (by omega)]
      refine div_lo_bound P.ra Q.ra (by omega) (by omega) P.rc.hio Q.rc.loo (fun x y hx hy ny => ?_) P.rc.him Q.rc.lom
      have := ends x y hx hy; omega
    · rw [if_neg d0, Iv.half_eq P.rc.him Q.rc.him P.rc.hio Q.rc.hio (by omega) (by omega), if_neg (by omega)]
      refine div_hi_bound P.ra Q.ra (by omega) (by omega) P.rc.hio Q.rc.hio (fun x y hx hy ny => ?_) P.rc.him Q.rc.him
      have := ends x y hx hy; omega
  · rw [if_neg c0]
    by_cases d0 : d.hi.val = 0
    · rw [if_pos d0, Iv.half_eq P.rc.lom Q.rc.lom P.rc.loo Q.rc.loo (by omega) (by omega), if_neg (by omega)]
      refine div_hi_bound P.ra Q.ra (by omega) (by omega) P.rc.loo Q.rc.loo (fun x y hx hy ny => ?_) P.rc.lom Q.rc.lom
      have := ends x y hx hy; omega
    · rw [if_neg d0, Iv.half_eq P.rc.lom Q.rc.him P.rc.loo Q.rc.hio (by omega) (by omega), if_pos (by omega)]
      refine div_lo_bound P.ra Q.ra (by omega) (by omega) P.rc.loo Q.rc.hio (fun x y hx hy ny => ?_) P.rc.lom Q.rc.him
      have := ends x y hx hy; omega
end Go.Proofs.Ytincnfjihffllaa.Ev

/- What two intervals have together, and their hull, by values: plain Lean. -/
namespace Go.Proofs.Ytincnfjihffllaa.Ev
open Go

/-- empty, or a part -/
def Iv.In (a c : Iv) : Prop := a.bad = true ∨ Iv.Part a c
theorem Iv.In.within {a c : Iv} (h : Iv.In a c) : a.within c = true := by
  rcases h with h | h
  · unfold Iv.within; rw [Iv.fair_empty, h]; rfl
  · exact h.within
theorem Iv.In.trans {a b c : Iv} (h : Iv.In a b) (g : Iv.In b c) : Iv.In a c := by
  rcases h with h | h
  · exact .inl h
  · rcases g with g | g
    · rw [h.rc.good] at g; cases g
    · have := h.lo
      have := h.hi
      have := g.lo
      have := g.hi
      exact .inr ⟨h.ra, g.rc, by omega, by omega⟩
theorem Iv.In.none {c : Iv} : Iv.In Iv.none c := .inl Iv.none_bad
theorem Iv.Real.self {a : Iv} (r : a.Real) : Iv.Part a a := ⟨r, r, Int.le_refl _, Int.le_refl _⟩
theorem Iv.in_self {a : Iv} (h : a.lo.ok ∧ a.hi.ok) : Iv.In a a := (Iv.bad_or_real h).imp id Iv.Real.self
theorem Num.two_of {m a b : Num} (mm : m.may = true) (mo : m.ok) (ma : a.may = true) (oa : a.ok) (h : m.val = a.val) : m = a := Num.val_inj mm ma mo oa h

theorem Iv.goods_two {x y : Iv} (rx : x.Real) (ry : y.Real) : Iv.goods [x, y] = [x, y] := by
  simp only [Iv.goods, rx.fair, ry.fair, rx.some, ry.some]
  rw [if_neg (by decide), if_neg (by decide)]
theorem Iv.most_two {a b : Num} (ma : a.may = true) (mb : b.may = true) (oa : a.ok) (ob : b.ok) : (Num.most [a, b]).may = true ∧ (Num.most [a, b]).ok ∧ a.val ≤ (Num.most [a, b]).val ∧ b.val ≤ (Num.most [a, b]).val ∧ (Num.most [a, b] = a ∨ Num.most [a, b] = b) := by
  have s := Num.most_spec [a, b] (by simp; exact ⟨oa, ob⟩)
  have k1 := s.2.2.1 a (by simp)
  have k2 := s.2.2.1 b (by simp)
  rw [Num.may_fair ma] at k1
  rw [Num.may_fair mb] at k2
  refine ⟨s.1, s.2.1, k1, k2, ?_⟩
  rcases s.2.2.2 with e | ⟨x, hx, e⟩
  · left
    refine Num.val_inj s.1 ma s.2.1 oa ?_
    have := (Num.val_le ma oa).1
    rw [e, Num.val_inf] at k1 ⊢; simp at k1 ⊢; omega
  · simp only [List.mem_cons, List.not_mem_nil, or_false] at hx
    rcases hx with rfl | rfl
    · left; rw [e, Num.may_fair ma]
    · right; rw [e, Num.may_fair mb]
theorem Iv.least_two {a b : Num} (ma : a.may = true) (mb : b.may = true) (oa : a.ok) (ob : b.ok) : (Num.least [a, b]).may = true ∧ (Num.least [a, b]).ok ∧ (Num.least [a, b]).val ≤ a.val ∧ (Num.least [a, b]).val ≤ b.val ∧ (Num.least [a, b] = a ∨ Num.least [a, b] = b) := by
  have s := Num.least_spec [a, b] (by simp; exact ⟨oa, ob⟩)
  have k1 := s.2.2.1 a (by simp)
  have k2 := s.2.2.1 b (by simp)
  rw [Num.may_fair ma] at k1
  rw [Num.may_fair mb] at k2
  refine ⟨s.1, s.2.1, k1, k2, ?_⟩
  rcases s.2.2.2 with e | ⟨x, hx, e⟩
  · left
    refine Num.val_inj s.1 ma s.2.1 oa ?_
    have := (Num.val_le ma oa).2
    rw [e, Num.val_inf] at k1 ⊢; simp at k1 ⊢; omega
  · simp only [List.mem_cons, List.not_mem_nil, or_false] at hx
    rcases hx with rfl | rfl
    · left; rw [e, Num.may_fair ma]
    · right; rw [e, Num.may_fair mb]
theorem Iv.meet_real {x y : Iv} (rx : x.Real) (ry : y.Real) : Iv.meet [x, y] = Iv.make (Num.most [x.lo, y.lo]) (Num.least [x.hi, y.hi]) := by
  have ag : Iv.allGood [x, y] = true := by
    simp only [Iv.allGood, List.all_cons, List.all_nil, Iv.fair_empty, rx.good, ry.good]; decide
  unfold Iv.meet Iv.los Iv.his
  rw [if_pos ag, Iv.goods_two rx ry]; rfl
theorem Iv.meet_bad {x y : Iv} (h : x.bad = true ∨ y.bad = true) : Iv.meet [x, y] = Iv.none := by
  have ag : Iv.allGood [x, y] = false := by
    simp only [Iv.allGood, List.all_cons, List.all_nil, Iv.fair_empty]
    rcases h with h | h <;> simp [h]
  unfold Iv.meet
  rw [if_neg (by rw [ag]; decide)]
/-- what is made of ends, told again -/
theorem Iv.make_of {lo hi : Num} (ml : lo.may = true) (mh : hi.may = true) (ol : lo.ok) (oh : hi.ok) : (Iv.make lo hi = Iv.none) ∨ (Iv.make lo hi = ⟨false, lo, hi⟩ ∧ (Iv.mk false lo hi).Real) := by
  rcases Iv.make_cases ol oh with ⟨e, -⟩ | ⟨e, r⟩
  · exact .inl e
  · rw [Num.may_fair ml, Num.may_fair mh] at e r
    exact .inr ⟨e, r⟩
theorem Iv.meet_in {x y : Iv} (hx : x.lo.ok ∧ x.hi.ok) (hy : y.lo.ok ∧ y.hi.ok) : Iv.In (Iv.meet [x, y]) x ∧ Iv.In (Iv.meet [x, y]) y := by
  rcases Iv.bad_or_real hx with bx | rx
  · rw [Iv.meet_bad (.inl bx)]; exact ⟨.none, .none⟩
  rcases Iv.bad_or_real hy with by' | ry
  · rw [Iv.meet_bad (.inr by')]; exact ⟨.none, .none⟩
  obtain ⟨m1, m2, m3, m4, -⟩ := Iv.most_two rx.lom ry.lom rx.loo ry.loo
  obtain ⟨l1, l2, l3, l4, -⟩ := Iv.least_two rx.him ry.him rx.hio ry.hio
  rw [Iv.meet_real rx ry]
  rcases Iv.make_of m1 l1 m2 l2 with e | ⟨e, r⟩
  · rw [e]; exact ⟨.none, .none⟩
  · rw [e]; exact ⟨.inr ⟨r, rx, m3, l3⟩, .inr ⟨r, ry, m4, l4⟩⟩
theorem Iv.meet_one {x : Iv} (h : x.lo.ok ∧ x.hi.ok) : Iv.meet [x] = x.fair := by
  rcases Iv.bad_or_real h with b | r
  · have ag : Iv.allGood [x] = false := by
      simp only [Iv.allGood, List.all_cons, List.all_nil, Iv.fair_empty, b]; decide
    unfold Iv.meet
    rw [if_neg (by rw [ag]; decide)]
    unfold Iv.bad at b
    unfold Iv.fair
    cases hm : x.may with
    | false => rfl
    | true =>
      rw [hm] at b
      simp at b
      rw [if_pos rfl]; exact (Iv.empty_may hm b).symm
  · have ag : Iv.allGood [x] = true := by
      simp only [Iv.allGood, List.all_cons, List.all_nil, Iv.fair_empty, r.good]; decide
    have g : Iv.goods [x] = [x] := by simp only [Iv.goods, r.fair, r.some]; rw [if_neg (by decide)]
    have e1 : Num.most [x.lo] = x.lo := by
      have s := Num.most_spec [x.lo] (by simp; exact r.loo)
      have k1 := s.2.2.1 x.lo (by simp)
      rw [Num.may_fair r.lom] at k1
      refine Num.val_inj s.1 r.lom s.2.1 r.loo ?_
      rcases s.2.2.2 with e | ⟨z, hz, e⟩
      · have := (Num.val_le r.lom r.loo).1
        rw [e, Num.val_inf] at k1 ⊢; simp at k1 ⊢; omega
      · simp at hz; subst hz; rw [e, Num.may_fair r.lom]
    have e2 : Num.least [x.hi] = x.hi := by
      have s := Num.least_spec [x.hi] (by simp; exact r.hio)
      have k1 := s.2.2.1 x.hi (by simp)
      rw [Num.may_fair r.him] at k1
      refine Num.val_inj s.1 r.him s.2.1 r.hio ?_
      rcases s.2.2.2 with e | ⟨z, hz, e⟩
      · have := (Num.val_le r.him r.hio).2
        rw [e, Num.val_inf] at k1 ⊢; simp at k1 ⊢; omega
      · simp at hz; subst hz; rw [e, Num.may_fair r.him]
    have : Iv.meet [x] = Iv.make (Num.most [x.lo]) (Num.least [x.hi]) := by
      unfold Iv.meet Iv.los Iv.his
      rw [if_pos ag, g]; rfl
    rw [this, e1, e2, r.fair, Iv.make_real (by rw [Num.may_fair r.lom, Num.may_fair r.him]; exact ⟨rfl, r.lom, r.him, r.loo, r.hio, r.le, r.lt, r.gt⟩), Num.may_fair r.lom, Num.may_fair r.him]
    have := r.some
    cases x; simp_all
theorem Iv.meet_one_in {x : Iv} (h : x.lo.ok ∧ x.hi.ok) : Iv.In (Iv.meet [x]) x := by
  rw [Iv.meet_one h]
  rcases Iv.bad_or_real h with b | r
  · left
    have : x.fair.empty = true := by rw [Iv.fair_empty]; exact b
    unfold Iv.bad; rw [this]; rfl
  · right; rw [r.fair]; exact r.self
theorem Iv.meet_one_real {x : Iv} (r : x.Real) : Iv.meet [x] = x := by rw [Iv.meet_one ⟨r.loo, r.hio⟩, r.fair]
theorem Iv.fair_of_bad {x : Iv} (h : x.bad = true) : x.fair = Iv.none := by
  unfold Iv.bad at h
  unfold Iv.fair
  cases hm : x.may with
  | false => rfl
  | true =>
    rw [hm] at h
    simp at h
    rw [if_pos rfl]; exact Iv.empty_may hm h

theorem Iv.hull_two {x y : Iv} (hx : x.lo.ok ∧ x.hi.ok) (hy : y.lo.ok ∧ y.hi.ok) :
    (x.bad = true ∧ y.bad = true ∧ Iv.hull [x, y] = Iv.none) ∨ (x.bad = true ∧ y.Real ∧ Iv.hull [x, y] = y) ∨ (x.Real ∧ y.bad = true ∧ Iv.hull [x, y] = x) ∨
      (x.Real ∧ y.Real ∧ Iv.hull [x, y] = Iv.make (Num.least [x.lo, y.lo]) (Num.most [x.hi, y.hi])) := by
  have one : ∀ {z : Iv}, z.Real → Iv.make (Num.least [z.lo]) (Num.most [z.hi]) = z := by
    intro x r
    have e1 : Num.least [x.lo] = x.lo := by
      have s := Num.least_spec [x.lo] (by simp; exact r.loo)
      have k1 := s.2.2.1 x.lo (by simp)
      rw [Num.may_fair r.lom] at k1
      refine Num.val_inj s.1 r.lom s.2.1 r.loo ?_
      rcases s.2.2.2 with e | ⟨z, hz, e⟩
      · have := (Num.val_le r.lom r.loo).2
        rw [e, Num.val_inf] at k1 ⊢; simp at k1 ⊢; omega
      · simp at hz; subst hz; rw [e, Num.may_fair r.lom]
    have e2 : Num.most [x.hi] = x.hi := by
      have s := Num.most_spec [x.hi] (by simp; exact r.hio)
      have k1 := s.2.2.1 x.hi (by simp)
      rw [Num.may_fair r.him] at k1
      refine Num.val_inj s.1 r.him s.2.1 r.hio ?_
      rcases s.2.2.2 with e | ⟨z, hz, e⟩
      · have := (Num.val_le r.him r.hio).1
        rw [e, Num.val_inf] at k1 ⊢; simp at k1 ⊢; omega
      · simp at hz; subst hz; rw [e, Num.may_fair r.him]
    rw [e1, e2, Iv.make_real (by rw [Num.may_fair r.lom, Num.may_fair r.him]; exact ⟨rfl, r.lom, r.him, r.loo, r.hio, r.le, r.lt, r.gt⟩), Num.may_fair r.lom, Num.may_fair r.him]
    have := r.some
    cases x; simp_all
  rcases Iv.bad_or_real hx with bx | rx
  · have fx : x.fair.empty = true := by rw [Iv.fair_empty]; exact bx
    rcases Iv.bad_or_real hy with by' | ry
    · have fy : y.fair.empty = true := by rw [Iv.fair_empty]; exact by'
      refine .inl ⟨bx, by', ?_⟩
      have g : Iv.goods [x, y] = [] := by simp only [Iv.goods, fx, fy, if_true]
      unfold Iv.hull Iv.los Iv.his; rw [g]; rfl
    · refine .inr (.inl ⟨bx, ry, ?_⟩)
      have g : Iv.goods [x, y] = [y] := by simp only [Iv.goods, fx, ry.fair, ry.some, if_true]; rw [if_neg (by decide)]
      have : Iv.hull [x, y] = Iv.make (Num.least [y.lo]) (Num.most [y.hi]) := by unfold Iv.hull Iv.los Iv.his; rw [g]; rfl
      rw [this]; exact one ry
  · rcases Iv.bad_or_real hy with by' | ry
    · have fy : y.fair.empty = true := by rw [Iv.fair_empty]; exact by'
      refine .inr (.inr (.inl ⟨rx, by', ?_⟩))
      have g : Iv.goods [x, y] = [x] := by simp only [Iv.goods, fy, rx.fair, rx.some, if_true]; rw [if_neg (by decide)]
      have : Iv.hull [x, y] = Iv.make (Num.least [x.lo]) (Num.most [x.hi]) := by unfold Iv.hull Iv.los Iv.his; rw [g]; rfl
      rw [this]; exact one rx
    · refine .inr (.inr (.inr ⟨rx, ry, ?_⟩))
      unfold Iv.hull Iv.los Iv.his; rw [Iv.goods_two rx ry]; rfl
theorem Iv.hull_real {x y : Iv} (rx : x.Real) (ry : y.Real) : ∃ l h : Num, Iv.hull [x, y] = ⟨false, l, h⟩ ∧ (Iv.mk false l h).Real ∧ l.val ≤ x.lo.val ∧ l.val ≤ y.lo.val ∧ (l = x.lo ∨ l = y.lo) ∧ x.hi.val ≤ h.val ∧ y.hi.val ≤ h.val ∧ (h = x.hi ∨ h = y.hi) := by
  obtain ⟨m1, m2, m3, m4, m5⟩ := Iv.most_two rx.him ry.him rx.hio ry.hio
  obtain ⟨l1, l2, l3, l4, l5⟩ := Iv.least_two rx.lom ry.lom rx.loo ry.loo
  rcases Iv.hull_two ⟨rx.loo, rx.hio⟩ ⟨ry.loo, ry.hio⟩ with ⟨b, -⟩ | ⟨b, -⟩ | ⟨-, b, -⟩ | ⟨-, -, e⟩
  · rw [rx.good] at b; cases b
  · rw [rx.good] at b; cases b
  · rw [ry.good] at b; cases b
  · have a1 := rx.le
    have a2 := rx.lt
    have a3 := rx.gt
    have R : (Iv.mk false (Num.least [x.lo, y.lo]) (Num.most [x.hi, y.hi])).Real := ⟨rfl, l1, m1, l2, m2, by show (Num.least [x.lo, y.lo]).val ≤ (Num.most [x.hi, y.hi]).val; omega, by show (Num.least [x.lo, y.lo]).val < _; omega, by show _ < (Num.most [x.hi, y.hi]).val; omega⟩
    refine ⟨_, _, ?_, R, l3, l4, l5, m3, m4, m5⟩
    rw [e, Iv.make_real (by rw [Num.may_fair l1, Num.may_fair m1]; exact R), Num.may_fair l1, Num.may_fair m1]
theorem Iv.hull_in {x y c : Iv} (hx : x.lo.ok ∧ x.hi.ok) (hy : y.lo.ok ∧ y.hi.ok) (px : Iv.In x c) (py : Iv.In y c) : Iv.In (Iv.hull [x, y]) c := by
  rcases Iv.hull_two hx hy with ⟨-, -, e⟩ | ⟨-, -, e⟩ | ⟨-, -, e⟩ | ⟨rx, ry, -⟩
  · rw [e]; exact .none
  · rw [e]; exact py
  · rw [e]; exact px
  · obtain ⟨l, h, e, R, -, -, l5, -, -, h5⟩ := Iv.hull_real rx ry
    rcases px with b | px
    · rw [rx.good] at b; cases b
    rcases py with b | py
    · rw [ry.good] at b; cases b
    rw [e]
    have p1 := px.lo
    have p2 := px.hi
    have p3 := py.lo
    have p4 := py.hi
    refine .inr ⟨R, px.rc, ?_, ?_⟩
    · show c.lo.val ≤ l.val; rcases l5 with rfl | rfl <;> omega
    · show h.val ≤ c.hi.val; rcases h5 with rfl | rfl <;> omega
end Go.Proofs.Ytincnfjihffllaa.Ev

/- What is left of operands, as functions of values; what is left is within what was there, and of an empty result nothing is left: plain Lean. -/
namespace Go.Proofs.Ytincnfjihffllaa.Ev
open Go

/-- an interval, and whether it has nought -/
structure Opd where
  iv : Iv
  nought : Bool
def Opd.of (x : Iv) : Opd := ⟨Iv.meet [x], Iv.has x Num.zero⟩
def Opd.part (x z y : Opd) : Opd := if (z.nought && y.nought) = true then x else Opd.of (Iv.meet [x.iv, Iv.div z.iv y.iv])
def bkPlus (z x y : Iv) : Iv × Iv := (Iv.meet [x, Iv.sub z y], Iv.meet [y, Iv.sub z (Iv.meet [x, Iv.sub z y])])
def bkMinus (z x y : Iv) : Iv × Iv := (Iv.meet [x, Iv.add [z, y]], Iv.meet [y, Iv.sub (Iv.meet [x, Iv.add [z, y]]) z])
def bkTimes (z x y : Iv) : Iv × Iv :=
  if (Opd.of z).iv.empty = true then (Iv.none, Iv.none)
  else ((Opd.part (Opd.of x) (Opd.of z) (Opd.of y)).iv, (Opd.part (Opd.of y) (Opd.of z) (Opd.part (Opd.of x) (Opd.of z) (Opd.of y))).iv)
/-- the divisor, but for the point nought -/
def Opd.by (y : Iv) : Opd := if (Opd.of y).iv = Iv.point Num.zero then Opd.of Iv.none else Opd.of y
def Opd.top (z x y : Iv) : Opd := Opd.of (Iv.meet [x, Iv.mul (Opd.of z).iv (Opd.by y).iv])
def bkOver (z x y : Iv) : Iv × Iv :=
  if (Opd.of z).iv.empty = true then (Iv.none, Iv.none)
  else ((Opd.top z x y).iv, (Opd.part (Opd.by y) (Opd.top z x y) (Opd.of z)).iv)
def bkSqr (z x : Iv) : Iv := Iv.hull [Iv.meet [x, Iv.root z], Iv.meet [x, Iv.neg (Iv.root z)]]
def bkRoot (z x : Iv) : Iv := Iv.meet [x, Iv.sqr (Iv.meet [z, Iv.positive])]
def bkNeg (z x : Iv) : Iv := Iv.meet [x, Iv.neg z]

abbrev Iv.fit (x : Iv) : Prop := x.lo.ok ∧ x.hi.ok
theorem Iv.meet2_ok {x y : Iv} (hx : x.fit) (hy : y.fit) : (Iv.meet [x, y]).fit := Iv.meet_ok (all2 hx hy)
theorem Iv.meet1_ok {x : Iv} (hx : x.fit) : (Iv.meet [x]).fit := Iv.meet_ok (all1 hx)
theorem Iv.add2_ok {x y : Iv} (hx : x.fit) (hy : y.fit) : (Iv.add [x, y]).fit := Iv.add_ok (all2 hx hy)
theorem Iv.sub_fit {x y : Iv} (hx : x.fit) (hy : y.fit) : (Iv.sub x y).fit := Iv.sub_ok hx hy
theorem Iv.div_fit {x y : Iv} (hx : x.fit) (hy : y.fit) : (Iv.div x y).fit := Iv.div_ok hx hy
theorem Iv.mul_fit {x y : Iv} (hx : x.fit) (hy : y.fit) : (Iv.mul x y).fit := Iv.mul_ok hx.1 hx.2 hy.1 hy.2
theorem Iv.none_fit : Iv.none.fit := ⟨Num.zero_ok, Num.zero_ok⟩
theorem Opd.of_fit {x : Iv} (h : x.fit) : (Opd.of x).iv.fit := Iv.meet1_ok h
theorem Opd.part_fit {x z y : Opd} (hx : x.iv.fit) (hz : z.iv.fit) (hy : y.iv.fit) : (Opd.part x z y).iv.fit := by
  unfold Opd.part
  split
  · exact hx
  · exact Opd.of_fit (Iv.meet2_ok hx (Iv.div_fit hz hy))
theorem Opd.by_fit {y : Iv} (h : y.fit) : (Opd.by y).iv.fit := by
  unfold Opd.by
  split
  · exact Opd.of_fit Iv.none_fit
  · exact Opd.of_fit h
theorem Opd.top_fit {z x y : Iv} (hz : z.fit) (hx : x.fit) (hy : y.fit) : (Opd.top z x y).iv.fit := Opd.of_fit (Iv.meet2_ok hx (Iv.mul_fit (Opd.of_fit hz) (Opd.by_fit hy)))
theorem Opd.of_in {x : Iv} (h : x.fit) : Iv.In (Opd.of x).iv x := Iv.meet_one_in h
theorem Opd.part_in {x z y : Opd} (hx : x.iv.fit) (hz : z.iv.fit) (hy : y.iv.fit) : Iv.In (Opd.part x z y).iv x.iv := by
  unfold Opd.part
  split
  · exact Iv.in_self hx
  · have f := Iv.meet2_ok hx (Iv.div_fit hz hy)
    exact (Opd.of_in f).trans (Iv.meet_in hx (Iv.div_fit hz hy)).1
theorem Opd.by_in {y : Iv} (h : y.fit) : Iv.In (Opd.by y).iv y := by
  unfold Opd.by
  split
  · rw [show (Opd.of Iv.none).iv = Iv.none by decide]; exact .none
  · exact Opd.of_in h

structure WithinB (z x y : Iv) : Prop where
  a : (bkPlus z x y).1.within x = true
  b : (bkPlus z x y).2.within y = true
  c : (bkMinus z x y).1.within x = true
  d : (bkMinus z x y).2.within y = true
  e : (bkTimes z x y).1.within x = true
  f : (bkTimes z x y).2.within y = true
  g : (bkOver z x y).1.within x = true
  h : (bkOver z x y).2.within y = true
  s : (bkSqr z x).within x = true
  r : (bkRoot z x).within x = true
  n : (bkNeg z x).within x = true
theorem withinB {z x y : Iv} (hz : z.fit) (hx : x.fit) (hy : y.fit) : WithinB z x y := by
  have s1 := Iv.sub_fit hz hy
  have a1 := Iv.add2_ok hz hy
  have rf := Iv.root_ok hz
  have nf := Iv.neg_ok rf.1 rf.2
  have pf : Iv.positive.fit := Iv.positive_ok
  have mp := Iv.meet2_ok hz pf
  refine ⟨?_, ?_, ?_, ?_, ?_, ?_, ?_, ?_, ?_, ?_, ?_⟩
  · exact (Iv.meet_in hx s1).1.within
  · exact (Iv.meet_in hy (Iv.sub_fit hz (Iv.meet2_ok hx s1))).1.within
  · exact (Iv.meet_in hx a1).1.within
  · exact (Iv.meet_in hy (Iv.sub_fit (Iv.meet2_ok hx a1) hz)).1.within
  · unfold bkTimes
    split
    · exact Iv.In.none.within
    · exact ((Opd.part_in (Opd.of_fit hx) (Opd.of_fit hz) (Opd.of_fit hy)).trans (Opd.of_in hx)).within
  · unfold bkTimes
    split
    · exact Iv.In.none.within
    · exact ((Opd.part_in (Opd.of_fit hy) (Opd.of_fit hz) (Opd.part_fit (Opd.of_fit hx) (Opd.of_fit hz) (Opd.of_fit hy))).trans (Opd.of_in hy)).within
  · unfold bkOver
    split
    · exact Iv.In.none.within
    · have m := Iv.mul_fit (Opd.of_fit hz) (Opd.by_fit hy)
      exact ((Opd.of_in (Iv.meet2_ok hx m)).trans (Iv.meet_in hx m).1).within
  · unfold bkOver
    split
    · exact Iv.In.none.within
    · exact ((Opd.part_in (Opd.by_fit hy) (Opd.top_fit hz hx hy) (Opd.of_fit hz)).trans (Opd.by_in hy)).within
  · exact (Iv.hull_in (Iv.meet2_ok hx rf) (Iv.meet2_ok hx nf) (Iv.meet_in hx rf).1 (Iv.meet_in hx nf).1).within
  · exact (Iv.meet_in hx (Iv.sqr_ok mp)).1.within
  · exact (Iv.meet_in hx (Iv.neg_ok hz.1 hz.2)).1.within

structure EmptyB (x y : Iv) : Prop where
  a : (bkPlus Iv.none x y).1.empty = true
  b : (bkPlus Iv.none x y).2.empty = true
  c : (bkMinus Iv.none x y).1.empty = true
  d : (bkMinus Iv.none x y).2.empty = true
  e : (bkTimes Iv.none x y).1.empty = true
  f : (bkTimes Iv.none x y).2.empty = true
  g : (bkOver Iv.none x y).1.empty = true
  h : (bkOver Iv.none x y).2.empty = true
  s : (bkSqr Iv.none x).empty = true
  r : (bkRoot Iv.none x).empty = true
  n : (bkNeg Iv.none x).empty = true
theorem Iv.add_none_l (y : Iv) : Iv.add [Iv.none, y] = Iv.none := by rw [Iv.add2_eq, Iv.none_bad]; rfl
theorem Iv.add_none_r (y : Iv) : Iv.add [y, Iv.none] = Iv.none := by rw [Iv.add2_eq, Iv.none_bad, Bool.or_true]; rfl
theorem Iv.sub_none_l (y : Iv) : Iv.sub Iv.none y = Iv.none := Iv.add_none_l _
theorem Iv.neg_none : Iv.neg Iv.none = Iv.none := by decide
theorem Iv.sub_none_r (y : Iv) : Iv.sub y Iv.none = Iv.none := by unfold Iv.sub; rw [Iv.neg_none]; exact Iv.add_none_r y
theorem Iv.meet_none_r (x : Iv) : Iv.meet [x, Iv.none] = Iv.none := Iv.meet_bad (.inr Iv.none_bad)
theorem Iv.meet_none_l (x : Iv) : Iv.meet [Iv.none, x] = Iv.none := Iv.meet_bad (.inl Iv.none_bad)
theorem emptyB (x y : Iv) : EmptyB x y := by
  have o : (Opd.of Iv.none).iv = Iv.none := by decide
  have t : bkTimes Iv.none x y = (Iv.none, Iv.none) := by unfold bkTimes; rw [o]; rfl
  have v : bkOver Iv.none x y = (Iv.none, Iv.none) := by unfold bkOver; rw [o]; rfl
  have rt : Iv.root Iv.none = Iv.none := by unfold Iv.root; rw [Iv.meet_none_l]; rfl
  refine ⟨?_, ?_, ?_, ?_, ?_, ?_, ?_, ?_, ?_, ?_, ?_⟩
  · unfold bkPlus; rw [Iv.sub_none_l, Iv.meet_none_r]; rfl
  · unfold bkPlus; simp only [Iv.sub_none_l, Iv.meet_none_r]; rfl
  · unfold bkMinus; rw [Iv.add_none_l, Iv.meet_none_r]; rfl
  · unfold bkMinus; simp only [Iv.sub_none_r, Iv.meet_none_r]; rfl
  · rw [t]; rfl
  · rw [t]; rfl
  · rw [v]; rfl
  · rw [v]; rfl
  · unfold bkSqr; rw [rt, Iv.neg_none, Iv.meet_none_r]; decide
  · unfold bkRoot; rw [Iv.meet_none_l, Iv.none_sqr, Iv.meet_none_r]; rfl
  · unfold bkNeg; rw [Iv.neg_none, Iv.meet_none_r]; rfl
end Go.Proofs.Ytincnfjihffllaa.Ev

/- Contracts: what is left of operands. Printed by gen.py out of C25.spec. -/
namespace Go.Proofs.Ytincnfjihffllaa.Ev
open Go Go.Proofs
set_option linter.unusedVariables false
set_option linter.unusedSimpArgs false
def Opd.av (x : Opd) : AV := .agg [.bool (.s x.iv.empty), .int .i64 (.s x.iv.lo.kind), .bool (.s x.iv.lo.neg), .int .u64 (.s x.iv.lo.m), .int .i64 (.s x.iv.lo.e),
  .int .i64 (.s x.iv.hi.kind), .bool (.s x.iv.hi.neg), .int .u64 (.s x.iv.hi.m), .int .i64 (.s x.iv.hi.e), .bool (.s x.nought)]
theorem slcG1 {a z : Iv} : sle2 (.slc 9 (.l 1) (fun i => getRow [a.cells] (Int.ofNat i))) (.slc 9 (.s 1) (fun i => Iv.cells ([a].getD i z))) := by
  refine ⟨rfl, rfl, fun i hi => ?_⟩
  match i, hi with
  | 0, _ => exact iv_cells_self
  | i + 1, hi => exact absurd hi (by simp [SI.val])
theorem iv_chain_iff {x y : Iv} : ((x.empty == y.empty && (decide (x.lo.kind = y.lo.kind) && (x.lo.neg == y.lo.neg && (decide (x.lo.m = y.lo.m) && (decide (x.lo.e = y.lo.e) &&
    (decide (x.hi.kind = y.hi.kind) && (x.hi.neg == y.hi.neg && (decide (x.hi.m = y.hi.m) && decide (x.hi.e = y.hi.e))))))))) : Bool) = decide (x = y) := by
  by_cases h : x = y
  · rw [decide_eq_true h]; exact iv_chain h
  · rw [decide_eq_false h]
    apply Bool.eq_false_iff.2
    intro k
    simp only [Bool.and_eq_true, decide_eq_true_eq, beq_iff_eq] at k
    obtain ⟨k1, k2, k3, k4, k5, k6, k7, k8, k9⟩ := k
    apply h
    obtain ⟨e, ⟨a1, a2, a3, a4⟩, ⟨b1, b2, b3, b4⟩⟩ := x
    obtain ⟨f, ⟨c1, c2, c3, c4⟩, ⟨d1, d2, d3, d4⟩⟩ := y
    simp only at k1 k2 k3 k4 k5 k6 k7 k8 k9
    subst k1 k2 k3 k4 k5 k6 k7 k8 k9
    rfl

theorem k_ivNone : ∃ t : Iv, (t = Iv.none ∧ (t.lo.ok ∧ t.hi.ok)) ∧ CallsA Try.prog 64 [] t.av :=
  withQ (p := fun t : Iv => t.lo.ok ∧ t.hi.ok) c_ivNone Iv.none_fit
set_option maxHeartbeats 4000000
set_option maxRecDepth 10000

theorem c_of (x : Iv) (hx : x.lo.ok ∧ x.hi.ok) : ∃ t : Opd, t = Opd.of x ∧ CallsA Try.prog 130 [x.av] t.av := by
  refine ⟨_, rfl, ?_⟩
  generalize hr : Opd.of x = r
  refine callsA_of hG hm Try.func130 (by kernel_rfl) ?_
  intro E hE lp hl
  cbv
  repeat' (first
    | (apply E_br_t hE; assumption; cbv)
    | (apply E_br_f hE; assumption; cbv)
    | (refine E_br hE (fun h => ?_) (fun h => ?_) <;> cbv)
    | (refine E_nm hE (fun v hv => ?_); cbv)
    | (apply E_callX hE (k_meet1 ⟨_, ⟨_, _, _, _⟩, ⟨_, _, _, _⟩⟩ ?_); (case hf => rfl); (case hc => (cbv <;> trivial)); (case hle => exact ⟨slcG1, trivial⟩); all_goals (first | (rintro t ⟨ht, ho⟩; cbv) | (first | assumption | exact Num.zero_ok | exact Iv.none_fit | exact Iv.positive_ok)))
    | (apply E_pcallX hE (k_meet1 ⟨_, ⟨_, _, _, _⟩, ⟨_, _, _, _⟩⟩ ?_); (case hm => rfl); (case hle => exact ⟨slcG1, trivial⟩); all_goals (first | (rintro t ⟨ht, ho⟩; cbv) | (first | assumption | exact Num.zero_ok | exact Iv.none_fit | exact Iv.positive_ok)))
    | (apply E_callX hE (c_ivHas ⟨_, ⟨_, _, _, _⟩, ⟨_, _, _, _⟩⟩ ⟨_, _, _, _⟩); (case hf => rfl); (case hc => (cbv <;> trivial)); (case hle => (repeat' (first | exact u_nil | apply u_cons | apply u2_agg | exact u2_int | exact u1_int | exact u2_bool | exact u1_bool | exact u2_sli | exact u1_sli | exact u2_s0 | exact u1_s0))); all_goals (first | (intro t ht; cbv) | (assumption)))
    | (apply E_pcallX hE (c_ivHas ⟨_, ⟨_, _, _, _⟩, ⟨_, _, _, _⟩⟩ ⟨_, _, _, _⟩); (case hm => rfl); (case hle => (repeat' (first | exact u_nil | apply u_cons | apply u2_agg | exact u2_int | exact u1_int | exact u2_bool | exact u1_bool | exact u2_sli | exact u1_sli | exact u2_s0 | exact u1_s0))); all_goals (first | (intro t ht; cbv) | (assumption)))
    | fail)
  subst_vars
  exact ⟨rfl, rfl, rfl, rfl, rfl, rfl, rfl, rfl, rfl, rfl, trivial⟩

theorem k_of (x : Iv) (hx : x.lo.ok ∧ x.hi.ok) : ∃ t : Opd, (t = Opd.of x ∧ (t.iv.lo.ok ∧ t.iv.hi.ok)) ∧ CallsA Try.prog 130 [x.av] t.av :=
  withQ (p := fun t : Opd => t.iv.lo.ok ∧ t.iv.hi.ok) (c_of x hx) (Opd.of_fit hx)

theorem c_part (x : Opd) (hx : x.iv.lo.ok ∧ x.iv.hi.ok) (z : Opd) (hz : z.iv.lo.ok ∧ z.iv.hi.ok) (y : Opd) (hy : y.iv.lo.ok ∧ y.iv.hi.ok) : ∃ t : Opd, t = Opd.part x z y ∧ CallsA Try.prog 131 [x.av, z.av, y.av] t.av := by
  refine ⟨_, rfl, ?_⟩
  generalize hr : Opd.part x z y = r
  refine callsA_of hG hm Try.func131 (by kernel_rfl) ?_
  intro E hE lp hl
  cbv
  repeat' (first
    | (apply E_br_t hE; assumption; cbv)
    | (apply E_br_f hE; assumption; cbv)
    | (refine E_br hE (fun h => ?_) (fun h => ?_) <;> cbv)
    | (refine E_nm hE (fun v hv => ?_); cbv)
    | (apply E_callX hE (k_opDiv ⟨_, ⟨_, _, _, _⟩, ⟨_, _, _, _⟩⟩ ?_ ⟨_, ⟨_, _, _, _⟩, ⟨_, _, _, _⟩⟩ ?_); (case hf => rfl); (case hc => (cbv <;> trivial)); (case hle => (repeat' (first | exact u_nil | apply u_cons | apply u2_agg | exact u2_int | exact u1_int | exact u2_bool | exact u1_bool | exact u2_sli | exact u1_sli | exact u2_s0 | exact u1_s0))); all_goals (first | (rintro t ⟨ht, ho⟩; cbv) | (first | assumption | exact Num.zero_ok | exact Iv.none_fit | exact Iv.positive_ok)))
    | (apply E_pcallX hE (k_opDiv ⟨_, ⟨_, _, _, _⟩, ⟨_, _, _, _⟩⟩ ?_ ⟨_, ⟨_, _, _, _⟩, ⟨_, _, _, _⟩⟩ ?_); (case hm => rfl); (case hle => (repeat' (first | exact u_nil | apply u_cons | apply u2_agg | exact u2_int | exact u1_int | exact u2_bool | exact u1_bool | exact u2_sli | exact u1_sli | exact u2_s0 | exact u1_s0))); all_goals (first | (rintro t ⟨ht, ho⟩; cbv) | (first | assumption | exact Num.zero_ok | exact Iv.none_fit | exact Iv.positive_ok)))
    | (apply E_callX hE (k_meet2 ⟨_, ⟨_, _, _, _⟩, ⟨_, _, _, _⟩⟩ ?_ ⟨_, ⟨_, _, _, _⟩, ⟨_, _, _, _⟩⟩ ?_); (case hf => rfl); (case hc => (cbv <;> trivial)); (case hle => exact ⟨slcG2, trivial⟩); all_goals (first | (rintro t ⟨ht, ho⟩; cbv) | (first | assumption | exact Num.zero_ok | exact Iv.none_fit | exact Iv.positive_ok)))
    | (apply E_pcallX hE (k_meet2 ⟨_, ⟨_, _, _, _⟩, ⟨_, _, _, _⟩⟩ ?_ ⟨_, ⟨_, _, _, _⟩, ⟨_, _, _, _⟩⟩ ?_); (case hm => rfl); (case hle => exact ⟨slcG2, trivial⟩); all_goals (first | (rintro t ⟨ht, ho⟩; cbv) | (first | assumption | exact Num.zero_ok | exact Iv.none_fit | exact Iv.positive_ok)))
    | (apply E_callX hE (k_of ⟨_, ⟨_, _, _, _⟩, ⟨_, _, _, _⟩⟩ ?_); (case hf => rfl); (case hc => (cbv <;> trivial)); (case hle => (repeat' (first | exact u_nil | apply u_cons | apply u2_agg | exact u2_int | exact u1_int | exact u2_bool | exact u1_bool | exact u2_sli | exact u1_sli | exact u2_s0 | exact u1_s0))); all_goals (first | (rintro t ⟨ht, ho⟩; cbv) | (first | assumption | exact Num.zero_ok | exact Iv.none_fit | exact Iv.positive_ok)))
    | (apply E_pcallX hE (k_of ⟨_, ⟨_, _, _, _⟩, ⟨_, _, _, _⟩⟩ ?_); (case hm => rfl); (case hle => (repeat' (first | exact u_nil | apply u_cons | apply u2_agg | exact u2_int | exact u1_int | exact u2_bool | exact u1_bool | exact u2_sli | exact u1_sli | exact u2_s0 | exact u1_s0))); all_goals (first | (rintro t ⟨ht, ho⟩; cbv) | (first | assumption | exact Num.zero_ok | exact Iv.none_fit | exact Iv.positive_ok)))
    | fail)
  all_goals subst hE
  all_goals (try simp only [realE, SB.val, Opd.part] at *)
  all_goals subst_vars
  all_goals (simp_all [Opd.part])

theorem k_part (x : Opd) (hx : x.iv.lo.ok ∧ x.iv.hi.ok) (z : Opd) (hz : z.iv.lo.ok ∧ z.iv.hi.ok) (y : Opd) (hy : y.iv.lo.ok ∧ y.iv.hi.ok) : ∃ t : Opd, (t = Opd.part x z y ∧ (t.iv.lo.ok ∧ t.iv.hi.ok)) ∧ CallsA Try.prog 131 [x.av, z.av, y.av] t.av :=
  withQ (p := fun t : Opd => t.iv.lo.ok ∧ t.iv.hi.ok) (c_part x hx z hz y hy) (Opd.part_fit hx hz hy)

theorem c_bkNeg (z : Iv) (hz : z.lo.ok ∧ z.hi.ok) (x : Iv) (hx : x.lo.ok ∧ x.hi.ok) : ∃ t : Iv, t = bkNeg z x ∧ CallsA Try.prog 63 [z.av, x.av] t.av := by
  refine ⟨_, rfl, ?_⟩
  generalize hr : bkNeg z x = r
  refine callsA_of hG hm Try.func63 (by kernel_rfl) ?_
  intro E hE lp hl
  cbv
  repeat' (first
    | (apply E_br_t hE; assumption; cbv)
    | (apply E_br_f hE; assumption; cbv)
    | (refine E_br hE (fun h => ?_) (fun h => ?_) <;> cbv)
    | (refine E_nm hE (fun v hv => ?_); cbv)
    | (apply E_callX hE (k_opNeg ⟨_, ⟨_, _, _, _⟩, ⟨_, _, _, _⟩⟩ ?_); (case hf => rfl); (case hc => (cbv <;> trivial)); (case hle => (repeat' (first | exact u_nil | apply u_cons | apply u2_agg | exact u2_int | exact u1_int | exact u2_bool | exact u1_bool | exact u2_sli | exact u1_sli | exact u2_s0 | exact u1_s0))); all_goals (first | (rintro t ⟨ht, ho⟩; cbv) | (first | assumption | exact Num.zero_ok | exact Iv.none_fit | exact Iv.positive_ok)))
    | (apply E_pcallX hE (k_opNeg ⟨_, ⟨_, _, _, _⟩, ⟨_, _, _, _⟩⟩ ?_); (case hm => rfl); (case hle => (repeat' (first | exact u_nil | apply u_cons | apply u2_agg | exact u2_int | exact u1_int | exact u2_bool | exact u1_bool | exact u2_sli | exact u1_sli | exact u2_s0 | exact u1_s0))); all_goals (first | (rintro t ⟨ht, ho⟩; cbv) | (first | assumption | exact Num.zero_ok | exact Iv.none_fit | exact Iv.positive_ok)))
    | (apply E_callX hE (k_meet2 ⟨_, ⟨_, _, _, _⟩, ⟨_, _, _, _⟩⟩ ?_ ⟨_, ⟨_, _, _, _⟩, ⟨_, _, _, _⟩⟩ ?_); (case hf => rfl); (case hc => (cbv <;> trivial)); (case hle => exact ⟨slcG2, trivial⟩); all_goals (first | (rintro t ⟨ht, ho⟩; cbv) | (first | assumption | exact Num.zero_ok | exact Iv.none_fit | exact Iv.positive_ok)))
    | (apply E_pcallX hE (k_meet2 ⟨_, ⟨_, _, _, _⟩, ⟨_, _, _, _⟩⟩ ?_ ⟨_, ⟨_, _, _, _⟩, ⟨_, _, _, _⟩⟩ ?_); (case hm => rfl); (case hle => exact ⟨slcG2, trivial⟩); all_goals (first | (rintro t ⟨ht, ho⟩; cbv) | (first | assumption | exact Num.zero_ok | exact Iv.none_fit | exact Iv.positive_ok)))
    | fail)
  subst_vars
  exact ⟨rfl, rfl, rfl, rfl, rfl, rfl, rfl, rfl, rfl, trivial⟩

theorem k_bkNeg (z : Iv) (hz : z.lo.ok ∧ z.hi.ok) (x : Iv) (hx : x.lo.ok ∧ x.hi.ok) : ∃ t : Iv, (t = bkNeg z x ∧ (t.lo.ok ∧ t.hi.ok)) ∧ CallsA Try.prog 63 [z.av, x.av] t.av :=
  withQ (p := fun t : Iv => t.lo.ok ∧ t.hi.ok) (c_bkNeg z hz x hx) (Iv.meet2_ok hx (Iv.neg_ok hz.1 hz.2))

theorem c_bkRoot (z : Iv) (hz : z.lo.ok ∧ z.hi.ok) (x : Iv) (hx : x.lo.ok ∧ x.hi.ok) : ∃ t : Iv, t = bkRoot z x ∧ CallsA Try.prog 62 [z.av, x.av] t.av := by
  refine ⟨_, rfl, ?_⟩
  generalize hr : bkRoot z x = r
  refine callsA_of hG hm Try.func62 (by kernel_rfl) ?_
  intro E hE lp hl
  cbv
  repeat' (first
    | (apply E_br_t hE; assumption; cbv)
    | (apply E_br_f hE; assumption; cbv)
    | (refine E_br hE (fun h => ?_) (fun h => ?_) <;> cbv)
    | (refine E_nm hE (fun v hv => ?_); cbv)
    | (apply E_callX hE (c_Inf _); (case hf => rfl); (case hc => (cbv <;> trivial)); (case hle => (repeat' (first | exact u_nil | apply u_cons | apply u2_agg | exact u2_int | exact u1_int | exact u2_bool | exact u1_bool | exact u2_sli | exact u1_sli | exact u2_s0 | exact u1_s0))); all_goals (first | (intro t ht; cbv) | (assumption)))
    | (apply E_pcallX hE (c_Inf _); (case hm => rfl); (case hle => (repeat' (first | exact u_nil | apply u_cons | apply u2_agg | exact u2_int | exact u1_int | exact u2_bool | exact u1_bool | exact u2_sli | exact u1_sli | exact u2_s0 | exact u1_s0))); all_goals (first | (intro t ht; cbv) | (assumption)))
    | (apply E_callX hE (k_ivMake ⟨_, _, _, _⟩ ?_ ⟨_, _, _, _⟩ ?_); (case hf => rfl); (case hc => (cbv <;> trivial)); (case hle => (repeat' (first | exact u_nil | apply u_cons | apply u2_agg | exact u2_int | exact u1_int | exact u2_bool | exact u1_bool | exact u2_sli | exact u1_sli | exact u2_s0 | exact u1_s0))); all_goals (first | (rintro t ⟨ht, ho⟩; cbv) | (first | exact Num.zero_ok | (subst_vars; exact Num.inf_ok _))))
    | (apply E_pcallX hE (k_ivMake ⟨_, _, _, _⟩ ?_ ⟨_, _, _, _⟩ ?_); (case hm => rfl); (case hle => (repeat' (first | exact u_nil | apply u_cons | apply u2_agg | exact u2_int | exact u1_int | exact u2_bool | exact u1_bool | exact u2_sli | exact u1_sli | exact u2_s0 | exact u1_s0))); all_goals (first | (rintro t ⟨ht, ho⟩; cbv) | (first | exact Num.zero_ok | (subst_vars; exact Num.inf_ok _))))
    | (apply E_callX hE (k_opSqr ⟨_, ⟨_, _, _, _⟩, ⟨_, _, _, _⟩⟩ ?_); (case hf => rfl); (case hc => (cbv <;> trivial)); (case hle => (repeat' (first | exact u_nil | apply u_cons | apply u2_agg | exact u2_int | exact u1_int | exact u2_bool | exact u1_bool | exact u2_sli | exact u1_sli | exact u2_s0 | exact u1_s0))); all_goals (first | (rintro t ⟨ht, ho⟩; cbv) | (first | assumption | exact Num.zero_ok | exact Iv.none_fit | exact Iv.positive_ok)))
    | (apply E_pcallX hE (k_opSqr ⟨_, ⟨_, _, _, _⟩, ⟨_, _, _, _⟩⟩ ?_); (case hm => rfl); (case hle => (repeat' (first | exact u_nil | apply u_cons | apply u2_agg | exact u2_int | exact u1_int | exact u2_bool | exact u1_bool | exact u2_sli | exact u1_sli | exact u2_s0 | exact u1_s0))); all_goals (first | (rintro t ⟨ht, ho⟩; cbv) | (first | assumption | exact Num.zero_ok | exact Iv.none_fit | exact Iv.positive_ok)))
    | (apply E_callX hE (k_meet2 ⟨_, ⟨_, _, _, _⟩, ⟨_, _, _, _⟩⟩ ?_ ⟨_, ⟨_, _, _, _⟩, ⟨_, _, _, _⟩⟩ ?_); (case hf => rfl); (case hc => (cbv <;> trivial)); (case hle => exact ⟨slcG2, trivial⟩); all_goals (first | (rintro t ⟨ht, ho⟩; cbv) | (first | assumption | exact Num.zero_ok | exact Iv.none_fit | exact Iv.positive_ok)))
    | (apply E_pcallX hE (k_meet2 ⟨_, ⟨_, _, _, _⟩, ⟨_, _, _, _⟩⟩ ?_ ⟨_, ⟨_, _, _, _⟩, ⟨_, _, _, _⟩⟩ ?_); (case hm => rfl); (case hle => exact ⟨slcG2, trivial⟩); all_goals (first | (rintro t ⟨ht, ho⟩; cbv) | (first | assumption | exact Num.zero_ok | exact Iv.none_fit | exact Iv.positive_ok)))
    | fail)
  subst_vars
  exact ⟨rfl, rfl, rfl, rfl, rfl, rfl, rfl, rfl, rfl, trivial⟩

theorem k_bkRoot (z : Iv) (hz : z.lo.ok ∧ z.hi.ok) (x : Iv) (hx : x.lo.ok ∧ x.hi.ok) : ∃ t : Iv, (t = bkRoot z x ∧ (t.lo.ok ∧ t.hi.ok)) ∧ CallsA Try.prog 62 [z.av, x.av] t.av :=
  withQ (p := fun t : Iv => t.lo.ok ∧ t.hi.ok) (c_bkRoot z hz x hx) (Iv.meet2_ok hx (Iv.sqr_ok (Iv.meet2_ok hz Iv.positive_ok)))

theorem c_bkSqr (z : Iv) (hz : z.lo.ok ∧ z.hi.ok) (x : Iv) (hx : x.lo.ok ∧ x.hi.ok) : ∃ t : Iv, t = bkSqr z x ∧ CallsA Try.prog 60 [z.av, x.av] t.av := by
  refine ⟨_, rfl, ?_⟩
  generalize hr : bkSqr z x = r
  refine callsA_of hG hm Try.func60 (by kernel_rfl) ?_
  intro E hE lp hl
  cbv
  repeat' (first
    | (apply E_br_t hE; assumption; cbv)
    | (apply E_br_f hE; assumption; cbv)
    | (refine E_br hE (fun h => ?_) (fun h => ?_) <;> cbv)
    | (refine E_nm hE (fun v hv => ?_); cbv)
    | (apply E_callX hE (k_opRoot ⟨_, ⟨_, _, _, _⟩, ⟨_, _, _, _⟩⟩ ?_); (case hf => rfl); (case hc => (cbv <;> trivial)); (case hle => (repeat' (first | exact u_nil | apply u_cons | apply u2_agg | exact u2_int | exact u1_int | exact u2_bool | exact u1_bool | exact u2_sli | exact u1_sli | exact u2_s0 | exact u1_s0))); all_goals (first | (rintro t ⟨ht, ho⟩; cbv) | (first | assumption | exact Num.zero_ok | exact Iv.none_fit | exact Iv.positive_ok)))
    | (apply E_pcallX hE (k_opRoot ⟨_, ⟨_, _, _, _⟩, ⟨_, _, _, _⟩⟩ ?_); (case hm => rfl); (case hle => (repeat' (first | exact u_nil | apply u_cons | apply u2_agg | exact u2_int | exact u1_int | exact u2_bool | exact u1_bool | exact u2_sli | exact u1_sli | exact u2_s0 | exact u1_s0))); all_goals (first | (rintro t ⟨ht, ho⟩; cbv) | (first | assumption | exact Num.zero_ok | exact Iv.none_fit | exact Iv.positive_ok)))
    | (apply E_callX hE (k_opNeg ⟨_, ⟨_, _, _, _⟩, ⟨_, _, _, _⟩⟩ ?_); (case hf => rfl); (case hc => (cbv <;> trivial)); (case hle => (repeat' (first | exact u_nil | apply u_cons | apply u2_agg | exact u2_int | exact u1_int | exact u2_bool | exact u1_bool | exact u2_sli | exact u1_sli | exact u2_s0 | exact u1_s0))); all_goals (first | (rintro t ⟨ht, ho⟩; cbv) | (first | assumption | exact Num.zero_ok | exact Iv.none_fit | exact Iv.positive_ok)))
    | (apply E_pcallX hE (k_opNeg ⟨_, ⟨_, _, _, _⟩, ⟨_, _, _, _⟩⟩ ?_); (case hm => rfl); (case hle => (repeat' (first | exact u_nil | apply u_cons | apply u2_agg | exact u2_int | exact u1_int | exact u2_bool | exact u1_bool | exact u2_sli | exact u1_sli | exact u2_s0 | exact u1_s0))); all_goals (first | (rintro t ⟨ht, ho⟩; cbv) | (first | assumption | exact Num.zero_ok | exact Iv.none_fit | exact Iv.positive_ok)))
    | (apply E_callX hE (k_meet2 ⟨_, ⟨_, _, _, _⟩, ⟨_, _, _, _⟩⟩ ?_ ⟨_, ⟨_, _, _, _⟩, ⟨_, _, _, _⟩⟩ ?_); (case hf => rfl); (case hc => (cbv <;> trivial)); (case hle => exact ⟨slcG2, trivial⟩); all_goals (first | (rintro t ⟨ht, ho⟩; cbv) | (first | assumption | exact Num.zero_ok | exact Iv.none_fit | exact Iv.positive_ok)))
    | (apply E_pcallX hE (k_meet2 ⟨_, ⟨_, _, _, _⟩, ⟨_, _, _, _⟩⟩ ?_ ⟨_, ⟨_, _, _, _⟩, ⟨_, _, _, _⟩⟩ ?_); (case hm => rfl); (case hle => exact ⟨slcG2, trivial⟩); all_goals (first | (rintro t ⟨ht, ho⟩; cbv) | (first | assumption | exact Num.zero_ok | exact Iv.none_fit | exact Iv.positive_ok)))
    | (apply E_callX hE (k_hull2 ⟨_, ⟨_, _, _, _⟩, ⟨_, _, _, _⟩⟩ ?_ ⟨_, ⟨_, _, _, _⟩, ⟨_, _, _, _⟩⟩ ?_); (case hf => rfl); (case hc => (cbv <;> trivial)); (case hle => exact ⟨slcG2, trivial⟩); all_goals (first | (rintro t ⟨ht, ho⟩; cbv) | (first | assumption | exact Num.zero_ok | exact Iv.none_fit | exact Iv.positive_ok)))
    | (apply E_pcallX hE (k_hull2 ⟨_, ⟨_, _, _, _⟩, ⟨_, _, _, _⟩⟩ ?_ ⟨_, ⟨_, _, _, _⟩, ⟨_, _, _, _⟩⟩ ?_); (case hm => rfl); (case hle => exact ⟨slcG2, trivial⟩); all_goals (first | (rintro t ⟨ht, ho⟩; cbv) | (first | assumption | exact Num.zero_ok | exact Iv.none_fit | exact Iv.positive_ok)))
    | fail)
  subst_vars
  exact ⟨rfl, rfl, rfl, rfl, rfl, rfl, rfl, rfl, rfl, trivial⟩

theorem k_bkSqr (z : Iv) (hz : z.lo.ok ∧ z.hi.ok) (x : Iv) (hx : x.lo.ok ∧ x.hi.ok) : ∃ t : Iv, (t = bkSqr z x ∧ (t.lo.ok ∧ t.hi.ok)) ∧ CallsA Try.prog 60 [z.av, x.av] t.av :=
  withQ (p := fun t : Iv => t.lo.ok ∧ t.hi.ok) (c_bkSqr z hz x hx) (Iv.hull_ok (all2 (Iv.meet2_ok hx (Iv.root_ok hz)) (Iv.meet2_ok hx (Iv.neg_ok (Iv.root_ok hz).1 (Iv.root_ok hz).2))))

theorem c_bkPlus (z : Iv) (hz : z.lo.ok ∧ z.hi.ok) (x : Iv) (hx : x.lo.ok ∧ x.hi.ok) (y : Iv) (hy : y.lo.ok ∧ y.hi.ok) : ∃ t : Iv × Iv, t = bkPlus z x y ∧ CallsA Try.prog 57 [z.av, x.av, y.av] (.tup [t.1.av, t.2.av]) := by
  refine ⟨_, rfl, ?_⟩
  generalize hr : bkPlus z x y = r
  refine callsA_of hG hm Try.func57 (by kernel_rfl) ?_
  intro E hE lp hl
  cbv
  repeat' (first
    | (apply E_br_t hE; assumption; cbv)
    | (apply E_br_f hE; assumption; cbv)
    | (refine E_br hE (fun h => ?_) (fun h => ?_) <;> cbv)
    | (refine E_nm hE (fun v hv => ?_); cbv)
    | (apply E_callX hE (k_opSub ⟨_, ⟨_, _, _, _⟩, ⟨_, _, _, _⟩⟩ ?_ ⟨_, ⟨_, _, _, _⟩, ⟨_, _, _, _⟩⟩ ?_); (case hf => rfl); (case hc => (cbv <;> trivial)); (case hle => (repeat' (first | exact u_nil | apply u_cons | apply u2_agg | exact u2_int | exact u1_int | exact u2_bool | exact u1_bool | exact u2_sli | exact u1_sli | exact u2_s0 | exact u1_s0))); all_goals (first | (rintro t ⟨ht, ho⟩; cbv) | (first | assumption | exact Num.zero_ok | exact Iv.none_fit | exact Iv.positive_ok)))
    | (apply E_pcallX hE (k_opSub ⟨_, ⟨_, _, _, _⟩, ⟨_, _, _, _⟩⟩ ?_ ⟨_, ⟨_, _, _, _⟩, ⟨_, _, _, _⟩⟩ ?_); (case hm => rfl); (case hle => (repeat' (first | exact u_nil | apply u_cons | apply u2_agg | exact u2_int | exact u1_int | exact u2_bool | exact u1_bool | exact u2_sli | exact u1_sli | exact u2_s0 | exact u1_s0))); all_goals (first | (rintro t ⟨ht, ho⟩; cbv) | (first | assumption | exact Num.zero_ok | exact Iv.none_fit | exact Iv.positive_ok)))
    | (apply E_callX hE (k_meet2 ⟨_, ⟨_, _, _, _⟩, ⟨_, _, _, _⟩⟩ ?_ ⟨_, ⟨_, _, _, _⟩, ⟨_, _, _, _⟩⟩ ?_); (case hf => rfl); (case hc => (cbv <;> trivial)); (case hle => exact ⟨slcG2, trivial⟩); all_goals (first | (rintro t ⟨ht, ho⟩; cbv) | (first | assumption | exact Num.zero_ok | exact Iv.none_fit | exact Iv.positive_ok)))
    | (apply E_pcallX hE (k_meet2 ⟨_, ⟨_, _, _, _⟩, ⟨_, _, _, _⟩⟩ ?_ ⟨_, ⟨_, _, _, _⟩, ⟨_, _, _, _⟩⟩ ?_); (case hm => rfl); (case hle => exact ⟨slcG2, trivial⟩); all_goals (first | (rintro t ⟨ht, ho⟩; cbv) | (first | assumption | exact Num.zero_ok | exact Iv.none_fit | exact Iv.positive_ok)))
    | fail)
  all_goals simp only [Num.eta, Iv.eta] at *
  subst_vars
  exact ⟨⟨rfl, rfl, rfl, rfl, rfl, rfl, rfl, rfl, rfl, trivial⟩, ⟨rfl, rfl, rfl, rfl, rfl, rfl, rfl, rfl, rfl, trivial⟩, trivial⟩

theorem k_bkPlus (z : Iv) (hz : z.lo.ok ∧ z.hi.ok) (x : Iv) (hx : x.lo.ok ∧ x.hi.ok) (y : Iv) (hy : y.lo.ok ∧ y.hi.ok) : ∃ t : Iv × Iv, (t = bkPlus z x y ∧ ((t.1.lo.ok ∧ t.1.hi.ok) ∧ (t.2.lo.ok ∧ t.2.hi.ok))) ∧ CallsA Try.prog 57 [z.av, x.av, y.av] (.tup [t.1.av, t.2.av]) :=
  withQ (p := fun t : Iv × Iv => (t.1.lo.ok ∧ t.1.hi.ok) ∧ (t.2.lo.ok ∧ t.2.hi.ok)) (c_bkPlus z hz x hx y hy) (⟨Iv.meet2_ok hx (Iv.sub_fit hz hy), Iv.meet2_ok hy (Iv.sub_fit hz (Iv.meet2_ok hx (Iv.sub_fit hz hy)))⟩)

theorem c_bkMinus (z : Iv) (hz : z.lo.ok ∧ z.hi.ok) (x : Iv) (hx : x.lo.ok ∧ x.hi.ok) (y : Iv) (hy : y.lo.ok ∧ y.hi.ok) : ∃ t : Iv × Iv, t = bkMinus z x y ∧ CallsA Try.prog 58 [z.av, x.av, y.av] (.tup [t.1.av, t.2.av]) := by
  refine ⟨_, rfl, ?_⟩
  generalize hr : bkMinus z x y = r
  refine callsA_of hG hm Try.func58 (by kernel_rfl) ?_
  intro E hE lp hl
  cbv
  repeat' (first
    | (apply E_br_t hE; assumption; cbv)
    | (apply E_br_f hE; assumption; cbv)
    | (refine E_br hE (fun h => ?_) (fun h => ?_) <;> cbv)
    | (refine E_nm hE (fun v hv => ?_); cbv)
    | (apply E_callX hE (k_opAdd2 ⟨_, ⟨_, _, _, _⟩, ⟨_, _, _, _⟩⟩ ?_ ⟨_, ⟨_, _, _, _⟩, ⟨_, _, _, _⟩⟩ ?_); (case hf => rfl); (case hc => (cbv <;> trivial)); (case hle => exact ⟨slcG2, trivial⟩); all_goals (first | (rintro t ⟨ht, ho⟩; cbv) | (first | assumption | exact Num.zero_ok | exact Iv.none_fit | exact Iv.positive_ok)))
    | (apply E_pcallX hE (k_opAdd2 ⟨_, ⟨_, _, _, _⟩, ⟨_, _, _, _⟩⟩ ?_ ⟨_, ⟨_, _, _, _⟩, ⟨_, _, _, _⟩⟩ ?_); (case hm => rfl); (case hle => exact ⟨slcG2, trivial⟩); all_goals (first | (rintro t ⟨ht, ho⟩; cbv) | (first | assumption | exact Num.zero_ok | exact Iv.none_fit | exact Iv.positive_ok)))
    | (apply E_callX hE (k_opSub ⟨_, ⟨_, _, _, _⟩, ⟨_, _, _, _⟩⟩ ?_ ⟨_, ⟨_, _, _, _⟩, ⟨_, _, _, _⟩⟩ ?_); (case hf => rfl); (case hc => (cbv <;> trivial)); (case hle => (repeat' (first | exact u_nil | apply u_cons | apply u2_agg | exact u2_int | exact u1_int | exact u2_bool | exact u1_bool | exact u2_sli | exact u1_sli | exact u2_s0 | exact u1_s0))); all_goals (first | (rintro t ⟨ht, ho⟩; cbv) | (first | assumption | exact Num.zero_ok | exact Iv.none_fit | exact Iv.positive_ok)))
    | (apply E_pcallX hE (k_opSub ⟨_, ⟨_, _, _, _⟩, ⟨_, _, _, _⟩⟩ ?_ ⟨_, ⟨_, _, _, _⟩, ⟨_, _, _, _⟩⟩ ?_); (case hm => rfl); (case hle => (repeat' (first | exact u_nil | apply u_cons | apply u2_agg | exact u2_int | exact u1_int | exact u2_bool | exact u1_bool | exact u2_sli | exact u1_sli | exact u2_s0 | exact u1_s0))); all_goals (first | (rintro t ⟨ht, ho⟩; cbv) | (first | assumption | exact Num.zero_ok | exact Iv.none_fit | exact Iv.positive_ok)))
    | (apply E_callX hE (k_meet2 ⟨_, ⟨_, _, _, _⟩, ⟨_, _, _, _⟩⟩ ?_ ⟨_, ⟨_, _, _, _⟩, ⟨_, _, _, _⟩⟩ ?_); (case hf => rfl); (case hc => (cbv <;> trivial)); (case hle => exact ⟨slcG2, trivial⟩); all_goals (first | (rintro t ⟨ht, ho⟩; cbv) | (first | assumption | exact Num.zero_ok | exact Iv.none_fit | exact Iv.positive_ok)))
    | (apply E_pcallX hE (k_meet2 ⟨_, ⟨_, _, _, _⟩, ⟨_, _, _, _⟩⟩ ?_ ⟨_, ⟨_, _, _, _⟩, ⟨_, _, _, _⟩⟩ ?_); (case hm => rfl); (case hle => exact ⟨slcG2, trivial⟩); all_goals (first | (rintro t ⟨ht, ho⟩; cbv) | (first | assumption | exact Num.zero_ok | exact Iv.none_fit | exact Iv.positive_ok)))
    | fail)
  all_goals simp only [Num.eta, Iv.eta] at *
  subst_vars
  exact ⟨⟨rfl, rfl, rfl, rfl, rfl, rfl, rfl, rfl, rfl, trivial⟩, ⟨rfl, rfl, rfl, rfl, rfl, rfl, rfl, rfl, rfl, trivial⟩, trivial⟩

theorem k_bkMinus (z : Iv) (hz : z.lo.ok ∧ z.hi.ok) (x : Iv) (hx : x.lo.ok ∧ x.hi.ok) (y : Iv) (hy : y.lo.ok ∧ y.hi.ok) : ∃ t : Iv × Iv, (t = bkMinus z x y ∧ ((t.1.lo.ok ∧ t.1.hi.ok) ∧ (t.2.lo.ok ∧ t.2.hi.ok))) ∧ CallsA Try.prog 58 [z.av, x.av, y.av] (.tup [t.1.av, t.2.av]) :=
  withQ (p := fun t : Iv × Iv => (t.1.lo.ok ∧ t.1.hi.ok) ∧ (t.2.lo.ok ∧ t.2.hi.ok)) (c_bkMinus z hz x hx y hy) (⟨Iv.meet2_ok hx (Iv.add2_ok hz hy), Iv.meet2_ok hy (Iv.sub_fit (Iv.meet2_ok hx (Iv.add2_ok hz hy)) hz)⟩)

theorem bkTimes_fit {z x y : Iv} (hz : z.fit) (hx : x.fit) (hy : y.fit) : (bkTimes z x y).1.fit ∧ (bkTimes z x y).2.fit := by
  unfold bkTimes
  split
  · exact ⟨Iv.none_fit, Iv.none_fit⟩
  · have p := Opd.part_fit (Opd.of_fit hx) (Opd.of_fit hz) (Opd.of_fit hy)
    exact ⟨p, Opd.part_fit (Opd.of_fit hy) (Opd.of_fit hz) p⟩
theorem bkOver_fit {z x y : Iv} (hz : z.fit) (hx : x.fit) (hy : y.fit) : (bkOver z x y).1.fit ∧ (bkOver z x y).2.fit := by
  unfold bkOver
  split
  · exact ⟨Iv.none_fit, Iv.none_fit⟩
  · have p := Opd.top_fit hz hx hy
    exact ⟨p, Opd.part_fit (Opd.by_fit hy) p (Opd.of_fit hz)⟩
theorem times_then {z x y : Iv} (h : (Opd.of z).iv.empty = true) : bkTimes z x y = (Iv.none, Iv.none) := by unfold bkTimes; rw [if_pos h]
theorem times_else {z x y : Iv} (h : (Opd.of z).iv.empty = false) : bkTimes z x y = ((Opd.part (Opd.of x) (Opd.of z) (Opd.of y)).iv, (Opd.part (Opd.of y) (Opd.of z) (Opd.part (Opd.of x) (Opd.of z) (Opd.of y))).iv) := by
  unfold bkTimes; rw [if_neg (by rw [h]; decide)]
theorem over_then {z x y : Iv} (h : (Opd.of z).iv.empty = true) : bkOver z x y = (Iv.none, Iv.none) := by unfold bkOver; rw [if_pos h]
theorem over_else {z x y : Iv} {b a : Opd} (h : (Opd.of z).iv.empty = false) (hb : b = Opd.by y) (ha : a = Opd.of (Iv.meet [x, Iv.mul (Opd.of z).iv b.iv])) : bkOver z x y = (a.iv, (Opd.part b a (Opd.of z)).iv) := by
  unfold bkOver; rw [if_neg (by rw [h]; decide)]; subst hb; subst ha; rfl
theorem by_then {y : Iv} (h : decide ((Opd.of y).iv = Iv.point Num.zero) = true) : Opd.of Iv.none = Opd.by y := by unfold Opd.by; rw [if_pos (of_decide_eq_true h)]
theorem by_else {y : Iv} (h : decide ((Opd.of y).iv = Iv.point Num.zero) = false) : Opd.of y = Opd.by y := by unfold Opd.by; rw [if_neg (of_decide_eq_false h)]

theorem c_bkTimes (z : Iv) (hz : z.lo.ok ∧ z.hi.ok) (x : Iv) (hx : x.lo.ok ∧ x.hi.ok) (y : Iv) (hy : y.lo.ok ∧ y.hi.ok) : ∃ t : Iv × Iv, t = bkTimes z x y ∧ CallsA Try.prog 59 [z.av, x.av, y.av] (.tup [t.1.av, t.2.av]) := by
  refine ⟨_, rfl, ?_⟩
  generalize hr : bkTimes z x y = r
  refine callsA_of hG hm Try.func59 (by kernel_rfl) ?_
  intro E hE lp hl
  cbv
  repeat' (first
    | (apply E_br_t hE; assumption; cbv)
    | (apply E_br_f hE; assumption; cbv)
    | (refine E_br hE (fun h => ?_) (fun h => ?_) <;> cbv)
    | (refine E_nm hE (fun v hv => ?_); cbv)
    | (apply E_callX hE (k_of ⟨_, ⟨_, _, _, _⟩, ⟨_, _, _, _⟩⟩ ?_); (case hf => rfl); (case hc => (cbv <;> trivial)); (case hle => (repeat' (first | exact u_nil | apply u_cons | apply u2_agg | exact u2_int | exact u1_int | exact u2_bool | exact u1_bool | exact u2_sli | exact u1_sli | exact u2_s0 | exact u1_s0))); all_goals (first | (rintro t ⟨ht, ho⟩; cbv) | (first | assumption | exact Num.zero_ok | exact Iv.none_fit | exact Iv.positive_ok)))
    | (apply E_pcallX hE (k_of ⟨_, ⟨_, _, _, _⟩, ⟨_, _, _, _⟩⟩ ?_); (case hm => rfl); (case hle => (repeat' (first | exact u_nil | apply u_cons | apply u2_agg | exact u2_int | exact u1_int | exact u2_bool | exact u1_bool | exact u2_sli | exact u1_sli | exact u2_s0 | exact u1_s0))); all_goals (first | (rintro t ⟨ht, ho⟩; cbv) | (first | assumption | exact Num.zero_ok | exact Iv.none_fit | exact Iv.positive_ok)))
    | (apply E_callX hE (k_ivNone); (case hf => rfl); (case hc => (cbv <;> trivial)); (case hle => (repeat' (first | exact u_nil | apply u_cons | apply u2_agg | exact u2_int | exact u1_int | exact u2_bool | exact u1_bool | exact u2_sli | exact u1_sli | exact u2_s0 | exact u1_s0))); all_goals (first | (rintro t ⟨ht, ho⟩; cbv) | (first | assumption | exact Num.zero_ok | exact Iv.none_fit | exact Iv.positive_ok)))
    | (apply E_pcallX hE (k_ivNone); (case hm => rfl); (case hle => (repeat' (first | exact u_nil | apply u_cons | apply u2_agg | exact u2_int | exact u1_int | exact u2_bool | exact u1_bool | exact u2_sli | exact u1_sli | exact u2_s0 | exact u1_s0))); all_goals (first | (rintro t ⟨ht, ho⟩; cbv) | (first | assumption | exact Num.zero_ok | exact Iv.none_fit | exact Iv.positive_ok)))
    | (apply E_callX hE (k_part ⟨⟨_, ⟨_, _, _, _⟩, ⟨_, _, _, _⟩⟩, _⟩ ?_ ⟨⟨_, ⟨_, _, _, _⟩, ⟨_, _, _, _⟩⟩, _⟩ ?_ ⟨⟨_, ⟨_, _, _, _⟩, ⟨_, _, _, _⟩⟩, _⟩ ?_); (case hf => rfl); (case hc => (cbv <;> trivial)); (case hle => (repeat' (first | exact u_nil | apply u_cons | apply u2_agg | exact u2_int | exact u1_int | exact u2_bool | exact u1_bool | exact u2_sli | exact u1_sli | exact u2_s0 | exact u1_s0))); all_goals (first | (rintro t ⟨ht, ho⟩; cbv) | (first | assumption | exact Num.zero_ok | exact Iv.none_fit | exact Iv.positive_ok)))
    | (apply E_pcallX hE (k_part ⟨⟨_, ⟨_, _, _, _⟩, ⟨_, _, _, _⟩⟩, _⟩ ?_ ⟨⟨_, ⟨_, _, _, _⟩, ⟨_, _, _, _⟩⟩, _⟩ ?_ ⟨⟨_, ⟨_, _, _, _⟩, ⟨_, _, _, _⟩⟩, _⟩ ?_); (case hm => rfl); (case hle => (repeat' (first | exact u_nil | apply u_cons | apply u2_agg | exact u2_int | exact u1_int | exact u2_bool | exact u1_bool | exact u2_sli | exact u1_sli | exact u2_s0 | exact u1_s0))); all_goals (first | (rintro t ⟨ht, ho⟩; cbv) | (first | assumption | exact Num.zero_ok | exact Iv.none_fit | exact Iv.positive_ok)))
    | fail)
  all_goals subst hE
  all_goals (try simp only [realE, SB.val, Num.eta, Iv.eta] at *)
  all_goals subst_vars
  · rw [times_then ‹_›]; exact ⟨⟨rfl, rfl, rfl, rfl, rfl, rfl, rfl, rfl, rfl, trivial⟩, ⟨rfl, rfl, rfl, rfl, rfl, rfl, rfl, rfl, rfl, trivial⟩, trivial⟩
  · rw [times_else ‹_›]; exact ⟨⟨rfl, rfl, rfl, rfl, rfl, rfl, rfl, rfl, rfl, trivial⟩, ⟨rfl, rfl, rfl, rfl, rfl, rfl, rfl, rfl, rfl, trivial⟩, trivial⟩

theorem k_bkTimes (z : Iv) (hz : z.lo.ok ∧ z.hi.ok) (x : Iv) (hx : x.lo.ok ∧ x.hi.ok) (y : Iv) (hy : y.lo.ok ∧ y.hi.ok) : ∃ t : Iv × Iv, (t = bkTimes z x y ∧ ((t.1.lo.ok ∧ t.1.hi.ok) ∧ (t.2.lo.ok ∧ t.2.hi.ok))) ∧ CallsA Try.prog 59 [z.av, x.av, y.av] (.tup [t.1.av, t.2.av]) :=
  withQ (p := fun t : Iv × Iv => (t.1.lo.ok ∧ t.1.hi.ok) ∧ (t.2.lo.ok ∧ t.2.hi.ok)) (c_bkTimes z hz x hx y hy) (bkTimes_fit hz hx hy)

theorem c_bkOver (z : Iv) (hz : z.lo.ok ∧ z.hi.ok) (x : Iv) (hx : x.lo.ok ∧ x.hi.ok) (y : Iv) (hy : y.lo.ok ∧ y.hi.ok) : ∃ t : Iv × Iv, t = bkOver z x y ∧ CallsA Try.prog 61 [z.av, x.av, y.av] (.tup [t.1.av, t.2.av]) := by
  refine ⟨_, rfl, ?_⟩
  generalize hr : bkOver z x y = r
  refine callsA_of hG hm Try.func61 (by kernel_rfl) ?_
  intro E hE lp hl
  cbv
  repeat' (first
    | (apply E_br_t hE; assumption; cbv)
    | (apply E_br_f hE; assumption; cbv)
    | (refine E_br hE (fun h => ?_) (fun h => ?_) <;> cbv)
    | (refine E_nm hE (fun v hv => ?_); cbv)
    | (apply E_callX hE (k_of ⟨_, ⟨_, _, _, _⟩, ⟨_, _, _, _⟩⟩ ?_); (case hf => rfl); (case hc => (cbv <;> trivial)); (case hle => (repeat' (first | exact u_nil | apply u_cons | apply u2_agg | exact u2_int | exact u1_int | exact u2_bool | exact u1_bool | exact u2_sli | exact u1_sli | exact u2_s0 | exact u1_s0))); all_goals (first | (rintro t ⟨ht, ho⟩; cbv) | (first | assumption | exact Num.zero_ok | exact Iv.none_fit | exact Iv.positive_ok)))
    | (apply E_pcallX hE (k_of ⟨_, ⟨_, _, _, _⟩, ⟨_, _, _, _⟩⟩ ?_); (case hm => rfl); (case hle => (repeat' (first | exact u_nil | apply u_cons | apply u2_agg | exact u2_int | exact u1_int | exact u2_bool | exact u1_bool | exact u2_sli | exact u1_sli | exact u2_s0 | exact u1_s0))); all_goals (first | (rintro t ⟨ht, ho⟩; cbv) | (first | assumption | exact Num.zero_ok | exact Iv.none_fit | exact Iv.positive_ok)))
    | (apply E_callX hE (k_ivNone); (case hf => rfl); (case hc => (cbv <;> trivial)); (case hle => (repeat' (first | exact u_nil | apply u_cons | apply u2_agg | exact u2_int | exact u1_int | exact u2_bool | exact u1_bool | exact u2_sli | exact u1_sli | exact u2_s0 | exact u1_s0))); all_goals (first | (rintro t ⟨ht, ho⟩; cbv) | (first | assumption | exact Num.zero_ok | exact Iv.none_fit | exact Iv.positive_ok)))
    | (apply E_pcallX hE (k_ivNone); (case hm => rfl); (case hle => (repeat' (first | exact u_nil | apply u_cons | apply u2_agg | exact u2_int | exact u1_int | exact u2_bool | exact u1_bool | exact u2_sli | exact u1_sli | exact u2_s0 | exact u1_s0))); all_goals (first | (rintro t ⟨ht, ho⟩; cbv) | (first | assumption | exact Num.zero_ok | exact Iv.none_fit | exact Iv.positive_ok)))
    | (apply E_callX hE (k_ivPoint ⟨_, _, _, _⟩ ?_); (case hf => rfl); (case hc => (cbv <;> trivial)); (case hle => (repeat' (first | exact u_nil | apply u_cons | apply u2_agg | exact u2_int | exact u1_int | exact u2_bool | exact u1_bool | exact u2_sli | exact u1_sli | exact u2_s0 | exact u1_s0))); all_goals (first | (rintro t ⟨ht, ho⟩; cbv) | (first | assumption | exact Num.zero_ok | exact Iv.none_fit | exact Iv.positive_ok)))
    | (apply E_pcallX hE (k_ivPoint ⟨_, _, _, _⟩ ?_); (case hm => rfl); (case hle => (repeat' (first | exact u_nil | apply u_cons | apply u2_agg | exact u2_int | exact u1_int | exact u2_bool | exact u1_bool | exact u2_sli | exact u1_sli | exact u2_s0 | exact u1_s0))); all_goals (first | (rintro t ⟨ht, ho⟩; cbv) | (first | assumption | exact Num.zero_ok | exact Iv.none_fit | exact Iv.positive_ok)))
    | (apply E_callX hE (k_opMul ⟨_, ⟨_, _, _, _⟩, ⟨_, _, _, _⟩⟩ ?_ ⟨_, ⟨_, _, _, _⟩, ⟨_, _, _, _⟩⟩ ?_); (case hf => rfl); (case hc => (cbv <;> trivial)); (case hle => (repeat' (first | exact u_nil | apply u_cons | apply u2_agg | exact u2_int | exact u1_int | exact u2_bool | exact u1_bool | exact u2_sli | exact u1_sli | exact u2_s0 | exact u1_s0))); all_goals (first | (rintro t ⟨ht, ho⟩; cbv) | (first | assumption | exact Num.zero_ok | exact Iv.none_fit | exact Iv.positive_ok)))
    | (apply E_pcallX hE (k_opMul ⟨_, ⟨_, _, _, _⟩, ⟨_, _, _, _⟩⟩ ?_ ⟨_, ⟨_, _, _, _⟩, ⟨_, _, _, _⟩⟩ ?_); (case hm => rfl); (case hle => (repeat' (first | exact u_nil | apply u_cons | apply u2_agg | exact u2_int | exact u1_int | exact u2_bool | exact u1_bool | exact u2_sli | exact u1_sli | exact u2_s0 | exact u1_s0))); all_goals (first | (rintro t ⟨ht, ho⟩; cbv) | (first | assumption | exact Num.zero_ok | exact Iv.none_fit | exact Iv.positive_ok)))
    | (apply E_callX hE (k_meet2 ⟨_, ⟨_, _, _, _⟩, ⟨_, _, _, _⟩⟩ ?_ ⟨_, ⟨_, _, _, _⟩, ⟨_, _, _, _⟩⟩ ?_); (case hf => rfl); (case hc => (cbv <;> trivial)); (case hle => exact ⟨slcG2, trivial⟩); all_goals (first | (rintro t ⟨ht, ho⟩; cbv) | (first | assumption | exact Num.zero_ok | exact Iv.none_fit | exact Iv.positive_ok)))
    | (apply E_pcallX hE (k_meet2 ⟨_, ⟨_, _, _, _⟩, ⟨_, _, _, _⟩⟩ ?_ ⟨_, ⟨_, _, _, _⟩, ⟨_, _, _, _⟩⟩ ?_); (case hm => rfl); (case hle => exact ⟨slcG2, trivial⟩); all_goals (first | (rintro t ⟨ht, ho⟩; cbv) | (first | assumption | exact Num.zero_ok | exact Iv.none_fit | exact Iv.positive_ok)))
    | (apply E_callX hE (k_part ⟨⟨_, ⟨_, _, _, _⟩, ⟨_, _, _, _⟩⟩, _⟩ ?_ ⟨⟨_, ⟨_, _, _, _⟩, ⟨_, _, _, _⟩⟩, _⟩ ?_ ⟨⟨_, ⟨_, _, _, _⟩, ⟨_, _, _, _⟩⟩, _⟩ ?_); (case hf => rfl); (case hc => (cbv <;> trivial)); (case hle => (repeat' (first | exact u_nil | apply u_cons | apply u2_agg | exact u2_int | exact u1_int | exact u2_bool | exact u1_bool | exact u2_sli | exact u1_sli | exact u2_s0 | exact u1_s0))); all_goals (first | (rintro t ⟨ht, ho⟩; cbv) | (first | assumption | exact Num.zero_ok | exact Iv.none_fit | exact Iv.positive_ok)))
    | (apply E_pcallX hE (k_part ⟨⟨_, ⟨_, _, _, _⟩, ⟨_, _, _, _⟩⟩, _⟩ ?_ ⟨⟨_, ⟨_, _, _, _⟩, ⟨_, _, _, _⟩⟩, _⟩ ?_ ⟨⟨_, ⟨_, _, _, _⟩, ⟨_, _, _, _⟩⟩, _⟩ ?_); (case hm => rfl); (case hle => (repeat' (first | exact u_nil | apply u_cons | apply u2_agg | exact u2_int | exact u1_int | exact u2_bool | exact u1_bool | exact u2_sli | exact u1_sli | exact u2_s0 | exact u1_s0))); all_goals (first | (rintro t ⟨ht, ho⟩; cbv) | (first | assumption | exact Num.zero_ok | exact Iv.none_fit | exact Iv.positive_ok)))
    | fail)
  all_goals subst hE
  all_goals (try simp only [realE, SB.val, Num.eta, Iv.eta] at *)
  all_goals subst_vars
  · rw [over_then ‹_›]; exact ⟨⟨rfl, rfl, rfl, rfl, rfl, rfl, rfl, rfl, rfl, trivial⟩, ⟨rfl, rfl, rfl, rfl, rfl, rfl, rfl, rfl, rfl, trivial⟩, trivial⟩
  · have hb := by_then (y := y) (iv_chain_iff.symm.trans h)
    rw [over_else (a := Opd.of (Iv.meet [x, Iv.mul (Opd.of z).iv (Opd.of Iv.none).iv])) ‹(Opd.of z).iv.empty = false› hb rfl]; exact ⟨⟨rfl, rfl, rfl, rfl, rfl, rfl, rfl, rfl, rfl, trivial⟩, ⟨rfl, rfl, rfl, rfl, rfl, rfl, rfl, rfl, rfl, trivial⟩, trivial⟩
  · have hb := by_else (y := y) (iv_chain_iff.symm.trans h)
    rw [over_else (a := Opd.of (Iv.meet [x, Iv.mul (Opd.of z).iv (Opd.of y).iv])) ‹(Opd.of z).iv.empty = false› hb rfl]; exact ⟨⟨rfl, rfl, rfl, rfl, rfl, rfl, rfl, rfl, rfl, trivial⟩, ⟨rfl, rfl, rfl, rfl, rfl, rfl, rfl, rfl, rfl, trivial⟩, trivial⟩

theorem k_bkOver (z : Iv) (hz : z.lo.ok ∧ z.hi.ok) (x : Iv) (hx : x.lo.ok ∧ x.hi.ok) (y : Iv) (hy : y.lo.ok ∧ y.hi.ok) : ∃ t : Iv × Iv, (t = bkOver z x y ∧ ((t.1.lo.ok ∧ t.1.hi.ok) ∧ (t.2.lo.ok ∧ t.2.hi.ok))) ∧ CallsA Try.prog 61 [z.av, x.av, y.av] (.tup [t.1.av, t.2.av]) :=
  withQ (p := fun t : Iv × Iv => (t.1.lo.ok ∧ t.1.hi.ok) ∧ (t.2.lo.ok ∧ t.2.hi.ok)) (c_bkOver z hz x hx y hy) (bkOver_fit hz hx hy)

end Go.Proofs.Ytincnfjihffllaa.Ev
