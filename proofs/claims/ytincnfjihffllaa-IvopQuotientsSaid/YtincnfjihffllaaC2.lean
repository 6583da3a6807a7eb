/- Contracts: intervals. Printed by gen.py out of C2.spec. -/
import Derived.Test.YtincnfjihffllaaC1
import Derived.Test.YtincnfjihffllaaPu2
namespace Go.Proofs.Ytincnfjihffllaa.Ev
open Go Go.Proofs
set_option linter.unusedVariables false
set_option linter.unusedSimpArgs false

theorem c_ivNone   : ∃ t : Iv, t = Iv.none ∧ CallsA Try.prog 64 [] (t.av) := by
  refine ⟨_, rfl, ?_⟩
  generalize hr : Iv.none = r
  refine callsA_of hG hm Try.func64 (by kernel_rfl) ?_
  intro E hE lp hl
  cbv
  repeat' (first
    | (refine E_br hE (fun h => ?_) (fun h => ?_) <;> cbv)
    | (refine E_nm hE (fun v hv => ?_); cbv)
    | fail)
  all_goals (subst hE; subst hr)
  all_goals (try simp only [realE, cmp_eql, cmp_neq, cmp_lss, cmp_leq, cmp_gtr, cmp_geq, intBinR, decide_eq_true_eq, decide_eq_false_iff_not, SI.val, SB.val, Num.eta, Iv.eta] at *)
  all_goals (try simp_all [Iv.none, Num.zero])
  all_goals (try omega)
  all_goals (try simp only [Bool.and_assoc])
  all_goals (try rfl)
  all_goals ((repeat' split) <;> (try simp_all) <;> (try omega))

theorem c_ivAll   : ∃ t : Iv, t = Iv.all ∧ CallsA Try.prog 113 [] (t.av) := by
  refine ⟨_, rfl, ?_⟩
  generalize hr : Iv.all = r
  refine callsA_of hG hm Try.func113 (by kernel_rfl) ?_
  intro E hE lp hl
  cbv
  repeat' (first
    | (refine E_br hE (fun h => ?_) (fun h => ?_) <;> cbv)
    | (refine E_nm hE (fun v hv => ?_); cbv)
    | (apply E_callX hE (c_Inf _); (case hf => rfl); (case hc => (cbv <;> trivial)); (case hle => (repeat' (first | exact u_nil | apply u_cons | apply u2_agg | exact u2_int | exact u1_int | exact u2_bool | exact u1_bool | exact u2_sli | exact u1_sli | exact u2_s0 | exact u1_s0))); intro t ht; cbv)
    | (apply E_pcallX hE (c_Inf _); (case hm => rfl); (case hle => (repeat' (first | exact u_nil | apply u_cons | apply u2_agg | exact u2_int | exact u1_int | exact u2_bool | exact u1_bool | exact u2_sli | exact u1_sli | exact u2_s0 | exact u1_s0))); intro t ht; cbv)
    | fail)
  all_goals (subst hE; subst hr)
  all_goals (try simp only [realE, cmp_eql, cmp_neq, cmp_lss, cmp_leq, cmp_gtr, cmp_geq, intBinR, decide_eq_true_eq, decide_eq_false_iff_not, SI.val, SB.val, Num.eta, Iv.eta] at *)
  all_goals (try simp_all [Iv.all, Num.inf])
  all_goals (try omega)
  all_goals (try simp only [Bool.and_assoc])
  all_goals (try rfl)
  all_goals ((repeat' split) <;> (try simp_all) <;> (try omega))

theorem c_ivMay (x : Iv)  : ∃ t : Bool, t = x.may ∧ CallsA Try.prog 55 [x.av] (.bool (.s t)) := by
  refine ⟨_, rfl, ?_⟩
  generalize hr : x.may = r
  refine callsA_of hG hm Try.func55 (by kernel_rfl) ?_
  intro E hE lp hl
  cbv
  repeat' (first
    | (refine E_br hE (fun h => ?_) (fun h => ?_) <;> cbv)
    | (refine E_nm hE (fun v hv => ?_); cbv)
    | (apply E_callX hE (c_ivNone ); (case hf => rfl); (case hc => (cbv <;> trivial)); (case hle => (repeat' (first | exact u_nil | apply u_cons | apply u2_agg | exact u2_int | exact u1_int | exact u2_bool | exact u1_bool | exact u2_sli | exact u1_sli | exact u2_s0 | exact u1_s0))); intro t ht; cbv)
    | (apply E_pcallX hE (c_ivNone ); (case hm => rfl); (case hle => (repeat' (first | exact u_nil | apply u_cons | apply u2_agg | exact u2_int | exact u1_int | exact u2_bool | exact u1_bool | exact u2_sli | exact u1_sli | exact u2_s0 | exact u1_s0))); intro t ht; cbv)
    | (apply E_callX hE (c_May ⟨_, _, _, _⟩); (case hf => rfl); (case hc => (cbv <;> trivial)); (case hle => (repeat' (first | exact u_nil | apply u_cons | apply u2_agg | exact u2_int | exact u1_int | exact u2_bool | exact u1_bool | exact u2_sli | exact u1_sli | exact u2_s0 | exact u1_s0))); intro t ht; cbv)
    | (apply E_pcallX hE (c_May ⟨_, _, _, _⟩); (case hm => rfl); (case hle => (repeat' (first | exact u_nil | apply u_cons | apply u2_agg | exact u2_int | exact u1_int | exact u2_bool | exact u1_bool | exact u2_sli | exact u1_sli | exact u2_s0 | exact u1_s0))); intro t ht; cbv)
    | (apply E_callX hE (c_Cmp ⟨_, _, _, _⟩ ⟨_, _, _, _⟩); (case hf => rfl); (case hc => (cbv <;> trivial)); (case hle => (repeat' (first | exact u_nil | apply u_cons | apply u2_agg | exact u2_int | exact u1_int | exact u2_bool | exact u1_bool | exact u2_sli | exact u1_sli | exact u2_s0 | exact u1_s0))); intro t ht; cbv)
    | (apply E_pcallX hE (c_Cmp ⟨_, _, _, _⟩ ⟨_, _, _, _⟩); (case hm => rfl); (case hle => (repeat' (first | exact u_nil | apply u_cons | apply u2_agg | exact u2_int | exact u1_int | exact u2_bool | exact u1_bool | exact u2_sli | exact u1_sli | exact u2_s0 | exact u1_s0))); intro t ht; cbv)
    | (apply E_callX hE (c_Inf _); (case hf => rfl); (case hc => (cbv <;> trivial)); (case hle => (repeat' (first | exact u_nil | apply u_cons | apply u2_agg | exact u2_int | exact u1_int | exact u2_bool | exact u1_bool | exact u2_sli | exact u1_sli | exact u2_s0 | exact u1_s0))); intro t ht; cbv)
    | (apply E_pcallX hE (c_Inf _); (case hm => rfl); (case hle => (repeat' (first | exact u_nil | apply u_cons | apply u2_agg | exact u2_int | exact u1_int | exact u2_bool | exact u1_bool | exact u2_sli | exact u1_sli | exact u2_s0 | exact u1_s0))); intro t ht; cbv)
    | fail)
  all_goals (subst hE; subst hr)
  all_goals (try simp only [realE, cmp_eql, cmp_neq, cmp_lss, cmp_leq, cmp_gtr, cmp_geq, intBinR, decide_eq_true_eq, decide_eq_false_iff_not, SI.val, SB.val, Num.eta, Iv.eta] at *)
  all_goals (try simp_all [Iv.may, Iv.none, Num.zero, Iv.eq_iff, Num.eq_iff, Num.inf])
  all_goals (try omega)
  all_goals (try simp only [Bool.and_assoc])
  all_goals (try rfl)
  all_goals ((repeat' split) <;> (try simp_all) <;> (try omega))

theorem c_ivFair (x : Iv)  : ∃ t : Iv, t = x.fair ∧ CallsA Try.prog 127 [x.av] (t.av) := by
  refine ⟨_, rfl, ?_⟩
  generalize hr : x.fair = r
  refine callsA_of hG hm Try.func127 (by kernel_rfl) ?_
  intro E hE lp hl
  cbv
  repeat' (first
    | (refine E_br hE (fun h => ?_) (fun h => ?_) <;> cbv)
    | (refine E_nm hE (fun v hv => ?_); cbv)
    | (apply E_callX hE (c_ivMay ⟨_, ⟨_, _, _, _⟩, ⟨_, _, _, _⟩⟩); (case hf => rfl); (case hc => (cbv <;> trivial)); (case hle => (repeat' (first | exact u_nil | apply u_cons | apply u2_agg | exact u2_int | exact u1_int | exact u2_bool | exact u1_bool | exact u2_sli | exact u1_sli | exact u2_s0 | exact u1_s0))); intro t ht; cbv)
    | (apply E_pcallX hE (c_ivMay ⟨_, ⟨_, _, _, _⟩, ⟨_, _, _, _⟩⟩); (case hm => rfl); (case hle => (repeat' (first | exact u_nil | apply u_cons | apply u2_agg | exact u2_int | exact u1_int | exact u2_bool | exact u1_bool | exact u2_sli | exact u1_sli | exact u2_s0 | exact u1_s0))); intro t ht; cbv)
    | (apply E_callX hE (c_ivNone ); (case hf => rfl); (case hc => (cbv <;> trivial)); (case hle => (repeat' (first | exact u_nil | apply u_cons | apply u2_agg | exact u2_int | exact u1_int | exact u2_bool | exact u1_bool | exact u2_sli | exact u1_sli | exact u2_s0 | exact u1_s0))); intro t ht; cbv)
    | (apply E_pcallX hE (c_ivNone ); (case hm => rfl); (case hle => (repeat' (first | exact u_nil | apply u_cons | apply u2_agg | exact u2_int | exact u1_int | exact u2_bool | exact u1_bool | exact u2_sli | exact u1_sli | exact u2_s0 | exact u1_s0))); intro t ht; cbv)
    | fail)
  all_goals (subst hE; subst hr)
  all_goals (try simp only [realE, cmp_eql, cmp_neq, cmp_lss, cmp_leq, cmp_gtr, cmp_geq, intBinR, decide_eq_true_eq, decide_eq_false_iff_not, SI.val, SB.val, Num.eta, Iv.eta] at *)
  all_goals (try simp_all [Iv.fair])
  all_goals (try omega)
  all_goals (try simp only [Bool.and_assoc])
  all_goals (try rfl)
  all_goals ((repeat' split) <;> (try simp_all) <;> (try omega))

theorem c_ivMake (lo : Num) (hi : Num)  : ∃ t : Iv, t = Iv.make lo hi ∧ CallsA Try.prog 114 [lo.av, hi.av] (t.av) := by
  refine ⟨_, rfl, ?_⟩
  generalize hr : Iv.make lo hi = r
  refine callsA_of hG hm Try.func114 (by kernel_rfl) ?_
  intro E hE lp hl
  cbv
  repeat' (first
    | (refine E_br hE (fun h => ?_) (fun h => ?_) <;> cbv)
    | (refine E_nm hE (fun v hv => ?_); cbv)
    | (apply E_callX hE (c_Neg ⟨_, _, _, _⟩); (case hf => rfl); (case hc => (cbv <;> trivial)); (case hle => (repeat' (first | exact u_nil | apply u_cons | apply u2_agg | exact u2_int | exact u1_int | exact u2_bool | exact u1_bool | exact u2_sli | exact u1_sli | exact u2_s0 | exact u1_s0))); intro t ht; cbv)
    | (apply E_pcallX hE (c_Neg ⟨_, _, _, _⟩); (case hm => rfl); (case hle => (repeat' (first | exact u_nil | apply u_cons | apply u2_agg | exact u2_int | exact u1_int | exact u2_bool | exact u1_bool | exact u2_sli | exact u1_sli | exact u2_s0 | exact u1_s0))); intro t ht; cbv)
    | (apply E_callX hE (c_ivFair ⟨_, ⟨_, _, _, _⟩, ⟨_, _, _, _⟩⟩); (case hf => rfl); (case hc => (cbv <;> trivial)); (case hle => (repeat' (first | exact u_nil | apply u_cons | apply u2_agg | exact u2_int | exact u1_int | exact u2_bool | exact u1_bool | exact u2_sli | exact u1_sli | exact u2_s0 | exact u1_s0))); intro t ht; cbv)
    | (apply E_pcallX hE (c_ivFair ⟨_, ⟨_, _, _, _⟩, ⟨_, _, _, _⟩⟩); (case hm => rfl); (case hle => (repeat' (first | exact u_nil | apply u_cons | apply u2_agg | exact u2_int | exact u1_int | exact u2_bool | exact u1_bool | exact u2_sli | exact u1_sli | exact u2_s0 | exact u1_s0))); intro t ht; cbv)
    | fail)
  all_goals (subst hE; subst hr)
  all_goals (try simp only [realE, cmp_eql, cmp_neq, cmp_lss, cmp_leq, cmp_gtr, cmp_geq, intBinR, decide_eq_true_eq, decide_eq_false_iff_not, SI.val, SB.val, Num.eta, Iv.eta] at *)
  all_goals (try simp_all [Iv.make])
  all_goals (try omega)
  all_goals (try simp only [Bool.and_assoc])
  all_goals (try rfl)
  all_goals ((repeat' split) <;> (try simp_all) <;> (try omega))

theorem c_ivPoint (n : Num)  : ∃ t : Iv, t = Iv.point n ∧ CallsA Try.prog 42 [n.av] (t.av) := by
  refine ⟨_, rfl, ?_⟩
  generalize hr : Iv.point n = r
  refine callsA_of hG hm Try.func42 (by kernel_rfl) ?_
  intro E hE lp hl
  cbv
  repeat' (first
    | (refine E_br hE (fun h => ?_) (fun h => ?_) <;> cbv)
    | (refine E_nm hE (fun v hv => ?_); cbv)
    | (apply E_callX hE (c_ivMake ⟨_, _, _, _⟩ ⟨_, _, _, _⟩); (case hf => rfl); (case hc => (cbv <;> trivial)); (case hle => (repeat' (first | exact u_nil | apply u_cons | apply u2_agg | exact u2_int | exact u1_int | exact u2_bool | exact u1_bool | exact u2_sli | exact u1_sli | exact u2_s0 | exact u1_s0))); intro t ht; cbv)
    | (apply E_pcallX hE (c_ivMake ⟨_, _, _, _⟩ ⟨_, _, _, _⟩); (case hm => rfl); (case hle => (repeat' (first | exact u_nil | apply u_cons | apply u2_agg | exact u2_int | exact u1_int | exact u2_bool | exact u1_bool | exact u2_sli | exact u1_sli | exact u2_s0 | exact u1_s0))); intro t ht; cbv)
    | fail)
  all_goals (subst hE; subst hr)
  all_goals (try simp only [realE, cmp_eql, cmp_neq, cmp_lss, cmp_leq, cmp_gtr, cmp_geq, intBinR, decide_eq_true_eq, decide_eq_false_iff_not, SI.val, SB.val, Num.eta, Iv.eta] at *)
  all_goals (try simp_all [Iv.point])
  all_goals (try omega)
  all_goals (try simp only [Bool.and_assoc])
  all_goals (try rfl)
  all_goals ((repeat' split) <;> (try simp_all) <;> (try omega))

theorem c_ivWithin (a : Iv) (b : Iv)  : ∃ t : Bool, t = a.within b ∧ CallsA Try.prog 51 [a.av, b.av] (.bool (.s t)) := by
  refine ⟨_, rfl, ?_⟩
  generalize hr : a.within b = r
  refine callsA_of hG hm Try.func51 (by kernel_rfl) ?_
  intro E hE lp hl
  cbv
  repeat' (first
    | (refine E_br hE (fun h => ?_) (fun h => ?_) <;> cbv)
    | (refine E_nm hE (fun v hv => ?_); cbv)
    | (apply E_callX hE (c_ivFair ⟨_, ⟨_, _, _, _⟩, ⟨_, _, _, _⟩⟩); (case hf => rfl); (case hc => (cbv <;> trivial)); (case hle => (repeat' (first | exact u_nil | apply u_cons | apply u2_agg | exact u2_int | exact u1_int | exact u2_bool | exact u1_bool | exact u2_sli | exact u1_sli | exact u2_s0 | exact u1_s0))); intro t ht; cbv)
    | (apply E_pcallX hE (c_ivFair ⟨_, ⟨_, _, _, _⟩, ⟨_, _, _, _⟩⟩); (case hm => rfl); (case hle => (repeat' (first | exact u_nil | apply u_cons | apply u2_agg | exact u2_int | exact u1_int | exact u2_bool | exact u1_bool | exact u2_sli | exact u1_sli | exact u2_s0 | exact u1_s0))); intro t ht; cbv)
    | (apply E_callX hE (c_Cmp ⟨_, _, _, _⟩ ⟨_, _, _, _⟩); (case hf => rfl); (case hc => (cbv <;> trivial)); (case hle => (repeat' (first | exact u_nil | apply u_cons | apply u2_agg | exact u2_int | exact u1_int | exact u2_bool | exact u1_bool | exact u2_sli | exact u1_sli | exact u2_s0 | exact u1_s0))); intro t ht; cbv)
    | (apply E_pcallX hE (c_Cmp ⟨_, _, _, _⟩ ⟨_, _, _, _⟩); (case hm => rfl); (case hle => (repeat' (first | exact u_nil | apply u_cons | apply u2_agg | exact u2_int | exact u1_int | exact u2_bool | exact u1_bool | exact u2_sli | exact u1_sli | exact u2_s0 | exact u1_s0))); intro t ht; cbv)
    | fail)
  all_goals (subst hE; subst hr)
  all_goals (try simp only [realE, cmp_eql, cmp_neq, cmp_lss, cmp_leq, cmp_gtr, cmp_geq, intBinR, decide_eq_true_eq, decide_eq_false_iff_not, SI.val, SB.val, Num.eta, Iv.eta] at *)
  all_goals (try simp_all [Iv.within])
  all_goals (try omega)
  all_goals (try simp only [Bool.and_assoc])
  all_goals (try rfl)
  all_goals ((repeat' split) <;> (try simp_all) <;> (try omega))

theorem c_ivHas (x : Iv) (n : Num)  : ∃ t : Bool, t = x.has n ∧ CallsA Try.prog 41 [x.av, n.av] (.bool (.s t)) := by
  refine ⟨_, rfl, ?_⟩
  generalize hr : x.has n = r
  refine callsA_of hG hm Try.func41 (by kernel_rfl) ?_
  intro E hE lp hl
  cbv
  repeat' (first
    | (refine E_br hE (fun h => ?_) (fun h => ?_) <;> cbv)
    | (refine E_nm hE (fun v hv => ?_); cbv)
    | (apply E_callX hE (c_ivPoint ⟨_, _, _, _⟩); (case hf => rfl); (case hc => (cbv <;> trivial)); (case hle => (repeat' (first | exact u_nil | apply u_cons | apply u2_agg | exact u2_int | exact u1_int | exact u2_bool | exact u1_bool | exact u2_sli | exact u1_sli | exact u2_s0 | exact u1_s0))); intro t ht; cbv)
    | (apply E_pcallX hE (c_ivPoint ⟨_, _, _, _⟩); (case hm => rfl); (case hle => (repeat' (first | exact u_nil | apply u_cons | apply u2_agg | exact u2_int | exact u1_int | exact u2_bool | exact u1_bool | exact u2_sli | exact u1_sli | exact u2_s0 | exact u1_s0))); intro t ht; cbv)
    | (apply E_callX hE (c_ivWithin ⟨_, ⟨_, _, _, _⟩, ⟨_, _, _, _⟩⟩ ⟨_, ⟨_, _, _, _⟩, ⟨_, _, _, _⟩⟩); (case hf => rfl); (case hc => (cbv <;> trivial)); (case hle => (repeat' (first | exact u_nil | apply u_cons | apply u2_agg | exact u2_int | exact u1_int | exact u2_bool | exact u1_bool | exact u2_sli | exact u1_sli | exact u2_s0 | exact u1_s0))); intro t ht; cbv)
    | (apply E_pcallX hE (c_ivWithin ⟨_, ⟨_, _, _, _⟩, ⟨_, _, _, _⟩⟩ ⟨_, ⟨_, _, _, _⟩, ⟨_, _, _, _⟩⟩); (case hm => rfl); (case hle => (repeat' (first | exact u_nil | apply u_cons | apply u2_agg | exact u2_int | exact u1_int | exact u2_bool | exact u1_bool | exact u2_sli | exact u1_sli | exact u2_s0 | exact u1_s0))); intro t ht; cbv)
    | fail)
  all_goals (subst hE; subst hr)
  all_goals (try simp only [realE, cmp_eql, cmp_neq, cmp_lss, cmp_leq, cmp_gtr, cmp_geq, intBinR, decide_eq_true_eq, decide_eq_false_iff_not, SI.val, SB.val, Num.eta, Iv.eta] at *)
  all_goals (try simp_all [Iv.has])
  all_goals (try omega)
  all_goals (try simp only [Bool.and_assoc])
  all_goals (try rfl)
  all_goals ((repeat' split) <;> (try simp_all) <;> (try omega))

theorem c_arFair (n : Num)  : ∃ t : Num, t = n.fair ∧ CallsA Try.prog 167 [n.av] (t.av) := by
  refine ⟨_, rfl, ?_⟩
  generalize hr : n.fair = r
  refine callsA_of hG hm Try.func167 (by kernel_rfl) ?_
  intro E hE lp hl
  cbv
  repeat' (first
    | (refine E_br hE (fun h => ?_) (fun h => ?_) <;> cbv)
    | (refine E_nm hE (fun v hv => ?_); cbv)
    | (apply E_callX hE (c_May ⟨_, _, _, _⟩); (case hf => rfl); (case hc => (cbv <;> trivial)); (case hle => (repeat' (first | exact u_nil | apply u_cons | apply u2_agg | exact u2_int | exact u1_int | exact u2_bool | exact u1_bool | exact u2_sli | exact u1_sli | exact u2_s0 | exact u1_s0))); intro t ht; cbv)
    | (apply E_pcallX hE (c_May ⟨_, _, _, _⟩); (case hm => rfl); (case hle => (repeat' (first | exact u_nil | apply u_cons | apply u2_agg | exact u2_int | exact u1_int | exact u2_bool | exact u1_bool | exact u2_sli | exact u1_sli | exact u2_s0 | exact u1_s0))); intro t ht; cbv)
    | fail)
  all_goals (subst hE; subst hr)
  all_goals (try simp only [realE, cmp_eql, cmp_neq, cmp_lss, cmp_leq, cmp_gtr, cmp_geq, intBinR, decide_eq_true_eq, decide_eq_false_iff_not, SI.val, SB.val, Num.eta, Iv.eta] at *)
  all_goals (try simp_all [Num.fair, Num.zero])
  all_goals (try omega)
  all_goals (try simp only [Bool.and_assoc])
  all_goals (try rfl)
  all_goals ((repeat' split) <;> (try simp_all) <;> (try omega))

theorem c_quFair (n : Num)  : ∃ t : Num, t = n.fair ∧ CallsA Try.prog 66 [n.av] (t.av) := by
  refine ⟨_, rfl, ?_⟩
  generalize hr : n.fair = r
  refine callsA_of hG hm Try.func66 (by kernel_rfl) ?_
  intro E hE lp hl
  cbv
  repeat' (first
    | (refine E_br hE (fun h => ?_) (fun h => ?_) <;> cbv)
    | (refine E_nm hE (fun v hv => ?_); cbv)
    | (apply E_callX hE (c_May ⟨_, _, _, _⟩); (case hf => rfl); (case hc => (cbv <;> trivial)); (case hle => (repeat' (first | exact u_nil | apply u_cons | apply u2_agg | exact u2_int | exact u1_int | exact u2_bool | exact u1_bool | exact u2_sli | exact u1_sli | exact u2_s0 | exact u1_s0))); intro t ht; cbv)
    | (apply E_pcallX hE (c_May ⟨_, _, _, _⟩); (case hm => rfl); (case hle => (repeat' (first | exact u_nil | apply u_cons | apply u2_agg | exact u2_int | exact u1_int | exact u2_bool | exact u1_bool | exact u2_sli | exact u1_sli | exact u2_s0 | exact u1_s0))); intro t ht; cbv)
    | fail)
  all_goals (subst hE; subst hr)
  all_goals (try simp only [realE, cmp_eql, cmp_neq, cmp_lss, cmp_leq, cmp_gtr, cmp_geq, intBinR, decide_eq_true_eq, decide_eq_false_iff_not, SI.val, SB.val, Num.eta, Iv.eta] at *)
  all_goals (try simp_all [Num.fair, Num.zero])
  all_goals (try omega)
  all_goals (try simp only [Bool.and_assoc])
  all_goals (try rfl)
  all_goals ((repeat' split) <;> (try simp_all) <;> (try omega))

end Go.Proofs.Ytincnfjihffllaa.Ev