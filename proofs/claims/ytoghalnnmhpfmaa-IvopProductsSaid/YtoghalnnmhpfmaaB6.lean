/- Texts of the proof, joined: R21 R22 C7 C8 C9 C9h C10 C11 C12a C30 -/
import Derived.Test.YtoghalnnmhpfmaaB5
set_option linter.unusedVariables false
set_option linter.unusedSimpArgs false

/- Contracts of the reference: intervals. Printed by gen.py. -/
namespace Go.Proofs.Ytoghalnnmhpfmaa.Ev
open Go Go.Proofs
set_option linter.unusedVariables false
set_option linter.unusedSimpArgs false

theorem c_r8None   : ∃ t : Iv, t = Iv.none ∧ CallsA Try.prog 27 [] (t.av) := by
  refine ⟨_, rfl, ?_⟩
  generalize hr : Iv.none = r
  refine callsA_of hG hm Try.func27 (by kernel_rfl) ?_
  intro E hE lp hl
  cbv
  repeat' (first
    | (refine E_br hE (fun h => ?_) (fun h => ?_) <;> cbv)
    | (refine E_nm hE (fun v hv => ?_); cbv)
    | fail)
  all_goals (subst hE; subst hr)
  all_goals (try simp only [realE, cmp_eql, cmp_neq, cmp_lss, cmp_leq, cmp_gtr, cmp_geq, intBinR, decide_eq_true_eq, decide_eq_false_iff_not, SI.val, SB.val, Num.eta, Iv.eta] at *)
  all_goals (try simp_all [Iv.none, Num.zero])
  all_goals (try omega)
  all_goals (try simp only [Bool.and_assoc])
  all_goals (try rfl)
  all_goals ((repeat' split) <;> (try simp_all) <;> (try omega))

theorem c_r8All   : ∃ t : Iv, t = Iv.all ∧ CallsA Try.prog 41 [] (t.av) := by
  refine ⟨_, rfl, ?_⟩
  generalize hr : Iv.all = r
  refine callsA_of hG hm Try.func41 (by kernel_rfl) ?_
  intro E hE lp hl
  cbv
  repeat' (first
    | (refine E_br hE (fun h => ?_) (fun h => ?_) <;> cbv)
    | (refine E_nm hE (fun v hv => ?_); cbv)
    | (apply E_callX hE (c_rInf _); (case hf => rfl); (case hc => (cbv <;> trivial)); (case hle => (repeat' (first | exact u_nil | apply u_cons | apply u2_agg | exact u2_int | exact u1_int | exact u2_bool | exact u1_bool | exact u2_sli | exact u1_sli | exact u2_s0 | exact u1_s0))); intro t ht; cbv)
    | (apply E_pcallX hE (c_rInf _); (case hm => rfl); (case hle => (repeat' (first | exact u_nil | apply u_cons | apply u2_agg | exact u2_int | exact u1_int | exact u2_bool | exact u1_bool | exact u2_sli | exact u1_sli | exact u2_s0 | exact u1_s0))); intro t ht; cbv)
    | fail)
  all_goals (subst hE; subst hr)
  all_goals (try simp only [realE, cmp_eql, cmp_neq, cmp_lss, cmp_leq, cmp_gtr, cmp_geq, intBinR, decide_eq_true_eq, decide_eq_false_iff_not, SI.val, SB.val, Num.eta, Iv.eta] at *)
  all_goals (try simp_all [Iv.all, Num.inf])
  all_goals (try omega)
  all_goals (try simp only [Bool.and_assoc])
  all_goals (try rfl)
  all_goals ((repeat' split) <;> (try simp_all) <;> (try omega))

theorem c_r8May (x : Iv) (o1 : x.lo.ok) (o2 : x.hi.ok) : ∃ t : Bool, t = x.may ∧ CallsA Try.prog 60 [x.av] (.bool (.s t)) := by
  refine ⟨_, rfl, ?_⟩
  generalize hr : x.may = r
  refine callsA_of hG hm Try.func60 (by kernel_rfl) ?_
  intro E hE lp hl
  cbv
  repeat' (first
    | (refine E_br hE (fun h => ?_) (fun h => ?_) <;> cbv)
    | (refine E_nm hE (fun v hv => ?_); cbv)
    | (apply E_callX hE (c_r8None ); (case hf => rfl); (case hc => (cbv <;> trivial)); (case hle => (repeat' (first | exact u_nil | apply u_cons | apply u2_agg | exact u2_int | exact u1_int | exact u2_bool | exact u1_bool | exact u2_sli | exact u1_sli | exact u2_s0 | exact u1_s0))); intro t ht; cbv)
    | (apply E_pcallX hE (c_r8None ); (case hm => rfl); (case hle => (repeat' (first | exact u_nil | apply u_cons | apply u2_agg | exact u2_int | exact u1_int | exact u2_bool | exact u1_bool | exact u2_sli | exact u1_sli | exact u2_s0 | exact u1_s0))); intro t ht; cbv)
    | (apply E_callX hE (c_rMay ⟨_, _, _, _⟩); (case hf => rfl); (case hc => (cbv <;> trivial)); (case hle => (repeat' (first | exact u_nil | apply u_cons | apply u2_agg | exact u2_int | exact u1_int | exact u2_bool | exact u1_bool | exact u2_sli | exact u1_sli | exact u2_s0 | exact u1_s0))); intro t ht; cbv)
    | (apply E_pcallX hE (c_rMay ⟨_, _, _, _⟩); (case hm => rfl); (case hle => (repeat' (first | exact u_nil | apply u_cons | apply u2_agg | exact u2_int | exact u1_int | exact u2_bool | exact u1_bool | exact u2_sli | exact u1_sli | exact u2_s0 | exact u1_s0))); intro t ht; cbv)
    | (apply E_callX hE (c_r5Cmp ⟨_, _, _, _⟩ ⟨_, _, _, _⟩ ?_ ?_); (case hf => rfl); (case hc => (cbv <;> trivial)); (case hle => (repeat' (first | exact u_nil | apply u_cons | apply u2_agg | exact u2_int | exact u1_int | exact u2_bool | exact u1_bool | exact u2_sli | exact u1_sli | exact u2_s0 | exact u1_s0))); all_goals (first | (intro t ht; cbv) | (subst hE; (try simp only [realE, cmp_eql, cmp_neq, cmp_lss, cmp_leq, cmp_gtr, cmp_geq, intBinR, decide_eq_true_eq, decide_eq_false_iff_not, SI.val, SB.val, Num.eta, Iv.eta] at *); first | assumption | omega)))
    | (apply E_pcallX hE (c_r5Cmp ⟨_, _, _, _⟩ ⟨_, _, _, _⟩ ?_ ?_); (case hm => rfl); (case hle => (repeat' (first | exact u_nil | apply u_cons | apply u2_agg | exact u2_int | exact u1_int | exact u2_bool | exact u1_bool | exact u2_sli | exact u1_sli | exact u2_s0 | exact u1_s0))); all_goals (first | (intro t ht; cbv) | (subst hE; (try simp only [realE, cmp_eql, cmp_neq, cmp_lss, cmp_leq, cmp_gtr, cmp_geq, intBinR, decide_eq_true_eq, decide_eq_false_iff_not, SI.val, SB.val, Num.eta, Iv.eta] at *); first | assumption | omega)))
    | (apply E_callX hE (c_rInf _); (case hf => rfl); (case hc => (cbv <;> trivial)); (case hle => (repeat' (first | exact u_nil | apply u_cons | apply u2_agg | exact u2_int | exact u1_int | exact u2_bool | exact u1_bool | exact u2_sli | exact u1_sli | exact u2_s0 | exact u1_s0))); intro t ht; cbv)
    | (apply E_pcallX hE (c_rInf _); (case hm => rfl); (case hle => (repeat' (first | exact u_nil | apply u_cons | apply u2_agg | exact u2_int | exact u1_int | exact u2_bool | exact u1_bool | exact u2_sli | exact u1_sli | exact u2_s0 | exact u1_s0))); intro t ht; cbv)
    | fail)
  all_goals (subst hE; subst hr)
  all_goals (try simp only [realE, cmp_eql, cmp_neq, cmp_lss, cmp_leq, cmp_gtr, cmp_geq, intBinR, decide_eq_true_eq, decide_eq_false_iff_not, SI.val, SB.val, Num.eta, Iv.eta] at *)
  all_goals (try simp_all [Iv.may, Iv.none, Num.zero, Iv.eq_iff, Num.eq_iff, Num.inf])
  all_goals (try omega)
  all_goals (try simp only [Bool.and_assoc])
  all_goals (try rfl)
  all_goals ((repeat' split) <;> (try simp_all) <;> (try omega))

theorem c_r8Fair (x : Iv) (o1 : x.lo.ok) (o2 : x.hi.ok) : ∃ t : Iv, t = x.fair ∧ CallsA Try.prog 26 [x.av] (t.av) := by
  refine ⟨_, rfl, ?_⟩
  generalize hr : x.fair = r
  refine callsA_of hG hm Try.func26 (by kernel_rfl) ?_
  intro E hE lp hl
  cbv
  repeat' (first
    | (refine E_br hE (fun h => ?_) (fun h => ?_) <;> cbv)
    | (refine E_nm hE (fun v hv => ?_); cbv)
    | (apply E_callX hE (c_r8May ⟨_, ⟨_, _, _, _⟩, ⟨_, _, _, _⟩⟩ ?_ ?_); (case hf => rfl); (case hc => (cbv <;> trivial)); (case hle => (repeat' (first | exact u_nil | apply u_cons | apply u2_agg | exact u2_int | exact u1_int | exact u2_bool | exact u1_bool | exact u2_sli | exact u1_sli | exact u2_s0 | exact u1_s0))); all_goals (first | (intro t ht; cbv) | (subst hE; (try simp only [realE, cmp_eql, cmp_neq, cmp_lss, cmp_leq, cmp_gtr, cmp_geq, intBinR, decide_eq_true_eq, decide_eq_false_iff_not, SI.val, SB.val, Num.eta, Iv.eta] at *); first | assumption | omega)))
    | (apply E_pcallX hE (c_r8May ⟨_, ⟨_, _, _, _⟩, ⟨_, _, _, _⟩⟩ ?_ ?_); (case hm => rfl); (case hle => (repeat' (first | exact u_nil | apply u_cons | apply u2_agg | exact u2_int | exact u1_int | exact u2_bool | exact u1_bool | exact u2_sli | exact u1_sli | exact u2_s0 | exact u1_s0))); all_goals (first | (intro t ht; cbv) | (subst hE; (try simp only [realE, cmp_eql, cmp_neq, cmp_lss, cmp_leq, cmp_gtr, cmp_geq, intBinR, decide_eq_true_eq, decide_eq_false_iff_not, SI.val, SB.val, Num.eta, Iv.eta] at *); first | assumption | omega)))
    | (apply E_callX hE (c_r8None ); (case hf => rfl); (case hc => (cbv <;> trivial)); (case hle => (repeat' (first | exact u_nil | apply u_cons | apply u2_agg | exact u2_int | exact u1_int | exact u2_bool | exact u1_bool | exact u2_sli | exact u1_sli | exact u2_s0 | exact u1_s0))); intro t ht; cbv)
    | (apply E_pcallX hE (c_r8None ); (case hm => rfl); (case hle => (repeat' (first | exact u_nil | apply u_cons | apply u2_agg | exact u2_int | exact u1_int | exact u2_bool | exact u1_bool | exact u2_sli | exact u1_sli | exact u2_s0 | exact u1_s0))); intro t ht; cbv)
    | fail)
  all_goals (subst hE; subst hr)
  all_goals (try simp only [realE, cmp_eql, cmp_neq, cmp_lss, cmp_leq, cmp_gtr, cmp_geq, intBinR, decide_eq_true_eq, decide_eq_false_iff_not, SI.val, SB.val, Num.eta, Iv.eta] at *)
  all_goals (try simp_all [Iv.fair])
  all_goals (try omega)
  all_goals (try simp only [Bool.and_assoc])
  all_goals (try rfl)
  all_goals ((repeat' split) <;> (try simp_all) <;> (try omega))

theorem c_r8Make (lo hi : Num) (o1 : lo.ok) (o2 : hi.ok) : ∃ t : Iv, t = Iv.make lo hi ∧ CallsA Try.prog 29 [lo.av, hi.av] t.av := by
  refine ⟨_, rfl, ?_⟩
  rw [Iv.make_eq]
  generalize hr : Iv.fair ⟨false, lo.fair, hi.fair⟩ = r
  have f1 := Num.fair_ok o1
  have f2 := Num.fair_ok o2
  refine callsA_of hG hm Try.func29 (by kernel_rfl) ?_
  intro E hE lp hl'
  cbv
  (first | (apply E_pcallX hE (c_r6Fair ⟨_, _, _, _⟩); (case hm => rfl); (case hle => (repeat' (first | exact u_nil | apply u_cons | apply u2_agg | exact u2_int | exact u1_int | exact u2_bool | exact u1_bool | exact u2_sli | exact u1_sli | exact u2_s0 | exact u1_s0))); all_goals (first | (intro a ha; cbv) | (assumption))) | (apply E_callX hE (c_r6Fair ⟨_, _, _, _⟩); (case hf => rfl); (case hc => (cbv <;> trivial)); (case hle => (repeat' (first | exact u_nil | apply u_cons | apply u2_agg | exact u2_int | exact u1_int | exact u2_bool | exact u1_bool | exact u2_sli | exact u1_sli | exact u2_s0 | exact u1_s0))); all_goals (first | (intro a ha; cbv) | (assumption))))
  (first | (apply E_pcallX hE (c_r6Fair ⟨_, _, _, _⟩); (case hm => rfl); (case hle => (repeat' (first | exact u_nil | apply u_cons | apply u2_agg | exact u2_int | exact u1_int | exact u2_bool | exact u1_bool | exact u2_sli | exact u1_sli | exact u2_s0 | exact u1_s0))); all_goals (first | (intro b hb; cbv) | (assumption))) | (apply E_callX hE (c_r6Fair ⟨_, _, _, _⟩); (case hf => rfl); (case hc => (cbv <;> trivial)); (case hle => (repeat' (first | exact u_nil | apply u_cons | apply u2_agg | exact u2_int | exact u1_int | exact u2_bool | exact u1_bool | exact u2_sli | exact u1_sli | exact u2_s0 | exact u1_s0))); all_goals (first | (intro b hb; cbv) | (assumption))))
  (first | (apply E_pcallX hE (c_r8Fair ⟨_, ⟨_, _, _, _⟩, ⟨_, _, _, _⟩⟩ ?_ ?_); (case hm => rfl); (case hle => (repeat' (first | exact u_nil | apply u_cons | apply u2_agg | exact u2_int | exact u1_int | exact u2_bool | exact u1_bool | exact u2_sli | exact u1_sli | exact u2_s0 | exact u1_s0))); all_goals (first | (intro t ht; cbv) | (first | (show a.ok; rw [show a = lo.fair from ha]; exact f1) | (show b.ok; rw [show b = hi.fair from hb]; exact f2)))) | (apply E_callX hE (c_r8Fair ⟨_, ⟨_, _, _, _⟩, ⟨_, _, _, _⟩⟩ ?_ ?_); (case hf => rfl); (case hc => (cbv <;> trivial)); (case hle => (repeat' (first | exact u_nil | apply u_cons | apply u2_agg | exact u2_int | exact u1_int | exact u2_bool | exact u1_bool | exact u2_sli | exact u1_sli | exact u2_s0 | exact u1_s0))); all_goals (first | (intro t ht; cbv) | (first | (show a.ok; rw [show a = lo.fair from ha]; exact f1) | (show b.ok; rw [show b = hi.fair from hb]; exact f2)))))
  have T : t = r := by
    rw [← hr, ← show a = lo.fair from ha, ← show b = hi.fair from hb]; exact ht
  rw [T]; exact ⟨rfl, rfl, rfl, rfl, rfl, rfl, rfl, rfl, rfl, trivial⟩
theorem c_r8Point (n : Num) (o1 : n.ok) : ∃ t : Iv, t = Iv.point n ∧ CallsA Try.prog 37 [n.av] t.av := by
  refine ⟨_, rfl, ?_⟩
  unfold Iv.point
  generalize hr : Iv.make n n = r
  refine callsA_of hG hm Try.func37 (by kernel_rfl) ?_
  intro E hE lp hl'
  cbv
  (first | (apply E_pcallX hE (c_r8Make ⟨_, _, _, _⟩ ⟨_, _, _, _⟩ ?_ ?_); (case hm => rfl); (case hle => (repeat' (first | exact u_nil | apply u_cons | apply u2_agg | exact u2_int | exact u1_int | exact u2_bool | exact u1_bool | exact u2_sli | exact u1_sli | exact u2_s0 | exact u1_s0))); all_goals (first | (intro t ht; cbv) | (exact o1))) | (apply E_callX hE (c_r8Make ⟨_, _, _, _⟩ ⟨_, _, _, _⟩ ?_ ?_); (case hf => rfl); (case hc => (cbv <;> trivial)); (case hle => (repeat' (first | exact u_nil | apply u_cons | apply u2_agg | exact u2_int | exact u1_int | exact u2_bool | exact u1_bool | exact u2_sli | exact u1_sli | exact u2_s0 | exact u1_s0))); all_goals (first | (intro t ht; cbv) | (exact o1))))
  have T : t = r := by rw [← hr]; exact ht
  rw [T]; exact ⟨rfl, rfl, rfl, rfl, rfl, rfl, rfl, rfl, rfl, trivial⟩

theorem c_r0Has (x : Iv) (n : Num) (o1 : x.lo.ok) (o2 : x.hi.ok) (on : n.ok) (f1 : x.fair.lo.ok) (f2 : x.fair.hi.ok) (fn_ : n.fair.ok) : ∃ t : Bool, t = Iv.rhas x n ∧ CallsA Try.prog 38 [x.av, n.av] (.bool (.s t)) := by
  refine ⟨_, rfl, ?_⟩
  generalize hr : Iv.rhas x n = r
  refine callsA_of hG hm Try.func38 (by kernel_rfl) ?_
  intro E hE lp hl
  cbv
  repeat' (first
    | (apply E_br_t hE; assumption; cbv)
    | (apply E_br_f hE; assumption; cbv)
    | (refine E_br hE (fun h => ?_) (fun h => ?_) <;> cbv)
    | (refine E_nm hE (fun v hv => ?_); cbv)
    | (apply E_callX hE (c_r8Fair ⟨_, ⟨_, _, _, _⟩, ⟨_, _, _, _⟩⟩ ?_ ?_); (case hf => rfl); (case hc => (cbv <;> trivial)); (case hle => (repeat' (first | exact u_nil | apply u_cons | apply u2_agg | exact u2_int | exact u1_int | exact u2_bool | exact u1_bool | exact u2_sli | exact u1_sli | exact u2_s0 | exact u1_s0))); all_goals (first | (intro t ht; cbv) | (subst hE; (try simp only [realE, cmp_eql, cmp_neq, cmp_lss, cmp_leq, cmp_gtr, cmp_geq, intBinR, decide_eq_true_eq, decide_eq_false_iff_not, SI.val, SB.val, Num.eta, Iv.eta] at *); (try subst_vars); first | assumption | (simp_all; done) | omega)))
    | (apply E_pcallX hE (c_r8Fair ⟨_, ⟨_, _, _, _⟩, ⟨_, _, _, _⟩⟩ ?_ ?_); (case hm => rfl); (case hle => (repeat' (first | exact u_nil | apply u_cons | apply u2_agg | exact u2_int | exact u1_int | exact u2_bool | exact u1_bool | exact u2_sli | exact u1_sli | exact u2_s0 | exact u1_s0))); all_goals (first | (intro t ht; cbv) | (subst hE; (try simp only [realE, cmp_eql, cmp_neq, cmp_lss, cmp_leq, cmp_gtr, cmp_geq, intBinR, decide_eq_true_eq, decide_eq_false_iff_not, SI.val, SB.val, Num.eta, Iv.eta] at *); (try subst_vars); first | assumption | (simp_all; done) | omega)))
    | (apply E_callX hE (c_r6Fair ⟨_, _, _, _⟩); (case hf => rfl); (case hc => (cbv <;> trivial)); (case hle => (repeat' (first | exact u_nil | apply u_cons | apply u2_agg | exact u2_int | exact u1_int | exact u2_bool | exact u1_bool | exact u2_sli | exact u1_sli | exact u2_s0 | exact u1_s0))); intro t ht; cbv)
    | (apply E_pcallX hE (c_r6Fair ⟨_, _, _, _⟩); (case hm => rfl); (case hle => (repeat' (first | exact u_nil | apply u_cons | apply u2_agg | exact u2_int | exact u1_int | exact u2_bool | exact u1_bool | exact u2_sli | exact u1_sli | exact u2_s0 | exact u1_s0))); intro t ht; cbv)
    | (apply E_callX hE (c_r5Cmp ⟨_, _, _, _⟩ ⟨_, _, _, _⟩ ?_ ?_); (case hf => rfl); (case hc => (cbv <;> trivial)); (case hle => (repeat' (first | exact u_nil | apply u_cons | apply u2_agg | exact u2_int | exact u1_int | exact u2_bool | exact u1_bool | exact u2_sli | exact u1_sli | exact u2_s0 | exact u1_s0))); all_goals (first | (intro t ht; cbv) | (subst hE; (try simp only [realE, cmp_eql, cmp_neq, cmp_lss, cmp_leq, cmp_gtr, cmp_geq, intBinR, decide_eq_true_eq, decide_eq_false_iff_not, SI.val, SB.val, Num.eta, Iv.eta] at *); (try subst_vars); first | assumption | (simp_all; done) | omega)))
    | (apply E_pcallX hE (c_r5Cmp ⟨_, _, _, _⟩ ⟨_, _, _, _⟩ ?_ ?_); (case hm => rfl); (case hle => (repeat' (first | exact u_nil | apply u_cons | apply u2_agg | exact u2_int | exact u1_int | exact u2_bool | exact u1_bool | exact u2_sli | exact u1_sli | exact u2_s0 | exact u1_s0))); all_goals (first | (intro t ht; cbv) | (subst hE; (try simp only [realE, cmp_eql, cmp_neq, cmp_lss, cmp_leq, cmp_gtr, cmp_geq, intBinR, decide_eq_true_eq, decide_eq_false_iff_not, SI.val, SB.val, Num.eta, Iv.eta] at *); (try subst_vars); first | assumption | (simp_all; done) | omega)))
    | fail)
  all_goals (subst hE; subst hr)
  all_goals (try simp only [realE, cmp_eql, cmp_neq, cmp_lss, cmp_leq, cmp_gtr, cmp_geq, intBinR, decide_eq_true_eq, decide_eq_false_iff_not, SI.val, SB.val, Num.eta, Iv.eta] at *)
  all_goals (try simp_all [Iv.rhas])
  all_goals (try omega)
  all_goals (try simp only [Bool.and_assoc])
  all_goals (try rfl)
  all_goals ((repeat' split) <;> (try simp_all) <;> (try omega))

theorem c_r8Has (x : Iv) (n : Num) (o1 : x.lo.ok) (o2 : x.hi.ok) (on : n.ok) : ∃ t : Bool, t = Iv.has x n ∧ CallsA Try.prog 38 [x.av, n.av] (.bool (.s t)) := by
  have f := Iv.fair_ok o1 o2
  obtain ⟨t, ht, hC⟩ := c_r0Has x n o1 o2 on f.1 f.2 (Num.fair_ok on)
  exact ⟨t, ht.trans (rhas_eq on o1 o2), hC⟩

end Go.Proofs.Ytoghalnnmhpfmaa.Ev

/- Contracts of the reference: products and quotients of intervals. Printed by gen.py. -/
namespace Go.Proofs.Ytoghalnnmhpfmaa.Ev
open Go Go.Proofs
set_option linter.unusedVariables false
set_option linter.unusedSimpArgs false

theorem slc_of {L : List (List AV)} {d : List AV} {l : List Num} {n : Int} (hn : n = l.length) (h : L = l.map Num.cells) : sle2 (.slc 4 (.l n) (fun i => L.getD ((0 : Int).toNat + i) d)) (.slc 4 (.s n) (fun i => Num.cells (l.getD i Num.zero))) := by
  have r : ∀ {x : Num}, sleL sle0 x.cells x.cells := ⟨⟨rfl, rfl⟩, rfl, ⟨rfl, rfl⟩, ⟨rfl, rfl⟩, trivial⟩
  refine ⟨rfl, rfl, fun i hi => ?_⟩
  have hi' : i < l.length := by
    have : i < n.toNat := hi
    omega
  have e : L.getD ((0 : Int).toNat + i) d = (l.getD i Num.zero).cells := by
    rw [h, show (0 : Int).toNat + i = i by simp]
    simp [List.getD, List.getElem?_eq_getElem hi']
  show sleL sle0 (L.getD ((0 : Int).toNat + i) d) _
  rw [e]; exact r
theorem corner_ok {F : Num → Num → Bool → Num} {a b : Iv} {u : Bool} (h : ∀ x y, x.ok → y.ok → (F x y u).ok) (fa : a.lo.ok ∧ a.hi.ok) (fb : b.lo.ok ∧ b.hi.ok) : ∀ x ∈ [F a.lo b.lo u, F a.lo b.hi u, F a.hi b.lo u, F a.hi b.hi u], x.ok := by
  intro x hx
  simp only [List.mem_cons, List.not_mem_nil, or_false] at hx
  rcases hx with rfl | rfl | rfl | rfl
  · exact h _ _ fa.1 fb.1
  · exact h _ _ fa.1 fb.2
  · exact h _ _ fa.2 fb.1
  · exact h _ _ fa.2 fb.2

set_option maxRecDepth 20000 in
theorem c_r9Mul (x y : Iv) (x1 : x.lo.ok) (x2 : x.hi.ok) (y1 : y.lo.ok) (y2 : y.hi.ok) : ∃ t : Iv, t = Iv.mul x y ∧ CallsA Try.prog 7 [x.av, y.av] t.av := by
  rw [← Iv.rmul_eq]
  refine ⟨_, rfl, ?_⟩
  generalize hr : Iv.rmul x y = r
  have emp : (x.fair.empty || y.fair.empty) = true → r = Iv.none := by intro h; rw [← hr]; unfold Iv.rmul; rw [if_pos h]
  have cor : ¬ (x.fair.empty || y.fair.empty) = true → r = Iv.corners Num.mul x.fair y.fair := by intro h; rw [← hr]; unfold Iv.rmul; rw [if_neg h]
  have fx := Iv.fair_ok x1 x2
  have fy := Iv.fair_ok y1 y2
  clear hr
  refine callsA_of hG hm Try.func7 (by kernel_rfl) ?_
  intro E hE lp hl'
  cbv
  (first | (apply E_pcallX hE (c_r8Fair ⟨_, ⟨_, _, _, _⟩, ⟨_, _, _, _⟩⟩ ?_ ?_); (case hm => rfl); (case hle => (repeat' (first | exact u_nil | apply u_cons | apply u2_agg | exact u2_int | exact u1_int | exact u2_bool | exact u1_bool | exact u2_sli | exact u1_sli | exact u2_s0 | exact u1_s0))); all_goals (first | (intro a ha; cbv) | (first | exact x1 | exact x2))) | (apply E_callX hE (c_r8Fair ⟨_, ⟨_, _, _, _⟩, ⟨_, _, _, _⟩⟩ ?_ ?_); (case hf => rfl); (case hc => (cbv <;> trivial)); (case hle => (repeat' (first | exact u_nil | apply u_cons | apply u2_agg | exact u2_int | exact u1_int | exact u2_bool | exact u1_bool | exact u2_sli | exact u1_sli | exact u2_s0 | exact u1_s0))); all_goals (first | (intro a ha; cbv) | (first | exact x1 | exact x2))))
  (first | (apply E_pcallX hE (c_r8Fair ⟨_, ⟨_, _, _, _⟩, ⟨_, _, _, _⟩⟩ ?_ ?_); (case hm => rfl); (case hle => (repeat' (first | exact u_nil | apply u_cons | apply u2_agg | exact u2_int | exact u1_int | exact u2_bool | exact u1_bool | exact u2_sli | exact u1_sli | exact u2_s0 | exact u1_s0))); all_goals (first | (intro b hb; cbv) | (first | exact y1 | exact y2))) | (apply E_callX hE (c_r8Fair ⟨_, ⟨_, _, _, _⟩, ⟨_, _, _, _⟩⟩ ?_ ?_); (case hf => rfl); (case hc => (cbv <;> trivial)); (case hle => (repeat' (first | exact u_nil | apply u_cons | apply u2_agg | exact u2_int | exact u1_int | exact u2_bool | exact u1_bool | exact u2_sli | exact u1_sli | exact u2_s0 | exact u1_s0))); all_goals (first | (intro b hb; cbv) | (first | exact y1 | exact y2))))
  replace ha : a = x.fair := ha
  replace hb : b = y.fair := hb
  rw [← ha] at emp cor fx
  rw [← hb] at emp cor fy
  clear ha hb
  refine E_br hE (fun g1 => ?_) (fun g1 => ?_) <;> cbv
  · (first | (apply E_pcallX hE (c_r8None); (case hm => rfl); (case hle => (repeat' (first | exact u_nil | apply u_cons | apply u2_agg | exact u2_int | exact u1_int | exact u2_bool | exact u1_bool | exact u2_sli | exact u1_sli | exact u2_s0 | exact u1_s0))); all_goals (first | (intro t ht; cbv) | (assumption))) | (apply E_callX hE (c_r8None); (case hf => rfl); (case hc => (cbv <;> trivial)); (case hle => (repeat' (first | exact u_nil | apply u_cons | apply u2_agg | exact u2_int | exact u1_int | exact u2_bool | exact u1_bool | exact u2_sli | exact u1_sli | exact u2_s0 | exact u1_s0))); all_goals (first | (intro t ht; cbv) | (assumption))))
    have T : t = r := by rw [emp (by rw [g1]; rfl)]; exact ht
    rw [T]; exact ⟨rfl, rfl, rfl, rfl, rfl, rfl, rfl, rfl, rfl, trivial⟩
  refine E_br hE (fun g2 => ?_) (fun g2 => ?_) <;> cbv
  · (first | (apply E_pcallX hE (c_r8None); (case hm => rfl); (case hle => (repeat' (first | exact u_nil | apply u_cons | apply u2_agg | exact u2_int | exact u1_int | exact u2_bool | exact u1_bool | exact u2_sli | exact u1_sli | exact u2_s0 | exact u1_s0))); all_goals (first | (intro t ht; cbv) | (assumption))) | (apply E_callX hE (c_r8None); (case hf => rfl); (case hc => (cbv <;> trivial)); (case hle => (repeat' (first | exact u_nil | apply u_cons | apply u2_agg | exact u2_int | exact u1_int | exact u2_bool | exact u1_bool | exact u2_sli | exact u1_sli | exact u2_s0 | exact u1_s0))); all_goals (first | (intro t ht; cbv) | (assumption))))
    have T : t = r := by rw [emp (by rw [g1, g2]; rfl)]; exact ht
    rw [T]; exact ⟨rfl, rfl, rfl, rfl, rfl, rfl, rfl, rfl, rfl, trivial⟩
  have C := cor (by rw [g1, g2]; decide)
  clear emp cor
  refine E_rounds hE hG hm hl' 5 ?_
  cbv
  (first | (apply E_pcallX hE (k_r6Mul ⟨_, _, _, _⟩ ⟨_, _, _, _⟩ false ?_ ?_); (case hm => rfl); (case hle => (repeat' (first | exact u_nil | apply u_cons | apply u2_agg | exact u2_int | exact u1_int | exact u2_bool | exact u1_bool | exact u2_sli | exact u1_sli | exact u2_s0 | exact u1_s0))); all_goals (first | (intro s1 es1; cbv) | (first | exact fx.1 | exact fx.2 | exact fy.1 | exact fy.2))) | (apply E_callX hE (k_r6Mul ⟨_, _, _, _⟩ ⟨_, _, _, _⟩ false ?_ ?_); (case hf => rfl); (case hc => (cbv <;> trivial)); (case hle => (repeat' (first | exact u_nil | apply u_cons | apply u2_agg | exact u2_int | exact u1_int | exact u2_bool | exact u1_bool | exact u2_sli | exact u1_sli | exact u2_s0 | exact u1_s0))); all_goals (first | (intro s1 es1; cbv) | (first | exact fx.1 | exact fx.2 | exact fy.1 | exact fy.2))))
  (first | (apply E_pcallX hE (k_r6Mul ⟨_, _, _, _⟩ ⟨_, _, _, _⟩ true ?_ ?_); (case hm => rfl); (case hle => (repeat' (first | exact u_nil | apply u_cons | apply u2_agg | exact u2_int | exact u1_int | exact u2_bool | exact u1_bool | exact u2_sli | exact u1_sli | exact u2_s0 | exact u1_s0))); all_goals (first | (intro t1 et1; cbv) | (first | exact fx.1 | exact fx.2 | exact fy.1 | exact fy.2))) | (apply E_callX hE (k_r6Mul ⟨_, _, _, _⟩ ⟨_, _, _, _⟩ true ?_ ?_); (case hf => rfl); (case hc => (cbv <;> trivial)); (case hle => (repeat' (first | exact u_nil | apply u_cons | apply u2_agg | exact u2_int | exact u1_int | exact u2_bool | exact u1_bool | exact u2_sli | exact u1_sli | exact u2_s0 | exact u1_s0))); all_goals (first | (intro t1 et1; cbv) | (first | exact fx.1 | exact fx.2 | exact fy.1 | exact fy.2))))
  (first | (apply E_pcallX hE (k_r6Mul ⟨_, _, _, _⟩ ⟨_, _, _, _⟩ false ?_ ?_); (case hm => rfl); (case hle => (repeat' (first | exact u_nil | apply u_cons | apply u2_agg | exact u2_int | exact u1_int | exact u2_bool | exact u1_bool | exact u2_sli | exact u1_sli | exact u2_s0 | exact u1_s0))); all_goals (first | (intro s2 es2; cbv) | (first | exact fx.1 | exact fx.2 | exact fy.1 | exact fy.2))) | (apply E_callX hE (k_r6Mul ⟨_, _, _, _⟩ ⟨_, _, _, _⟩ false ?_ ?_); (case hf => rfl); (case hc => (cbv <;> trivial)); (case hle => (repeat' (first | exact u_nil | apply u_cons | apply u2_agg | exact u2_int | exact u1_int | exact u2_bool | exact u1_bool | exact u2_sli | exact u1_sli | exact u2_s0 | exact u1_s0))); all_goals (first | (intro s2 es2; cbv) | (first | exact fx.1 | exact fx.2 | exact fy.1 | exact fy.2))))
  (first | (apply E_pcallX hE (k_r6Mul ⟨_, _, _, _⟩ ⟨_, _, _, _⟩ true ?_ ?_); (case hm => rfl); (case hle => (repeat' (first | exact u_nil | apply u_cons | apply u2_agg | exact u2_int | exact u1_int | exact u2_bool | exact u1_bool | exact u2_sli | exact u1_sli | exact u2_s0 | exact u1_s0))); all_goals (first | (intro t2 et2; cbv) | (first | exact fx.1 | exact fx.2 | exact fy.1 | exact fy.2))) | (apply E_callX hE (k_r6Mul ⟨_, _, _, _⟩ ⟨_, _, _, _⟩ true ?_ ?_); (case hf => rfl); (case hc => (cbv <;> trivial)); (case hle => (repeat' (first | exact u_nil | apply u_cons | apply u2_agg | exact u2_int | exact u1_int | exact u2_bool | exact u1_bool | exact u2_sli | exact u1_sli | exact u2_s0 | exact u1_s0))); all_goals (first | (intro t2 et2; cbv) | (first | exact fx.1 | exact fx.2 | exact fy.1 | exact fy.2))))
  (first | (apply E_pcallX hE (k_r6Mul ⟨_, _, _, _⟩ ⟨_, _, _, _⟩ false ?_ ?_); (case hm => rfl); (case hle => (repeat' (first | exact u_nil | apply u_cons | apply u2_agg | exact u2_int | exact u1_int | exact u2_bool | exact u1_bool | exact u2_sli | exact u1_sli | exact u2_s0 | exact u1_s0))); all_goals (first | (intro s3 es3; cbv) | (first | exact fx.1 | exact fx.2 | exact fy.1 | exact fy.2))) | (apply E_callX hE (k_r6Mul ⟨_, _, _, _⟩ ⟨_, _, _, _⟩ false ?_ ?_); (case hf => rfl); (case hc => (cbv <;> trivial)); (case hle => (repeat' (first | exact u_nil | apply u_cons | apply u2_agg | exact u2_int | exact u1_int | exact u2_bool | exact u1_bool | exact u2_sli | exact u1_sli | exact u2_s0 | exact u1_s0))); all_goals (first | (intro s3 es3; cbv) | (first | exact fx.1 | exact fx.2 | exact fy.1 | exact fy.2))))
  (first | (apply E_pcallX hE (k_r6Mul ⟨_, _, _, _⟩ ⟨_, _, _, _⟩ true ?_ ?_); (case hm => rfl); (case hle => (repeat' (first | exact u_nil | apply u_cons | apply u2_agg | exact u2_int | exact u1_int | exact u2_bool | exact u1_bool | exact u2_sli | exact u1_sli | exact u2_s0 | exact u1_s0))); all_goals (first | (intro t3 et3; cbv) | (first | exact fx.1 | exact fx.2 | exact fy.1 | exact fy.2))) | (apply E_callX hE (k_r6Mul ⟨_, _, _, _⟩ ⟨_, _, _, _⟩ true ?_ ?_); (case hf => rfl); (case hc => (cbv <;> trivial)); (case hle => (repeat' (first | exact u_nil | apply u_cons | apply u2_agg | exact u2_int | exact u1_int | exact u2_bool | exact u1_bool | exact u2_sli | exact u1_sli | exact u2_s0 | exact u1_s0))); all_goals (first | (intro t3 et3; cbv) | (first | exact fx.1 | exact fx.2 | exact fy.1 | exact fy.2))))
  (first | (apply E_pcallX hE (k_r6Mul ⟨_, _, _, _⟩ ⟨_, _, _, _⟩ false ?_ ?_); (case hm => rfl); (case hle => (repeat' (first | exact u_nil | apply u_cons | apply u2_agg | exact u2_int | exact u1_int | exact u2_bool | exact u1_bool | exact u2_sli | exact u1_sli | exact u2_s0 | exact u1_s0))); all_goals (first | (intro s4 es4; cbv) | (first | exact fx.1 | exact fx.2 | exact fy.1 | exact fy.2))) | (apply E_callX hE (k_r6Mul ⟨_, _, _, _⟩ ⟨_, _, _, _⟩ false ?_ ?_); (case hf => rfl); (case hc => (cbv <;> trivial)); (case hle => (repeat' (first | exact u_nil | apply u_cons | apply u2_agg | exact u2_int | exact u1_int | exact u2_bool | exact u1_bool | exact u2_sli | exact u1_sli | exact u2_s0 | exact u1_s0))); all_goals (first | (intro s4 es4; cbv) | (first | exact fx.1 | exact fx.2 | exact fy.1 | exact fy.2))))
  (first | (apply E_pcallX hE (k_r6Mul ⟨_, _, _, _⟩ ⟨_, _, _, _⟩ true ?_ ?_); (case hm => rfl); (case hle => (repeat' (first | exact u_nil | apply u_cons | apply u2_agg | exact u2_int | exact u1_int | exact u2_bool | exact u1_bool | exact u2_sli | exact u1_sli | exact u2_s0 | exact u1_s0))); all_goals (first | (intro t4 et4; cbv) | (first | exact fx.1 | exact fx.2 | exact fy.1 | exact fy.2))) | (apply E_callX hE (k_r6Mul ⟨_, _, _, _⟩ ⟨_, _, _, _⟩ true ?_ ?_); (case hf => rfl); (case hc => (cbv <;> trivial)); (case hle => (repeat' (first | exact u_nil | apply u_cons | apply u2_agg | exact u2_int | exact u1_int | exact u2_bool | exact u1_bool | exact u2_sli | exact u1_sli | exact u2_s0 | exact u1_s0))); all_goals (first | (intro t4 et4; cbv) | (first | exact fx.1 | exact fx.2 | exact fy.1 | exact fy.2))))
  have S : [s1, s2, s3, s4] = [Num.mul a.lo b.lo false, Num.mul a.lo b.hi false, Num.mul a.hi b.lo false, Num.mul a.hi b.hi false] := by rw [es1, es2, es3, es4]
  have U : [t1, t2, t3, t4] = [Num.mul a.lo b.lo true, Num.mul a.lo b.hi true, Num.mul a.hi b.lo true, Num.mul a.hi b.hi true] := by rw [et1, et2, et3, et4]
  have os : ∀ x ∈ [s1, s2, s3, s4], x.ok := by rw [S]; exact corner_ok (F := Num.mul) (fun x y hx hy => Num.mul_ok hx hy _) fx fy
  have ot : ∀ x ∈ [t1, t2, t3, t4], x.ok := by rw [U]; exact corner_ok (F := Num.mul) (fun x y hx hy => Num.mul_ok hx hy _) fx fy
  clear es1 es2 es3 es4 et1 et2 et3 et4
  (first | (apply E_pcallX hE (c_rLeast [s1, s2, s3, s4] 4 rfl (by decide) os); (case hm => rfl); (case hle => exact (by subst hE; exact ⟨slc_of (l := [s1, s2, s3, s4]) rfl rfl, trivial⟩)); all_goals (first | (intro lo elo; cbv) | (assumption))) | (apply E_callX hE (c_rLeast [s1, s2, s3, s4] 4 rfl (by decide) os); (case hf => rfl); (case hc => (subst hE; cbv <;> trivial)); (case hle => exact (by subst hE; exact ⟨slc_of (l := [s1, s2, s3, s4]) rfl rfl, trivial⟩)); all_goals (first | (intro lo elo; cbv) | (assumption))))
  (first | (apply E_pcallX hE (c_rMost [t1, t2, t3, t4] 4 rfl (by decide) ot); (case hm => rfl); (case hle => exact (by subst hE; exact ⟨slc_of (l := [t1, t2, t3, t4]) rfl rfl, trivial⟩)); all_goals (first | (intro hi ehi; cbv) | (assumption))) | (apply E_callX hE (c_rMost [t1, t2, t3, t4] 4 rfl (by decide) ot); (case hf => rfl); (case hc => (subst hE; cbv <;> trivial)); (case hle => exact (by subst hE; exact ⟨slc_of (l := [t1, t2, t3, t4]) rfl rfl, trivial⟩)); all_goals (first | (intro hi ehi; cbv) | (assumption))))
  have lok : lo.ok := by rw [elo]; exact (Num.least_spec _ os).2.1
  have hok : hi.ok := by rw [ehi]; exact (Num.most_spec _ ot).2.1
  (first | (apply E_pcallX hE (c_r8Make ⟨_, _, _, _⟩ ⟨_, _, _, _⟩ ?_ ?_); (case hm => rfl); (case hle => (repeat' (first | exact u_nil | apply u_cons | apply u2_agg | exact u2_int | exact u1_int | exact u2_bool | exact u1_bool | exact u2_sli | exact u1_sli | exact u2_s0 | exact u1_s0))); all_goals (first | (intro t ht; cbv) | (first | exact lok | exact hok))) | (apply E_callX hE (c_r8Make ⟨_, _, _, _⟩ ⟨_, _, _, _⟩ ?_ ?_); (case hf => rfl); (case hc => (cbv <;> trivial)); (case hle => (repeat' (first | exact u_nil | apply u_cons | apply u2_agg | exact u2_int | exact u1_int | exact u2_bool | exact u1_bool | exact u2_sli | exact u1_sli | exact u2_s0 | exact u1_s0))); all_goals (first | (intro t ht; cbv) | (first | exact lok | exact hok))))
  have T : t = r := by
    rw [C]
    unfold Iv.corners
    rw [← S, ← U, ← elo, ← ehi]; exact ht
  rw [T]; exact ⟨rfl, rfl, rfl, rfl, rfl, rfl, rfl, rfl, rfl, trivial⟩

set_option maxRecDepth 20000 in
theorem c_r9whole (a b : Iv) (fx : a.lo.ok ∧ a.hi.ok) (fy : b.lo.ok ∧ b.hi.ok) : ∃ t : Iv, t = Iv.corners Num.div a b ∧ CallsA Try.prog 39 [a.av, b.av] t.av := by
  refine ⟨_, rfl, ?_⟩
  generalize hr : Iv.corners Num.div a b = r
  have C := hr.symm
  clear hr
  refine callsA_of hG hm Try.func39 (by kernel_rfl) ?_
  intro E hE lp hl'
  cbv
  refine E_rounds hE hG hm hl' 5 ?_
  cbv
  (first | (apply E_pcallX hE (c_r7Div ⟨_, _, _, _⟩ ⟨_, _, _, _⟩ false ?_ ?_); (case hm => rfl); (case hle => (repeat' (first | exact u_nil | apply u_cons | apply u2_agg | exact u2_int | exact u1_int | exact u2_bool | exact u1_bool | exact u2_sli | exact u1_sli | exact u2_s0 | exact u1_s0))); all_goals (first | (intro s1 es1; cbv) | (first | exact fx.1 | exact fx.2 | exact fy.1 | exact fy.2))) | (apply E_callX hE (c_r7Div ⟨_, _, _, _⟩ ⟨_, _, _, _⟩ false ?_ ?_); (case hf => rfl); (case hc => (cbv <;> trivial)); (case hle => (repeat' (first | exact u_nil | apply u_cons | apply u2_agg | exact u2_int | exact u1_int | exact u2_bool | exact u1_bool | exact u2_sli | exact u1_sli | exact u2_s0 | exact u1_s0))); all_goals (first | (intro s1 es1; cbv) | (first | exact fx.1 | exact fx.2 | exact fy.1 | exact fy.2))))
  (first | (apply E_pcallX hE (c_r7Div ⟨_, _, _, _⟩ ⟨_, _, _, _⟩ true ?_ ?_); (case hm => rfl); (case hle => (repeat' (first | exact u_nil | apply u_cons | apply u2_agg | exact u2_int | exact u1_int | exact u2_bool | exact u1_bool | exact u2_sli | exact u1_sli | exact u2_s0 | exact u1_s0))); all_goals (first | (intro t1 et1; cbv) | (first | exact fx.1 | exact fx.2 | exact fy.1 | exact fy.2))) | (apply E_callX hE (c_r7Div ⟨_, _, _, _⟩ ⟨_, _, _, _⟩ true ?_ ?_); (case hf => rfl); (case hc => (cbv <;> trivial)); (case hle => (repeat' (first | exact u_nil | apply u_cons | apply u2_agg | exact u2_int | exact u1_int | exact u2_bool | exact u1_bool | exact u2_sli | exact u1_sli | exact u2_s0 | exact u1_s0))); all_goals (first | (intro t1 et1; cbv) | (first | exact fx.1 | exact fx.2 | exact fy.1 | exact fy.2))))
  (first | (apply E_pcallX hE (c_r7Div ⟨_, _, _, _⟩ ⟨_, _, _, _⟩ false ?_ ?_); (case hm => rfl); (case hle => (repeat' (first | exact u_nil | apply u_cons | apply u2_agg | exact u2_int | exact u1_int | exact u2_bool | exact u1_bool | exact u2_sli | exact u1_sli | exact u2_s0 | exact u1_s0))); all_goals (first | (intro s2 es2; cbv) | (first | exact fx.1 | exact fx.2 | exact fy.1 | exact fy.2))) | (apply E_callX hE (c_r7Div ⟨_, _, _, _⟩ ⟨_, _, _, _⟩ false ?_ ?_); (case hf => rfl); (case hc => (cbv <;> trivial)); (case hle => (repeat' (first | exact u_nil | apply u_cons | apply u2_agg | exact u2_int | exact u1_int | exact u2_bool | exact u1_bool | exact u2_sli | exact u1_sli | exact u2_s0 | exact u1_s0))); all_goals (first | (intro s2 es2; cbv) | (first | exact fx.1 | exact fx.2 | exact fy.1 | exact fy.2))))
  (first | (apply E_pcallX hE (c_r7Div ⟨_, _, _, _⟩ ⟨_, _, _, _⟩ true ?_ ?_); (case hm => rfl); (case hle => (repeat' (first | exact u_nil | apply u_cons | apply u2_agg | exact u2_int | exact u1_int | exact u2_bool | exact u1_bool | exact u2_sli | exact u1_sli | exact u2_s0 | exact u1_s0))); all_goals (first | (intro t2 et2; cbv) | (first | exact fx.1 | exact fx.2 | exact fy.1 | exact fy.2))) | (apply E_callX hE (c_r7Div ⟨_, _, _, _⟩ ⟨_, _, _, _⟩ true ?_ ?_); (case hf => rfl); (case hc => (cbv <;> trivial)); (case hle => (repeat' (first | exact u_nil | apply u_cons | apply u2_agg | exact u2_int | exact u1_int | exact u2_bool | exact u1_bool | exact u2_sli | exact u1_sli | exact u2_s0 | exact u1_s0))); all_goals (first | (intro t2 et2; cbv) | (first | exact fx.1 | exact fx.2 | exact fy.1 | exact fy.2))))
  (first | (apply E_pcallX hE (c_r7Div ⟨_, _, _, _⟩ ⟨_, _, _, _⟩ false ?_ ?_); (case hm => rfl); (case hle => (repeat' (first | exact u_nil | apply u_cons | apply u2_agg | exact u2_int | exact u1_int | exact u2_bool | exact u1_bool | exact u2_sli | exact u1_sli | exact u2_s0 | exact u1_s0))); all_goals (first | (intro s3 es3; cbv) | (first | exact fx.1 | exact fx.2 | exact fy.1 | exact fy.2))) | (apply E_callX hE (c_r7Div ⟨_, _, _, _⟩ ⟨_, _, _, _⟩ false ?_ ?_); (case hf => rfl); (case hc => (cbv <;> trivial)); (case hle => (repeat' (first | exact u_nil | apply u_cons | apply u2_agg | exact u2_int | exact u1_int | exact u2_bool | exact u1_bool | exact u2_sli | exact u1_sli | exact u2_s0 | exact u1_s0))); all_goals (first | (intro s3 es3; cbv) | (first | exact fx.1 | exact fx.2 | exact fy.1 | exact fy.2))))
  (first | (apply E_pcallX hE (c_r7Div ⟨_, _, _, _⟩ ⟨_, _, _, _⟩ true ?_ ?_); (case hm => rfl); (case hle => (repeat' (first | exact u_nil | apply u_cons | apply u2_agg | exact u2_int | exact u1_int | exact u2_bool | exact u1_bool | exact u2_sli | exact u1_sli | exact u2_s0 | exact u1_s0))); all_goals (first | (intro t3 et3; cbv) | (first | exact fx.1 | exact fx.2 | exact fy.1 | exact fy.2))) | (apply E_callX hE (c_r7Div ⟨_, _, _, _⟩ ⟨_, _, _, _⟩ true ?_ ?_); (case hf => rfl); (case hc => (cbv <;> trivial)); (case hle => (repeat' (first | exact u_nil | apply u_cons | apply u2_agg | exact u2_int | exact u1_int | exact u2_bool | exact u1_bool | exact u2_sli | exact u1_sli | exact u2_s0 | exact u1_s0))); all_goals (first | (intro t3 et3; cbv) | (first | exact fx.1 | exact fx.2 | exact fy.1 | exact fy.2))))
  (first | (apply E_pcallX hE (c_r7Div ⟨_, _, _, _⟩ ⟨_, _, _, _⟩ false ?_ ?_); (case hm => rfl); (case hle => (repeat' (first | exact u_nil | apply u_cons | apply u2_agg | exact u2_int | exact u1_int | exact u2_bool | exact u1_bool | exact u2_sli | exact u1_sli | exact u2_s0 | exact u1_s0))); all_goals (first | (intro s4 es4; cbv) | (first | exact fx.1 | exact fx.2 | exact fy.1 | exact fy.2))) | (apply E_callX hE (c_r7Div ⟨_, _, _, _⟩ ⟨_, _, _, _⟩ false ?_ ?_); (case hf => rfl); (case hc => (cbv <;> trivial)); (case hle => (repeat' (first | exact u_nil | apply u_cons | apply u2_agg | exact u2_int | exact u1_int | exact u2_bool | exact u1_bool | exact u2_sli | exact u1_sli | exact u2_s0 | exact u1_s0))); all_goals (first | (intro s4 es4; cbv) | (first | exact fx.1 | exact fx.2 | exact fy.1 | exact fy.2))))
  (first | (apply E_pcallX hE (c_r7Div ⟨_, _, _, _⟩ ⟨_, _, _, _⟩ true ?_ ?_); (case hm => rfl); (case hle => (repeat' (first | exact u_nil | apply u_cons | apply u2_agg | exact u2_int | exact u1_int | exact u2_bool | exact u1_bool | exact u2_sli | exact u1_sli | exact u2_s0 | exact u1_s0))); all_goals (first | (intro t4 et4; cbv) | (first | exact fx.1 | exact fx.2 | exact fy.1 | exact fy.2))) | (apply E_callX hE (c_r7Div ⟨_, _, _, _⟩ ⟨_, _, _, _⟩ true ?_ ?_); (case hf => rfl); (case hc => (cbv <;> trivial)); (case hle => (repeat' (first | exact u_nil | apply u_cons | apply u2_agg | exact u2_int | exact u1_int | exact u2_bool | exact u1_bool | exact u2_sli | exact u1_sli | exact u2_s0 | exact u1_s0))); all_goals (first | (intro t4 et4; cbv) | (first | exact fx.1 | exact fx.2 | exact fy.1 | exact fy.2))))
  have S : [s1, s2, s3, s4] = [Num.div a.lo b.lo false, Num.div a.lo b.hi false, Num.div a.hi b.lo false, Num.div a.hi b.hi false] := by rw [es1, es2, es3, es4]
  have U : [t1, t2, t3, t4] = [Num.div a.lo b.lo true, Num.div a.lo b.hi true, Num.div a.hi b.lo true, Num.div a.hi b.hi true] := by rw [et1, et2, et3, et4]
  have os : ∀ x ∈ [s1, s2, s3, s4], x.ok := by rw [S]; exact corner_ok (F := Num.div) (fun x y hx hy => Num.div_ok hx hy _) fx fy
  have ot : ∀ x ∈ [t1, t2, t3, t4], x.ok := by rw [U]; exact corner_ok (F := Num.div) (fun x y hx hy => Num.div_ok hx hy _) fx fy
  clear es1 es2 es3 es4 et1 et2 et3 et4
  (first | (apply E_pcallX hE (c_rLeast [s1, s2, s3, s4] 4 rfl (by decide) os); (case hm => rfl); (case hle => exact (by subst hE; exact ⟨slc_of (l := [s1, s2, s3, s4]) rfl rfl, trivial⟩)); all_goals (first | (intro lo elo; cbv) | (assumption))) | (apply E_callX hE (c_rLeast [s1, s2, s3, s4] 4 rfl (by decide) os); (case hf => rfl); (case hc => (subst hE; cbv <;> trivial)); (case hle => exact (by subst hE; exact ⟨slc_of (l := [s1, s2, s3, s4]) rfl rfl, trivial⟩)); all_goals (first | (intro lo elo; cbv) | (assumption))))
  (first | (apply E_pcallX hE (c_rMost [t1, t2, t3, t4] 4 rfl (by decide) ot); (case hm => rfl); (case hle => exact (by subst hE; exact ⟨slc_of (l := [t1, t2, t3, t4]) rfl rfl, trivial⟩)); all_goals (first | (intro hi ehi; cbv) | (assumption))) | (apply E_callX hE (c_rMost [t1, t2, t3, t4] 4 rfl (by decide) ot); (case hf => rfl); (case hc => (subst hE; cbv <;> trivial)); (case hle => exact (by subst hE; exact ⟨slc_of (l := [t1, t2, t3, t4]) rfl rfl, trivial⟩)); all_goals (first | (intro hi ehi; cbv) | (assumption))))
  have lok : lo.ok := by rw [elo]; exact (Num.least_spec _ os).2.1
  have hok : hi.ok := by rw [ehi]; exact (Num.most_spec _ ot).2.1
  (first | (apply E_pcallX hE (c_r8Make ⟨_, _, _, _⟩ ⟨_, _, _, _⟩ ?_ ?_); (case hm => rfl); (case hle => (repeat' (first | exact u_nil | apply u_cons | apply u2_agg | exact u2_int | exact u1_int | exact u2_bool | exact u1_bool | exact u2_sli | exact u1_sli | exact u2_s0 | exact u1_s0))); all_goals (first | (intro t ht; cbv) | (first | exact lok | exact hok))) | (apply E_callX hE (c_r8Make ⟨_, _, _, _⟩ ⟨_, _, _, _⟩ ?_ ?_); (case hf => rfl); (case hc => (cbv <;> trivial)); (case hle => (repeat' (first | exact u_nil | apply u_cons | apply u2_agg | exact u2_int | exact u1_int | exact u2_bool | exact u1_bool | exact u2_sli | exact u1_sli | exact u2_s0 | exact u1_s0))); all_goals (first | (intro t ht; cbv) | (first | exact lok | exact hok))))
  have T : t = r := by
    rw [C]
    unfold Iv.corners
    rw [← S, ← U, ← elo, ← ehi]; exact ht
  rw [T]; exact ⟨rfl, rfl, rfl, rfl, rfl, rfl, rfl, rfl, rfl, trivial⟩

theorem half_t {n e : Num} (h : n.sign = e.sign) : Iv.half n e = Iv.make (Num.div n e false) (Num.inf false) := by unfold Iv.half; rw [if_pos h]
theorem half_f {n e : Num} (h : ¬ n.sign = e.sign) : Iv.half n e = Iv.make (Num.inf true) (Num.div n e true) := by unfold Iv.half; rw [if_neg h]
theorem ivEq_of {E : Env} (hE : E = realE Try.prog) (b p : Iv) : E.band (E.beq b.empty p.empty) (E.band (E.cmp .eql b.lo.kind p.lo.kind) (E.band (E.beq b.lo.neg p.lo.neg) (E.band (E.cmp .eql b.lo.m p.lo.m) (E.band (E.cmp .eql b.lo.e p.lo.e) (E.band (E.cmp .eql b.hi.kind p.hi.kind) (E.band (E.beq b.hi.neg p.hi.neg) (E.band (E.cmp .eql b.hi.m p.hi.m) (E.cmp .eql b.hi.e p.hi.e)))))))) = decide (b = p) := by
  subst hE
  rw [Bool.eq_iff_iff]
  simp only [realE, cmp_eql, Bool.and_eq_true, decide_eq_true_eq, Iv.eq_iff, Num.eq_iff, beq_iff_eq]
  constructor
  · rintro ⟨h0, h1, h2, h3, h4, h5, h6, h7, h8⟩; exact ⟨h0, ⟨h1, h2, h3, h4⟩, h5, h6, h7, h8⟩
  · rintro ⟨h0, ⟨h1, h2, h3, h4⟩, h5, h6, h7, h8⟩; exact ⟨h0, h1, h2, h3, h4, h5, h6, h7, h8⟩
theorem c_r9Div (x y : Iv) (x1 : x.lo.ok) (x2 : x.hi.ok) (y1 : y.lo.ok) (y2 : y.hi.ok) : ∃ t : Iv, t = Iv.div x y ∧ CallsA Try.prog 9 [x.av, y.av] t.av := by
  rw [← Iv.rdivs_eq x1 x2 y1 y2]
  refine ⟨_, rfl, ?_⟩
  generalize hr : Iv.rdivs x y = r
  have D := Iv.rdivs_f hr
  have fa := Iv.fair_ok x1 x2
  have fb := Iv.fair_ok y1 y2
  clear hr
  refine callsA_of hG hm Try.func9 (by kernel_rfl) ?_
  intro E hE lp hl'
  cbv
  (first | (apply E_pcallX hE (c_r8Fair ⟨_, ⟨_, _, _, _⟩, ⟨_, _, _, _⟩⟩ ?_ ?_); (case hm => rfl); (case hle => (repeat' (first | exact u_nil | apply u_cons | apply u2_agg | exact u2_int | exact u1_int | exact u2_bool | exact u1_bool | exact u2_sli | exact u1_sli | exact u2_s0 | exact u1_s0))); all_goals (first | (intro a ha; cbv) | (first | exact x1 | exact x2))) | (apply E_callX hE (c_r8Fair ⟨_, ⟨_, _, _, _⟩, ⟨_, _, _, _⟩⟩ ?_ ?_); (case hf => rfl); (case hc => (cbv <;> trivial)); (case hle => (repeat' (first | exact u_nil | apply u_cons | apply u2_agg | exact u2_int | exact u1_int | exact u2_bool | exact u1_bool | exact u2_sli | exact u1_sli | exact u2_s0 | exact u1_s0))); all_goals (first | (intro a ha; cbv) | (first | exact x1 | exact x2))))
  (first | (apply E_pcallX hE (c_r8Fair ⟨_, ⟨_, _, _, _⟩, ⟨_, _, _, _⟩⟩ ?_ ?_); (case hm => rfl); (case hle => (repeat' (first | exact u_nil | apply u_cons | apply u2_agg | exact u2_int | exact u1_int | exact u2_bool | exact u1_bool | exact u2_sli | exact u1_sli | exact u2_s0 | exact u1_s0))); all_goals (first | (intro b hb; cbv) | (first | exact y1 | exact y2))) | (apply E_callX hE (c_r8Fair ⟨_, ⟨_, _, _, _⟩, ⟨_, _, _, _⟩⟩ ?_ ?_); (case hf => rfl); (case hc => (cbv <;> trivial)); (case hle => (repeat' (first | exact u_nil | apply u_cons | apply u2_agg | exact u2_int | exact u1_int | exact u2_bool | exact u1_bool | exact u2_sli | exact u1_sli | exact u2_s0 | exact u1_s0))); all_goals (first | (intro b hb; cbv) | (first | exact y1 | exact y2))))
  replace ha : a = x.fair := ha
  replace hb : b = y.fair := hb
  rw [← ha] at D fa
  rw [← hb] at D fb
  clear ha hb
  refine E_br hE (fun g1 => ?_) (fun g1 => ?_) <;> cbv
  · (first | (apply E_pcallX hE (c_r8None); (case hm => rfl); (case hle => (repeat' (first | exact u_nil | apply u_cons | apply u2_agg | exact u2_int | exact u1_int | exact u2_bool | exact u1_bool | exact u2_sli | exact u1_sli | exact u2_s0 | exact u1_s0))); all_goals (first | (intro t ht; cbv) | (assumption))) | (apply E_callX hE (c_r8None); (case hf => rfl); (case hc => (cbv <;> trivial)); (case hle => (repeat' (first | exact u_nil | apply u_cons | apply u2_agg | exact u2_int | exact u1_int | exact u2_bool | exact u1_bool | exact u2_sli | exact u1_sli | exact u2_s0 | exact u1_s0))); all_goals (first | (intro t ht; cbv) | (assumption))))
    have T : t = r := by rw [D.emp (by rw [g1]; rfl)]; exact ht
    rw [T]; exact ⟨rfl, rfl, rfl, rfl, rfl, rfl, rfl, rfl, rfl, trivial⟩
  refine E_br hE (fun g2 => ?_) (fun g2 => ?_) <;> cbv
  · (first | (apply E_pcallX hE (c_r8None); (case hm => rfl); (case hle => (repeat' (first | exact u_nil | apply u_cons | apply u2_agg | exact u2_int | exact u1_int | exact u2_bool | exact u1_bool | exact u2_sli | exact u1_sli | exact u2_s0 | exact u1_s0))); all_goals (first | (intro t ht; cbv) | (assumption))) | (apply E_callX hE (c_r8None); (case hf => rfl); (case hc => (cbv <;> trivial)); (case hle => (repeat' (first | exact u_nil | apply u_cons | apply u2_agg | exact u2_int | exact u1_int | exact u2_bool | exact u1_bool | exact u2_sli | exact u1_sli | exact u2_s0 | exact u1_s0))); all_goals (first | (intro t ht; cbv) | (assumption))))
    have T : t = r := by rw [D.emp (by rw [g1, g2]; rfl)]; exact ht
    rw [T]; exact ⟨rfl, rfl, rfl, rfl, rfl, rfl, rfl, rfl, rfl, trivial⟩
  have ne : (a.empty || b.empty) = false := by rw [g1, g2]; rfl
  (first | (apply E_pcallX hE (c_r8Point ⟨0, false, 0, 0⟩ ?_); (case hm => rfl); (case hle => (repeat' (first | exact u_nil | apply u_cons | apply u2_agg | exact u2_int | exact u1_int | exact u2_bool | exact u1_bool | exact u2_sli | exact u1_sli | exact u2_s0 | exact u1_s0))); all_goals (first | (intro p hp; cbv) | (exact Num.zero_ok))) | (apply E_callX hE (c_r8Point ⟨0, false, 0, 0⟩ ?_); (case hf => rfl); (case hc => (cbv <;> trivial)); (case hle => (repeat' (first | exact u_nil | apply u_cons | apply u2_agg | exact u2_int | exact u1_int | exact u2_bool | exact u1_bool | exact u2_sli | exact u1_sli | exact u2_s0 | exact u1_s0))); all_goals (first | (intro p hp; cbv) | (exact Num.zero_ok))))
  replace hp : p = Iv.point Num.zero := hp
  have EQ := ivEq_of hE b p
  refine E_br hE (fun g3 => ?_) (fun g3 => ?_) <;> cbv
  · have bp : b = Iv.point Num.zero := (of_decide_eq_true (EQ.symm.trans g3)).trans hp
    clear EQ g3
    (first | (apply E_pcallX hE (c_r8None); (case hm => rfl); (case hle => (repeat' (first | exact u_nil | apply u_cons | apply u2_agg | exact u2_int | exact u1_int | exact u2_bool | exact u1_bool | exact u2_sli | exact u1_sli | exact u2_s0 | exact u1_s0))); all_goals (first | (intro t ht; cbv) | (assumption))) | (apply E_callX hE (c_r8None); (case hf => rfl); (case hc => (cbv <;> trivial)); (case hle => (repeat' (first | exact u_nil | apply u_cons | apply u2_agg | exact u2_int | exact u1_int | exact u2_bool | exact u1_bool | exact u2_sli | exact u1_sli | exact u2_s0 | exact u1_s0))); all_goals (first | (intro t ht; cbv) | (assumption))))
    have T : t = r := by rw [D.ptz bp]; exact ht
    rw [T]; exact ⟨rfl, rfl, rfl, rfl, rfl, rfl, rfl, rfl, rfl, trivial⟩
  have nb : b ≠ Iv.point Num.zero := fun k => (of_decide_eq_false (EQ.symm.trans g3)) (k.trans hp.symm)
  clear EQ g3
  (first | (apply E_pcallX hE (c_r8Has ⟨_, ⟨_, _, _, _⟩, ⟨_, _, _, _⟩⟩ ⟨0, false, 0, 0⟩ ?_ ?_ ?_); (case hm => rfl); (case hle => (repeat' (first | exact u_nil | apply u_cons | apply u2_agg | exact u2_int | exact u1_int | exact u2_bool | exact u1_bool | exact u2_sli | exact u1_sli | exact u2_s0 | exact u1_s0))); all_goals (first | (intro z hz; cbv) | (first | exact Num.zero_ok | exact fb.1 | exact fb.2))) | (apply E_callX hE (c_r8Has ⟨_, ⟨_, _, _, _⟩, ⟨_, _, _, _⟩⟩ ⟨0, false, 0, 0⟩ ?_ ?_ ?_); (case hf => rfl); (case hc => (cbv <;> trivial)); (case hle => (repeat' (first | exact u_nil | apply u_cons | apply u2_agg | exact u2_int | exact u1_int | exact u2_bool | exact u1_bool | exact u2_sli | exact u1_sli | exact u2_s0 | exact u1_s0))); all_goals (first | (intro z hz; cbv) | (first | exact Num.zero_ok | exact fb.1 | exact fb.2))))
  replace hz : z = Iv.has b Num.zero := hz
  refine E_br hE (fun g4 => ?_) (fun g4 => ?_) <;> cbv
  · have zf : Iv.has b Num.zero = false := by rw [← hz]; subst hE; have k : (!z) = true := g4; simpa using k
    (first | (apply E_pcallX hE (c_r9whole ⟨_, ⟨_, _, _, _⟩, ⟨_, _, _, _⟩⟩ ⟨_, ⟨_, _, _, _⟩, ⟨_, _, _, _⟩⟩ ?_ ?_); (case hm => rfl); (case hle => (repeat' (first | exact u_nil | apply u_cons | apply u2_agg | exact u2_int | exact u1_int | exact u2_bool | exact u1_bool | exact u2_sli | exact u1_sli | exact u2_s0 | exact u1_s0))); all_goals (first | (intro t ht; cbv) | (first | exact fa | exact fb))) | (apply E_callX hE (c_r9whole ⟨_, ⟨_, _, _, _⟩, ⟨_, _, _, _⟩⟩ ⟨_, ⟨_, _, _, _⟩, ⟨_, _, _, _⟩⟩ ?_ ?_); (case hf => rfl); (case hc => (cbv <;> trivial)); (case hle => (repeat' (first | exact u_nil | apply u_cons | apply u2_agg | exact u2_int | exact u1_int | exact u2_bool | exact u1_bool | exact u2_sli | exact u1_sli | exact u2_s0 | exact u1_s0))); all_goals (first | (intro t ht; cbv) | (first | exact fa | exact fb))))
    have T : t = r := by rw [D.who ne nb zf]; exact ht
    rw [T]; exact ⟨rfl, rfl, rfl, rfl, rfl, rfl, rfl, rfl, rfl, trivial⟩
  have zt : Iv.has b Num.zero = true := by rw [← hz]; subst hE; have k : (!z) = false := g4; simpa using k
  clear hz g4
  (first | (apply E_pcallX hE (c_rSign ⟨_, _, _, _⟩); (case hm => rfl); (case hle => (repeat' (first | exact u_nil | apply u_cons | apply u2_agg | exact u2_int | exact u1_int | exact u2_bool | exact u1_bool | exact u2_sli | exact u1_sli | exact u2_s0 | exact u1_s0))); all_goals (first | (intro l0 hl0; cbv) | (assumption))) | (apply E_callX hE (c_rSign ⟨_, _, _, _⟩); (case hf => rfl); (case hc => (cbv <;> trivial)); (case hle => (repeat' (first | exact u_nil | apply u_cons | apply u2_agg | exact u2_int | exact u1_int | exact u2_bool | exact u1_bool | exact u2_sli | exact u1_sli | exact u2_s0 | exact u1_s0))); all_goals (first | (intro l0 hl0; cbv) | (assumption))))
  refine E_nm hE (fun l1 hl1 => ?_)
  have hl : l1 = b.lo.sign := hl1.trans hl0
  cbv
  (first | (apply E_pcallX hE (c_rSign ⟨_, _, _, _⟩); (case hm => rfl); (case hle => (repeat' (first | exact u_nil | apply u_cons | apply u2_agg | exact u2_int | exact u1_int | exact u2_bool | exact u1_bool | exact u2_sli | exact u1_sli | exact u2_s0 | exact u1_s0))); all_goals (first | (intro h0 hh0; cbv) | (assumption))) | (apply E_callX hE (c_rSign ⟨_, _, _, _⟩); (case hf => rfl); (case hc => (cbv <;> trivial)); (case hle => (repeat' (first | exact u_nil | apply u_cons | apply u2_agg | exact u2_int | exact u1_int | exact u2_bool | exact u1_bool | exact u2_sli | exact u1_sli | exact u2_s0 | exact u1_s0))); all_goals (first | (intro h0 hh0; cbv) | (assumption))))
  refine E_nm hE (fun h1 hh1 => ?_)
  have hh : h1 = b.hi.sign := hh1.trans hh0
  cbv
  (first | (apply E_pcallX hE (c_r8Has ⟨_, ⟨_, _, _, _⟩, ⟨_, _, _, _⟩⟩ ⟨0, false, 0, 0⟩ ?_ ?_ ?_); (case hm => rfl); (case hle => (repeat' (first | exact u_nil | apply u_cons | apply u2_agg | exact u2_int | exact u1_int | exact u2_bool | exact u1_bool | exact u2_sli | exact u1_sli | exact u2_s0 | exact u1_s0))); all_goals (first | (intro i hi; cbv) | (first | exact Num.zero_ok | exact fa.1 | exact fa.2))) | (apply E_callX hE (c_r8Has ⟨_, ⟨_, _, _, _⟩, ⟨_, _, _, _⟩⟩ ⟨0, false, 0, 0⟩ ?_ ?_ ?_); (case hf => rfl); (case hc => (cbv <;> trivial)); (case hle => (repeat' (first | exact u_nil | apply u_cons | apply u2_agg | exact u2_int | exact u1_int | exact u2_bool | exact u1_bool | exact u2_sli | exact u1_sli | exact u2_s0 | exact u1_s0))); all_goals (first | (intro i hi; cbv) | (first | exact Num.zero_ok | exact fa.1 | exact fa.2))))
  replace hi : i = Iv.has a Num.zero := hi
  refine E_br hE (fun g5 => ?_) (fun g5 => ?_) <;> cbv
  · (first | (apply E_pcallX hE (c_r8All); (case hm => rfl); (case hle => (repeat' (first | exact u_nil | apply u_cons | apply u2_agg | exact u2_int | exact u1_int | exact u2_bool | exact u1_bool | exact u2_sli | exact u1_sli | exact u2_s0 | exact u1_s0))); all_goals (first | (intro t ht; cbv) | (assumption))) | (apply E_callX hE (c_r8All); (case hf => rfl); (case hc => (cbv <;> trivial)); (case hle => (repeat' (first | exact u_nil | apply u_cons | apply u2_agg | exact u2_int | exact u1_int | exact u2_bool | exact u1_bool | exact u2_sli | exact u1_sli | exact u2_s0 | exact u1_s0))); all_goals (first | (intro t ht; cbv) | (assumption))))
    have T : t = r := by rw [D.all ne nb zt (.inl (by rw [← hi]; exact g5))]; exact ht
    rw [T]; exact ⟨rfl, rfl, rfl, rfl, rfl, rfl, rfl, rfl, rfl, trivial⟩
  have ni : ¬ Iv.has a Num.zero = true := by rw [← hi, g5]; decide
  clear hi g5
  refine E_br hE (fun g6 => ?_) (fun g6 => ?_) <;> cbv
  · refine E_br hE (fun g7 => ?_) (fun g7 => ?_) <;> cbv
    · (first | (apply E_pcallX hE (c_r8All); (case hm => rfl); (case hle => (repeat' (first | exact u_nil | apply u_cons | apply u2_agg | exact u2_int | exact u1_int | exact u2_bool | exact u1_bool | exact u2_sli | exact u1_sli | exact u2_s0 | exact u1_s0))); all_goals (first | (intro t ht; cbv) | (assumption))) | (apply E_callX hE (c_r8All); (case hf => rfl); (case hc => (cbv <;> trivial)); (case hle => (repeat' (first | exact u_nil | apply u_cons | apply u2_agg | exact u2_int | exact u1_int | exact u2_bool | exact u1_bool | exact u2_sli | exact u1_sli | exact u2_s0 | exact u1_s0))); all_goals (first | (intro t ht; cbv) | (assumption))))
      have T : t = r := by rw [D.all ne nb zt (.inr ⟨by rw [← hl]; subst hE; exact lss_t g6, by rw [← hh]; subst hE; exact gtr_t g7⟩)]; exact ht
      rw [T]; exact ⟨rfl, rfl, rfl, rfl, rfl, rfl, rfl, rfl, rfl, trivial⟩
    have hn : ¬ (Iv.has a Num.zero = true ∨ (b.lo.sign < 0 ∧ 0 < b.hi.sign)) := fun k => k.elim ni (fun q => (by rw [← hh]; subst hE; exact gtr_f g7 : ¬ 0 < b.hi.sign) q.2)
    have H := D.hal ne nb zt hn
    clear D hn
    refine E_br hE (fun g8 => ?_) (fun g8 => ?_) <;> cbv
    · have hq0 :  b.hi.sign = 0 := by rw [← hh]; subst hE; exact eql_t g8
      (first | (apply E_pcallX hE (c_rSign ⟨_, _, _, _⟩); (case hm => rfl); (case hle => (repeat' (first | exact u_nil | apply u_cons | apply u2_agg | exact u2_int | exact u1_int | exact u2_bool | exact u1_bool | exact u2_sli | exact u1_sli | exact u2_s0 | exact u1_s0))); all_goals (first | (intro s0 hs0; cbv) | (assumption))) | (apply E_callX hE (c_rSign ⟨_, _, _, _⟩); (case hf => rfl); (case hc => (cbv <;> trivial)); (case hle => (repeat' (first | exact u_nil | apply u_cons | apply u2_agg | exact u2_int | exact u1_int | exact u2_bool | exact u1_bool | exact u2_sli | exact u1_sli | exact u2_s0 | exact u1_s0))); all_goals (first | (intro s0 hs0; cbv) | (assumption))))
      replace hs0 : s0 = a.lo.sign := hs0
      refine E_br hE (fun g10 => ?_) (fun g10 => ?_) <;> cbv
      · have hs1 :  a.lo.sign < 0 := by rw [← hs0]; subst hE; exact lss_t g10
        rw [if_pos hs1, if_pos hq0] at H
        (first | (apply E_pcallX hE (c_rSign ⟨_, _, _, _⟩); (case hm => rfl); (case hle => (repeat' (first | exact u_nil | apply u_cons | apply u2_agg | exact u2_int | exact u1_int | exact u2_bool | exact u1_bool | exact u2_sli | exact u1_sli | exact u2_s0 | exact u1_s0))); all_goals (first | (intro sn hsn; cbv) | (assumption))) | (apply E_callX hE (c_rSign ⟨_, _, _, _⟩); (case hf => rfl); (case hc => (cbv <;> trivial)); (case hle => (repeat' (first | exact u_nil | apply u_cons | apply u2_agg | exact u2_int | exact u1_int | exact u2_bool | exact u1_bool | exact u2_sli | exact u1_sli | exact u2_s0 | exact u1_s0))); all_goals (first | (intro sn hsn; cbv) | (assumption))))
        (first | (apply E_pcallX hE (c_rSign ⟨_, _, _, _⟩); (case hm => rfl); (case hle => (repeat' (first | exact u_nil | apply u_cons | apply u2_agg | exact u2_int | exact u1_int | exact u2_bool | exact u1_bool | exact u2_sli | exact u1_sli | exact u2_s0 | exact u1_s0))); all_goals (first | (intro se hse; cbv) | (assumption))) | (apply E_callX hE (c_rSign ⟨_, _, _, _⟩); (case hf => rfl); (case hc => (cbv <;> trivial)); (case hle => (repeat' (first | exact u_nil | apply u_cons | apply u2_agg | exact u2_int | exact u1_int | exact u2_bool | exact u1_bool | exact u2_sli | exact u1_sli | exact u2_s0 | exact u1_s0))); all_goals (first | (intro se hse; cbv) | (assumption))))
        replace hsn : sn = a.hi.sign := hsn
        replace hse : se = b.lo.sign := hse
        refine E_br hE (fun g9 => ?_) (fun g9 => ?_) <;> cbv
        · have HH := H.trans (half_t (by rw [← hsn, ← hse]; subst hE; exact eql_t g9))
          clear H
          (first | (apply E_pcallX hE (c_r7Div ⟨_, _, _, _⟩ ⟨_, _, _, _⟩ false ?_ ?_); (case hm => rfl); (case hle => (repeat' (first | exact u_nil | apply u_cons | apply u2_agg | exact u2_int | exact u1_int | exact u2_bool | exact u1_bool | exact u2_sli | exact u1_sli | exact u2_s0 | exact u1_s0))); all_goals (first | (intro q hq; cbv) | (first | exact fa.1 | exact fa.2 | exact fb.1 | exact fb.2))) | (apply E_callX hE (c_r7Div ⟨_, _, _, _⟩ ⟨_, _, _, _⟩ false ?_ ?_); (case hf => rfl); (case hc => (cbv <;> trivial)); (case hle => (repeat' (first | exact u_nil | apply u_cons | apply u2_agg | exact u2_int | exact u1_int | exact u2_bool | exact u1_bool | exact u2_sli | exact u1_sli | exact u2_s0 | exact u1_s0))); all_goals (first | (intro q hq; cbv) | (first | exact fa.1 | exact fa.2 | exact fb.1 | exact fb.2))))
          (first | (apply E_pcallX hE (c_rInf _); (case hm => rfl); (case hle => (repeat' (first | exact u_nil | apply u_cons | apply u2_agg | exact u2_int | exact u1_int | exact u2_bool | exact u1_bool | exact u2_sli | exact u1_sli | exact u2_s0 | exact u1_s0))); all_goals (first | (intro f hf; cbv) | (assumption))) | (apply E_callX hE (c_rInf _); (case hf => rfl); (case hc => (cbv <;> trivial)); (case hle => (repeat' (first | exact u_nil | apply u_cons | apply u2_agg | exact u2_int | exact u1_int | exact u2_bool | exact u1_bool | exact u2_sli | exact u1_sli | exact u2_s0 | exact u1_s0))); all_goals (first | (intro f hf; cbv) | (assumption))))
          have qo : q.ok := by rw [show q = Num.div a.hi b.lo false from hq]; exact Num.div_ok (by first | exact fa.1 | exact fa.2 | exact fb.1 | exact fb.2) (by first | exact fa.1 | exact fa.2 | exact fb.1 | exact fb.2) _
          have fo : f.ok := by rw [show f = Num.inf false from hf]; exact Num.inf_ok _
          (first | (apply E_pcallX hE (c_r8Make ⟨_, _, _, _⟩ ⟨_, _, _, _⟩ ?_ ?_); (case hm => rfl); (case hle => (repeat' (first | exact u_nil | apply u_cons | apply u2_agg | exact u2_int | exact u1_int | exact u2_bool | exact u1_bool | exact u2_sli | exact u1_sli | exact u2_s0 | exact u1_s0))); all_goals (first | (intro t ht; cbv) | (first | exact qo | exact fo))) | (apply E_callX hE (c_r8Make ⟨_, _, _, _⟩ ⟨_, _, _, _⟩ ?_ ?_); (case hf => rfl); (case hc => (cbv <;> trivial)); (case hle => (repeat' (first | exact u_nil | apply u_cons | apply u2_agg | exact u2_int | exact u1_int | exact u2_bool | exact u1_bool | exact u2_sli | exact u1_sli | exact u2_s0 | exact u1_s0))); all_goals (first | (intro t ht; cbv) | (first | exact qo | exact fo))))
          have T : t = r := by rw [HH, ← show q = Num.div a.hi b.lo false from hq, ← show f = Num.inf false from hf]; exact ht
          rw [T]; exact ⟨rfl, rfl, rfl, rfl, rfl, rfl, rfl, rfl, rfl, trivial⟩
        · have HH := H.trans (half_f (by rw [← hsn, ← hse]; subst hE; exact eql_f g9))
          clear H
          (first | (apply E_pcallX hE (c_rInf _); (case hm => rfl); (case hle => (repeat' (first | exact u_nil | apply u_cons | apply u2_agg | exact u2_int | exact u1_int | exact u2_bool | exact u1_bool | exact u2_sli | exact u1_sli | exact u2_s0 | exact u1_s0))); all_goals (first | (intro f hf; cbv) | (assumption))) | (apply E_callX hE (c_rInf _); (case hf => rfl); (case hc => (cbv <;> trivial)); (case hle => (repeat' (first | exact u_nil | apply u_cons | apply u2_agg | exact u2_int | exact u1_int | exact u2_bool | exact u1_bool | exact u2_sli | exact u1_sli | exact u2_s0 | exact u1_s0))); all_goals (first | (intro f hf; cbv) | (assumption))))
          (first | (apply E_pcallX hE (c_r7Div ⟨_, _, _, _⟩ ⟨_, _, _, _⟩ true ?_ ?_); (case hm => rfl); (case hle => (repeat' (first | exact u_nil | apply u_cons | apply u2_agg | exact u2_int | exact u1_int | exact u2_bool | exact u1_bool | exact u2_sli | exact u1_sli | exact u2_s0 | exact u1_s0))); all_goals (first | (intro q hq; cbv) | (first | exact fa.1 | exact fa.2 | exact fb.1 | exact fb.2))) | (apply E_callX hE (c_r7Div ⟨_, _, _, _⟩ ⟨_, _, _, _⟩ true ?_ ?_); (case hf => rfl); (case hc => (cbv <;> trivial)); (case hle => (repeat' (first | exact u_nil | apply u_cons | apply u2_agg | exact u2_int | exact u1_int | exact u2_bool | exact u1_bool | exact u2_sli | exact u1_sli | exact u2_s0 | exact u1_s0))); all_goals (first | (intro q hq; cbv) | (first | exact fa.1 | exact fa.2 | exact fb.1 | exact fb.2))))
          have qo : q.ok := by rw [show q = Num.div a.hi b.lo true from hq]; exact Num.div_ok (by first | exact fa.1 | exact fa.2 | exact fb.1 | exact fb.2) (by first | exact fa.1 | exact fa.2 | exact fb.1 | exact fb.2) _
          have fo : f.ok := by rw [show f = Num.inf true from hf]; exact Num.inf_ok _
          (first | (apply E_pcallX hE (c_r8Make ⟨_, _, _, _⟩ ⟨_, _, _, _⟩ ?_ ?_); (case hm => rfl); (case hle => (repeat' (first | exact u_nil | apply u_cons | apply u2_agg | exact u2_int | exact u1_int | exact u2_bool | exact u1_bool | exact u2_sli | exact u1_sli | exact u2_s0 | exact u1_s0))); all_goals (first | (intro t ht; cbv) | (first | exact qo | exact fo))) | (apply E_callX hE (c_r8Make ⟨_, _, _, _⟩ ⟨_, _, _, _⟩ ?_ ?_); (case hf => rfl); (case hc => (cbv <;> trivial)); (case hle => (repeat' (first | exact u_nil | apply u_cons | apply u2_agg | exact u2_int | exact u1_int | exact u2_bool | exact u1_bool | exact u2_sli | exact u1_sli | exact u2_s0 | exact u1_s0))); all_goals (first | (intro t ht; cbv) | (first | exact qo | exact fo))))
          have T : t = r := by rw [HH, ← show q = Num.div a.hi b.lo true from hq, ← show f = Num.inf true from hf]; exact ht
          rw [T]; exact ⟨rfl, rfl, rfl, rfl, rfl, rfl, rfl, rfl, rfl, trivial⟩
      · have hs1 : ¬ a.lo.sign < 0 := by rw [← hs0]; subst hE; exact lss_f g10
        rw [if_neg hs1, if_pos hq0] at H
        (first | (apply E_pcallX hE (c_rSign ⟨_, _, _, _⟩); (case hm => rfl); (case hle => (repeat' (first | exact u_nil | apply u_cons | apply u2_agg | exact u2_int | exact u1_int | exact u2_bool | exact u1_bool | exact u2_sli | exact u1_sli | exact u2_s0 | exact u1_s0))); all_goals (first | (intro sn hsn; cbv) | (assumption))) | (apply E_callX hE (c_rSign ⟨_, _, _, _⟩); (case hf => rfl); (case hc => (cbv <;> trivial)); (case hle => (repeat' (first | exact u_nil | apply u_cons | apply u2_agg | exact u2_int | exact u1_int | exact u2_bool | exact u1_bool | exact u2_sli | exact u1_sli | exact u2_s0 | exact u1_s0))); all_goals (first | (intro sn hsn; cbv) | (assumption))))
        (first | (apply E_pcallX hE (c_rSign ⟨_, _, _, _⟩); (case hm => rfl); (case hle => (repeat' (first | exact u_nil | apply u_cons | apply u2_agg | exact u2_int | exact u1_int | exact u2_bool | exact u1_bool | exact u2_sli | exact u1_sli | exact u2_s0 | exact u1_s0))); all_goals (first | (intro se hse; cbv) | (assumption))) | (apply E_callX hE (c_rSign ⟨_, _, _, _⟩); (case hf => rfl); (case hc => (cbv <;> trivial)); (case hle => (repeat' (first | exact u_nil | apply u_cons | apply u2_agg | exact u2_int | exact u1_int | exact u2_bool | exact u1_bool | exact u2_sli | exact u1_sli | exact u2_s0 | exact u1_s0))); all_goals (first | (intro se hse; cbv) | (assumption))))
        replace hsn : sn = a.lo.sign := hsn
        replace hse : se = b.lo.sign := hse
        refine E_br hE (fun g9 => ?_) (fun g9 => ?_) <;> cbv
        · have HH := H.trans (half_t (by rw [← hsn, ← hse]; subst hE; exact eql_t g9))
          clear H
          (first | (apply E_pcallX hE (c_r7Div ⟨_, _, _, _⟩ ⟨_, _, _, _⟩ false ?_ ?_); (case hm => rfl); (case hle => (repeat' (first | exact u_nil | apply u_cons | apply u2_agg | exact u2_int | exact u1_int | exact u2_bool | exact u1_bool | exact u2_sli | exact u1_sli | exact u2_s0 | exact u1_s0))); all_goals (first | (intro q hq; cbv) | (first | exact fa.1 | exact fa.2 | exact fb.1 | exact fb.2))) | (apply E_callX hE (c_r7Div ⟨_, _, _, _⟩ ⟨_, _, _, _⟩ false ?_ ?_); (case hf => rfl); (case hc => (cbv <;> trivial)); (case hle => (repeat' (first | exact u_nil | apply u_cons | apply u2_agg | exact u2_int | exact u1_int | exact u2_bool | exact u1_bool | exact u2_sli | exact u1_sli | exact u2_s0 | exact u1_s0))); all_goals (first | (intro q hq; cbv) | (first | exact fa.1 | exact fa.2 | exact fb.1 | exact fb.2))))
          (first | (apply E_pcallX hE (c_rInf _); (case hm => rfl); (case hle => (repeat' (first | exact u_nil | apply u_cons | apply u2_agg | exact u2_int | exact u1_int | exact u2_bool | exact u1_bool | exact u2_sli | exact u1_sli | exact u2_s0 | exact u1_s0))); all_goals (first | (intro f hf; cbv) | (assumption))) | (apply E_callX hE (c_rInf _); (case hf => rfl); (case hc => (cbv <;> trivial)); (case hle => (repeat' (first | exact u_nil | apply u_cons | apply u2_agg | exact u2_int | exact u1_int | exact u2_bool | exact u1_bool | exact u2_sli | exact u1_sli | exact u2_s0 | exact u1_s0))); all_goals (first | (intro f hf; cbv) | (assumption))))
          have qo : q.ok := by rw [show q = Num.div a.lo b.lo false from hq]; exact Num.div_ok (by first | exact fa.1 | exact fa.2 | exact fb.1 | exact fb.2) (by first | exact fa.1 | exact fa.2 | exact fb.1 | exact fb.2) _
          have fo : f.ok := by rw [show f = Num.inf false from hf]; exact Num.inf_ok _
          (first | (apply E_pcallX hE (c_r8Make ⟨_, _, _, _⟩ ⟨_, _, _, _⟩ ?_ ?_); (case hm => rfl); (case hle => (repeat' (first | exact u_nil | apply u_cons | apply u2_agg | exact u2_int | exact u1_int | exact u2_bool | exact u1_bool | exact u2_sli | exact u1_sli | exact u2_s0 | exact u1_s0))); all_goals (first | (intro t ht; cbv) | (first | exact qo | exact fo))) | (apply E_callX hE (c_r8Make ⟨_, _, _, _⟩ ⟨_, _, _, _⟩ ?_ ?_); (case hf => rfl); (case hc => (cbv <;> trivial)); (case hle => (repeat' (first | exact u_nil | apply u_cons | apply u2_agg | exact u2_int | exact u1_int | exact u2_bool | exact u1_bool | exact u2_sli | exact u1_sli | exact u2_s0 | exact u1_s0))); all_goals (first | (intro t ht; cbv) | (first | exact qo | exact fo))))
          have T : t = r := by rw [HH, ← show q = Num.div a.lo b.lo false from hq, ← show f = Num.inf false from hf]; exact ht
          rw [T]; exact ⟨rfl, rfl, rfl, rfl, rfl, rfl, rfl, rfl, rfl, trivial⟩
        · have HH := H.trans (half_f (by rw [← hsn, ← hse]; subst hE; exact eql_f g9))
          clear H
          (first | (apply E_pcallX hE (c_rInf _); (case hm => rfl); (case hle => (repeat' (first | exact u_nil | apply u_cons | apply u2_agg | exact u2_int | exact u1_int | exact u2_bool | exact u1_bool | exact u2_sli | exact u1_sli | exact u2_s0 | exact u1_s0))); all_goals (first | (intro f hf; cbv) | (assumption))) | (apply E_callX hE (c_rInf _); (case hf => rfl); (case hc => (cbv <;> trivial)); (case hle => (repeat' (first | exact u_nil | apply u_cons | apply u2_agg | exact u2_int | exact u1_int | exact u2_bool | exact u1_bool | exact u2_sli | exact u1_sli | exact u2_s0 | exact u1_s0))); all_goals (first | (intro f hf; cbv) | (assumption))))
          (first | (apply E_pcallX hE (c_r7Div ⟨_, _, _, _⟩ ⟨_, _, _, _⟩ true ?_ ?_); (case hm => rfl); (case hle => (repeat' (first | exact u_nil | apply u_cons | apply u2_agg | exact u2_int | exact u1_int | exact u2_bool | exact u1_bool | exact u2_sli | exact u1_sli | exact u2_s0 | exact u1_s0))); all_goals (first | (intro q hq; cbv) | (first | exact fa.1 | exact fa.2 | exact fb.1 | exact fb.2))) | (apply E_callX hE (c_r7Div ⟨_, _, _, _⟩ ⟨_, _, _, _⟩ true ?_ ?_); (case hf => rfl); (case hc => (cbv <;> trivial)); (case hle => (repeat' (first | exact u_nil | apply u_cons | apply u2_agg | exact u2_int | exact u1_int | exact u2_bool | exact u1_bool | exact u2_sli | exact u1_sli | exact u2_s0 | exact u1_s0))); all_goals (first | (intro q hq; cbv) | (first | exact fa.1 | exact fa.2 | exact fb.1 | exact fb.2))))
          have qo : q.ok := by rw [show q = Num.div a.lo b.lo true from hq]; exact Num.div_ok (by first | exact fa.1 | exact fa.2 | exact fb.1 | exact fb.2) (by first | exact fa.1 | exact fa.2 | exact fb.1 | exact fb.2) _
          have fo : f.ok := by rw [show f = Num.inf true from hf]; exact Num.inf_ok _
          (first | (apply E_pcallX hE (c_r8Make ⟨_, _, _, _⟩ ⟨_, _, _, _⟩ ?_ ?_); (case hm => rfl); (case hle => (repeat' (first | exact u_nil | apply u_cons | apply u2_agg | exact u2_int | exact u1_int | exact u2_bool | exact u1_bool | exact u2_sli | exact u1_sli | exact u2_s0 | exact u1_s0))); all_goals (first | (intro t ht; cbv) | (first | exact qo | exact fo))) | (apply E_callX hE (c_r8Make ⟨_, _, _, _⟩ ⟨_, _, _, _⟩ ?_ ?_); (case hf => rfl); (case hc => (cbv <;> trivial)); (case hle => (repeat' (first | exact u_nil | apply u_cons | apply u2_agg | exact u2_int | exact u1_int | exact u2_bool | exact u1_bool | exact u2_sli | exact u1_sli | exact u2_s0 | exact u1_s0))); all_goals (first | (intro t ht; cbv) | (first | exact qo | exact fo))))
          have T : t = r := by rw [HH, ← show q = Num.div a.lo b.lo true from hq, ← show f = Num.inf true from hf]; exact ht
          rw [T]; exact ⟨rfl, rfl, rfl, rfl, rfl, rfl, rfl, rfl, rfl, trivial⟩
    · have hq0 : ¬ b.hi.sign = 0 := by rw [← hh]; subst hE; exact eql_f g8
      (first | (apply E_pcallX hE (c_rSign ⟨_, _, _, _⟩); (case hm => rfl); (case hle => (repeat' (first | exact u_nil | apply u_cons | apply u2_agg | exact u2_int | exact u1_int | exact u2_bool | exact u1_bool | exact u2_sli | exact u1_sli | exact u2_s0 | exact u1_s0))); all_goals (first | (intro s0 hs0; cbv) | (assumption))) | (apply E_callX hE (c_rSign ⟨_, _, _, _⟩); (case hf => rfl); (case hc => (cbv <;> trivial)); (case hle => (repeat' (first | exact u_nil | apply u_cons | apply u2_agg | exact u2_int | exact u1_int | exact u2_bool | exact u1_bool | exact u2_sli | exact u1_sli | exact u2_s0 | exact u1_s0))); all_goals (first | (intro s0 hs0; cbv) | (assumption))))
      replace hs0 : s0 = a.lo.sign := hs0
      refine E_br hE (fun g10 => ?_) (fun g10 => ?_) <;> cbv
      · have hs1 :  a.lo.sign < 0 := by rw [← hs0]; subst hE; exact lss_t g10
        rw [if_pos hs1, if_neg hq0] at H
        (first | (apply E_pcallX hE (c_rSign ⟨_, _, _, _⟩); (case hm => rfl); (case hle => (repeat' (first | exact u_nil | apply u_cons | apply u2_agg | exact u2_int | exact u1_int | exact u2_bool | exact u1_bool | exact u2_sli | exact u1_sli | exact u2_s0 | exact u1_s0))); all_goals (first | (intro sn hsn; cbv) | (assumption))) | (apply E_callX hE (c_rSign ⟨_, _, _, _⟩); (case hf => rfl); (case hc => (cbv <;> trivial)); (case hle => (repeat' (first | exact u_nil | apply u_cons | apply u2_agg | exact u2_int | exact u1_int | exact u2_bool | exact u1_bool | exact u2_sli | exact u1_sli | exact u2_s0 | exact u1_s0))); all_goals (first | (intro sn hsn; cbv) | (assumption))))
        (first | (apply E_pcallX hE (c_rSign ⟨_, _, _, _⟩); (case hm => rfl); (case hle => (repeat' (first | exact u_nil | apply u_cons | apply u2_agg | exact u2_int | exact u1_int | exact u2_bool | exact u1_bool | exact u2_sli | exact u1_sli | exact u2_s0 | exact u1_s0))); all_goals (first | (intro se hse; cbv) | (assumption))) | (apply E_callX hE (c_rSign ⟨_, _, _, _⟩); (case hf => rfl); (case hc => (cbv <;> trivial)); (case hle => (repeat' (first | exact u_nil | apply u_cons | apply u2_agg | exact u2_int | exact u1_int | exact u2_bool | exact u1_bool | exact u2_sli | exact u1_sli | exact u2_s0 | exact u1_s0))); all_goals (first | (intro se hse; cbv) | (assumption))))
        replace hsn : sn = a.hi.sign := hsn
        replace hse : se = b.hi.sign := hse
        refine E_br hE (fun g9 => ?_) (fun g9 => ?_) <;> cbv
        · have HH := H.trans (half_t (by rw [← hsn, ← hse]; subst hE; exact eql_t g9))
          clear H
          (first | (apply E_pcallX hE (c_r7Div ⟨_, _, _, _⟩ ⟨_, _, _, _⟩ false ?_ ?_); (case hm => rfl); (case hle => (repeat' (first | exact u_nil | apply u_cons | apply u2_agg | exact u2_int | exact u1_int | exact u2_bool | exact u1_bool | exact u2_sli | exact u1_sli | exact u2_s0 | exact u1_s0))); all_goals (first | (intro q hq; cbv) | (first | exact fa.1 | exact fa.2 | exact fb.1 | exact fb.2))) | (apply E_callX hE (c_r7Div ⟨_, _, _, _⟩ ⟨_, _, _, _⟩ false ?_ ?_); (case hf => rfl); (case hc => (cbv <;> trivial)); (case hle => (repeat' (first | exact u_nil | apply u_cons | apply u2_agg | exact u2_int | exact u1_int | exact u2_bool | exact u1_bool | exact u2_sli | exact u1_sli | exact u2_s0 | exact u1_s0))); all_goals (first | (intro q hq; cbv) | (first | exact fa.1 | exact fa.2 | exact fb.1 | exact fb.2))))
          (first | (apply E_pcallX hE (c_rInf _); (case hm => rfl); (case hle => (repeat' (first | exact u_nil | apply u_cons | apply u2_agg | exact u2_int | exact u1_int | exact u2_bool | exact u1_bool | exact u2_sli | exact u1_sli | exact u2_s0 | exact u1_s0))); all_goals (first | (intro f hf; cbv) | (assumption))) | (apply E_callX hE (c_rInf _); (case hf => rfl); (case hc => (cbv <;> trivial)); (case hle => (repeat' (first | exact u_nil | apply u_cons | apply u2_agg | exact u2_int | exact u1_int | exact u2_bool | exact u1_bool | exact u2_sli | exact u1_sli | exact u2_s0 | exact u1_s0))); all_goals (first | (intro f hf; cbv) | (assumption))))
          have qo : q.ok := by rw [show q = Num.div a.hi b.hi false from hq]; exact Num.div_ok (by first | exact fa.1 | exact fa.2 | exact fb.1 | exact fb.2) (by first | exact fa.1 | exact fa.2 | exact fb.1 | exact fb.2) _
          have fo : f.ok := by rw [show f = Num.inf false from hf]; exact Num.inf_ok _
          (first | (apply E_pcallX hE (c_r8Make ⟨_, _, _, _⟩ ⟨_, _, _, _⟩ ?_ ?_); (case hm => rfl); (case hle => (repeat' (first | exact u_nil | apply u_cons | apply u2_agg | exact u2_int | exact u1_int | exact u2_bool | exact u1_bool | exact u2_sli | exact u1_sli | exact u2_s0 | exact u1_s0))); all_goals (first | (intro t ht; cbv) | (first | exact qo | exact fo))) | (apply E_callX hE (c_r8Make ⟨_, _, _, _⟩ ⟨_, _, _, _⟩ ?_ ?_); (case hf => rfl); (case hc => (cbv <;> trivial)); (case hle => (repeat' (first | exact u_nil | apply u_cons | apply u2_agg | exact u2_int | exact u1_int | exact u2_bool | exact u1_bool | exact u2_sli | exact u1_sli | exact u2_s0 | exact u1_s0))); all_goals (first | (intro t ht; cbv) | (first | exact qo | exact fo))))
          have T : t = r := by rw [HH, ← show q = Num.div a.hi b.hi false from hq, ← show f = Num.inf false from hf]; exact ht
          rw [T]; exact ⟨rfl, rfl, rfl, rfl, rfl, rfl, rfl, rfl, rfl, trivial⟩
        · have HH := H.trans (half_f (by rw [← hsn, ← hse]; subst hE; exact eql_f g9))
          clear H
          (first | (apply E_pcallX hE (c_rInf _); (case hm => rfl); (case hle => (repeat' (first | exact u_nil | apply u_cons | apply u2_agg | exact u2_int | exact u1_int | exact u2_bool | exact u1_bool | exact u2_sli | exact u1_sli | exact u2_s0 | exact u1_s0))); all_goals (first | (intro f hf; cbv) | (assumption))) | (apply E_callX hE (c_rInf _); (case hf => rfl); (case hc => (cbv <;> trivial)); (case hle => (repeat' (first | exact u_nil | apply u_cons | apply u2_agg | exact u2_int | exact u1_int | exact u2_bool | exact u1_bool | exact u2_sli | exact u1_sli | exact u2_s0 | exact u1_s0))); all_goals (first | (intro f hf; cbv) | (assumption))))
          (first | (apply E_pcallX hE (c_r7Div ⟨_, _, _, _⟩ ⟨_, _, _, _⟩ true ?_ ?_); (case hm => rfl); (case hle => (repeat' (first | exact u_nil | apply u_cons | apply u2_agg | exact u2_int | exact u1_int | exact u2_bool | exact u1_bool | exact u2_sli | exact u1_sli | exact u2_s0 | exact u1_s0))); all_goals (first | (intro q hq; cbv) | (first | exact fa.1 | exact fa.2 | exact fb.1 | exact fb.2))) | (apply E_callX hE (c_r7Div ⟨_, _, _, _⟩ ⟨_, _, _, _⟩ true ?_ ?_); (case hf => rfl); (case hc => (cbv <;> trivial)); (case hle => (repeat' (first | exact u_nil | apply u_cons | apply u2_agg | exact u2_int | exact u1_int | exact u2_bool | exact u1_bool | exact u2_sli | exact u1_sli | exact u2_s0 | exact u1_s0))); all_goals (first | (intro q hq; cbv) | (first | exact fa.1 | exact fa.2 | exact fb.1 | exact fb.2))))
          have qo : q.ok := by rw [show q = Num.div a.hi b.hi true from hq]; exact Num.div_ok (by first | exact fa.1 | exact fa.2 | exact fb.1 | exact fb.2) (by first | exact fa.1 | exact fa.2 | exact fb.1 | exact fb.2) _
          have fo : f.ok := by rw [show f = Num.inf true from hf]; exact Num.inf_ok _
          (first | (apply E_pcallX hE (c_r8Make ⟨_, _, _, _⟩ ⟨_, _, _, _⟩ ?_ ?_); (case hm => rfl); (case hle => (repeat' (first | exact u_nil | apply u_cons | apply u2_agg | exact u2_int | exact u1_int | exact u2_bool | exact u1_bool | exact u2_sli | exact u1_sli | exact u2_s0 | exact u1_s0))); all_goals (first | (intro t ht; cbv) | (first | exact qo | exact fo))) | (apply E_callX hE (c_r8Make ⟨_, _, _, _⟩ ⟨_, _, _, _⟩ ?_ ?_); (case hf => rfl); (case hc => (cbv <;> trivial)); (case hle => (repeat' (first | exact u_nil | apply u_cons | apply u2_agg | exact u2_int | exact u1_int | exact u2_bool | exact u1_bool | exact u2_sli | exact u1_sli | exact u2_s0 | exact u1_s0))); all_goals (first | (intro t ht; cbv) | (first | exact qo | exact fo))))
          have T : t = r := by rw [HH, ← show q = Num.div a.hi b.hi true from hq, ← show f = Num.inf true from hf]; exact ht
          rw [T]; exact ⟨rfl, rfl, rfl, rfl, rfl, rfl, rfl, rfl, rfl, trivial⟩
      · have hs1 : ¬ a.lo.sign < 0 := by rw [← hs0]; subst hE; exact lss_f g10
        rw [if_neg hs1, if_neg hq0] at H
        (first | (apply E_pcallX hE (c_rSign ⟨_, _, _, _⟩); (case hm => rfl); (case hle => (repeat' (first | exact u_nil | apply u_cons | apply u2_agg | exact u2_int | exact u1_int | exact u2_bool | exact u1_bool | exact u2_sli | exact u1_sli | exact u2_s0 | exact u1_s0))); all_goals (first | (intro sn hsn; cbv) | (assumption))) | (apply E_callX hE (c_rSign ⟨_, _, _, _⟩); (case hf => rfl); (case hc => (cbv <;> trivial)); (case hle => (repeat' (first | exact u_nil | apply u_cons | apply u2_agg | exact u2_int | exact u1_int | exact u2_bool | exact u1_bool | exact u2_sli | exact u1_sli | exact u2_s0 | exact u1_s0))); all_goals (first | (intro sn hsn; cbv) | (assumption))))
        (first | (apply E_pcallX hE (c_rSign ⟨_, _, _, _⟩); (case hm => rfl); (case hle => (repeat' (first | exact u_nil | apply u_cons | apply u2_agg | exact u2_int | exact u1_int | exact u2_bool | exact u1_bool | exact u2_sli | exact u1_sli | exact u2_s0 | exact u1_s0))); all_goals (first | (intro se hse; cbv) | (assumption))) | (apply E_callX hE (c_rSign ⟨_, _, _, _⟩); (case hf => rfl); (case hc => (cbv <;> trivial)); (case hle => (repeat' (first | exact u_nil | apply u_cons | apply u2_agg | exact u2_int | exact u1_int | exact u2_bool | exact u1_bool | exact u2_sli | exact u1_sli | exact u2_s0 | exact u1_s0))); all_goals (first | (intro se hse; cbv) | (assumption))))
        replace hsn : sn = a.lo.sign := hsn
        replace hse : se = b.hi.sign := hse
        refine E_br hE (fun g9 => ?_) (fun g9 => ?_) <;> cbv
        · have HH := H.trans (half_t (by rw [← hsn, ← hse]; subst hE; exact eql_t g9))
          clear H
          (first | (apply E_pcallX hE (c_r7Div ⟨_, _, _, _⟩ ⟨_, _, _, _⟩ false ?_ ?_); (case hm => rfl); (case hle => (repeat' (first | exact u_nil | apply u_cons | apply u2_agg | exact u2_int | exact u1_int | exact u2_bool | exact u1_bool | exact u2_sli | exact u1_sli | exact u2_s0 | exact u1_s0))); all_goals (first | (intro q hq; cbv) | (first | exact fa.1 | exact fa.2 | exact fb.1 | exact fb.2))) | (apply E_callX hE (c_r7Div ⟨_, _, _, _⟩ ⟨_, _, _, _⟩ false ?_ ?_); (case hf => rfl); (case hc => (cbv <;> trivial)); (case hle => (repeat' (first | exact u_nil | apply u_cons | apply u2_agg | exact u2_int | exact u1_int | exact u2_bool | exact u1_bool | exact u2_sli | exact u1_sli | exact u2_s0 | exact u1_s0))); all_goals (first | (intro q hq; cbv) | (first | exact fa.1 | exact fa.2 | exact fb.1 | exact fb.2))))
          (first | (apply E_pcallX hE (c_rInf _); (case hm => rfl); (case hle => (repeat' (first | exact u_nil | apply u_cons | apply u2_agg | exact u2_int | exact u1_int | exact u2_bool | exact u1_bool | exact u2_sli | exact u1_sli | exact u2_s0 | exact u1_s0))); all_goals (first | (intro f hf; cbv) | (assumption))) | (apply E_callX hE (c_rInf _); (case hf => rfl); (case hc => (cbv <;> trivial)); (case hle => (repeat' (first | exact u_nil | apply u_cons | apply u2_agg | exact u2_int | exact u1_int | exact u2_bool | exact u1_bool | exact u2_sli | exact u1_sli | exact u2_s0 | exact u1_s0))); all_goals (first | (intro f hf; cbv) | (assumption))))
          have qo : q.ok := by rw [show q = Num.div a.lo b.hi false from hq]; exact Num.div_ok (by first | exact fa.1 | exact fa.2 | exact fb.1 | exact fb.2) (by first | exact fa.1 | exact fa.2 | exact fb.1 | exact fb.2) _
          have fo : f.ok := by rw [show f = Num.inf false from hf]; exact Num.inf_ok _
          (first | (apply E_pcallX hE (c_r8Make ⟨_, _, _, _⟩ ⟨_, _, _, _⟩ ?_ ?_); (case hm => rfl); (case hle => (repeat' (first | exact u_nil | apply u_cons | apply u2_agg | exact u2_int | exact u1_int | exact u2_bool | exact u1_bool | exact u2_sli | exact u1_sli | exact u2_s0 | exact u1_s0))); all_goals (first | (intro t ht; cbv) | (first | exact qo | exact fo))) | (apply E_callX hE (c_r8Make ⟨_, _, _, _⟩ ⟨_, _, _, _⟩ ?_ ?_); (case hf => rfl); (case hc => (cbv <;> trivial)); (case hle => (repeat' (first | exact u_nil | apply u_cons | apply u2_agg | exact u2_int | exact u1_int | exact u2_bool | exact u1_bool | exact u2_sli | exact u1_sli | exact u2_s0 | exact u1_s0))); all_goals (first | (intro t ht; cbv) | (first | exact qo | exact fo))))
          have T : t = r := by rw [HH, ← show q = Num.div a.lo b.hi false from hq, ← show f = Num.inf false from hf]; exact ht
          rw [T]; exact ⟨rfl, rfl, rfl, rfl, rfl, rfl, rfl, rfl, rfl, trivial⟩
        · have HH := H.trans (half_f (by rw [← hsn, ← hse]; subst hE; exact eql_f g9))
          clear H
          (first | (apply E_pcallX hE (c_rInf _); (case hm => rfl); (case hle => (repeat' (first | exact u_nil | apply u_cons | apply u2_agg | exact u2_int | exact u1_int | exact u2_bool | exact u1_bool | exact u2_sli | exact u1_sli | exact u2_s0 | exact u1_s0))); all_goals (first | (intro f hf; cbv) | (assumption))) | (apply E_callX hE (c_rInf _); (case hf => rfl); (case hc => (cbv <;> trivial)); (case hle => (repeat' (first | exact u_nil | apply u_cons | apply u2_agg | exact u2_int | exact u1_int | exact u2_bool | exact u1_bool | exact u2_sli | exact u1_sli | exact u2_s0 | exact u1_s0))); all_goals (first | (intro f hf; cbv) | (assumption))))
          (first | (apply E_pcallX hE (c_r7Div ⟨_, _, _, _⟩ ⟨_, _, _, _⟩ true ?_ ?_); (case hm => rfl); (case hle => (repeat' (first | exact u_nil | apply u_cons | apply u2_agg | exact u2_int | exact u1_int | exact u2_bool | exact u1_bool | exact u2_sli | exact u1_sli | exact u2_s0 | exact u1_s0))); all_goals (first | (intro q hq; cbv) | (first | exact fa.1 | exact fa.2 | exact fb.1 | exact fb.2))) | (apply E_callX hE (c_r7Div ⟨_, _, _, _⟩ ⟨_, _, _, _⟩ true ?_ ?_); (case hf => rfl); (case hc => (cbv <;> trivial)); (case hle => (repeat' (first | exact u_nil | apply u_cons | apply u2_agg | exact u2_int | exact u1_int | exact u2_bool | exact u1_bool | exact u2_sli | exact u1_sli | exact u2_s0 | exact u1_s0))); all_goals (first | (intro q hq; cbv) | (first | exact fa.1 | exact fa.2 | exact fb.1 | exact fb.2))))
          have qo : q.ok := by rw [show q = Num.div a.lo b.hi true from hq]; exact Num.div_ok (by first | exact fa.1 | exact fa.2 | exact fb.1 | exact fb.2) (by first | exact fa.1 | exact fa.2 | exact fb.1 | exact fb.2) _
          have fo : f.ok := by rw [show f = Num.inf true from hf]; exact Num.inf_ok _
          (first | (apply E_pcallX hE (c_r8Make ⟨_, _, _, _⟩ ⟨_, _, _, _⟩ ?_ ?_); (case hm => rfl); (case hle => (repeat' (first | exact u_nil | apply u_cons | apply u2_agg | exact u2_int | exact u1_int | exact u2_bool | exact u1_bool | exact u2_sli | exact u1_sli | exact u2_s0 | exact u1_s0))); all_goals (first | (intro t ht; cbv) | (first | exact qo | exact fo))) | (apply E_callX hE (c_r8Make ⟨_, _, _, _⟩ ⟨_, _, _, _⟩ ?_ ?_); (case hf => rfl); (case hc => (cbv <;> trivial)); (case hle => (repeat' (first | exact u_nil | apply u_cons | apply u2_agg | exact u2_int | exact u1_int | exact u2_bool | exact u1_bool | exact u2_sli | exact u1_sli | exact u2_s0 | exact u1_s0))); all_goals (first | (intro t ht; cbv) | (first | exact qo | exact fo))))
          have T : t = r := by rw [HH, ← show q = Num.div a.lo b.hi true from hq, ← show f = Num.inf true from hf]; exact ht
          rw [T]; exact ⟨rfl, rfl, rfl, rfl, rfl, rfl, rfl, rfl, rfl, trivial⟩
  have hn : ¬ (Iv.has a Num.zero = true ∨ (b.lo.sign < 0 ∧ 0 < b.hi.sign)) := fun k => k.elim ni (fun q => (by rw [← hl]; subst hE; exact lss_f g6 : ¬ b.lo.sign < 0) q.1)
  have H := D.hal ne nb zt hn
  clear D hn
  refine E_br hE (fun g8 => ?_) (fun g8 => ?_) <;> cbv
  · have hq0 :  b.hi.sign = 0 := by rw [← hh]; subst hE; exact eql_t g8
    (first | (apply E_pcallX hE (c_rSign ⟨_, _, _, _⟩); (case hm => rfl); (case hle => (repeat' (first | exact u_nil | apply u_cons | apply u2_agg | exact u2_int | exact u1_int | exact u2_bool | exact u1_bool | exact u2_sli | exact u1_sli | exact u2_s0 | exact u1_s0))); all_goals (first | (intro s0 hs0; cbv) | (assumption))) | (apply E_callX hE (c_rSign ⟨_, _, _, _⟩); (case hf => rfl); (case hc => (cbv <;> trivial)); (case hle => (repeat' (first | exact u_nil | apply u_cons | apply u2_agg | exact u2_int | exact u1_int | exact u2_bool | exact u1_bool | exact u2_sli | exact u1_sli | exact u2_s0 | exact u1_s0))); all_goals (first | (intro s0 hs0; cbv) | (assumption))))
    replace hs0 : s0 = a.lo.sign := hs0
    refine E_br hE (fun g10 => ?_) (fun g10 => ?_) <;> cbv
    · have hs1 :  a.lo.sign < 0 := by rw [← hs0]; subst hE; exact lss_t g10
      rw [if_pos hs1, if_pos hq0] at H
      (first | (apply E_pcallX hE (c_rSign ⟨_, _, _, _⟩); (case hm => rfl); (case hle => (repeat' (first | exact u_nil | apply u_cons | apply u2_agg | exact u2_int | exact u1_int | exact u2_bool | exact u1_bool | exact u2_sli | exact u1_sli | exact u2_s0 | exact u1_s0))); all_goals (first | (intro sn hsn; cbv) | (assumption))) | (apply E_callX hE (c_rSign ⟨_, _, _, _⟩); (case hf => rfl); (case hc => (cbv <;> trivial)); (case hle => (repeat' (first | exact u_nil | apply u_cons | apply u2_agg | exact u2_int | exact u1_int | exact u2_bool | exact u1_bool | exact u2_sli | exact u1_sli | exact u2_s0 | exact u1_s0))); all_goals (first | (intro sn hsn; cbv) | (assumption))))
      (first | (apply E_pcallX hE (c_rSign ⟨_, _, _, _⟩); (case hm => rfl); (case hle => (repeat' (first | exact u_nil | apply u_cons | apply u2_agg | exact u2_int | exact u1_int | exact u2_bool | exact u1_bool | exact u2_sli | exact u1_sli | exact u2_s0 | exact u1_s0))); all_goals (first | (intro se hse; cbv) | (assumption))) | (apply E_callX hE (c_rSign ⟨_, _, _, _⟩); (case hf => rfl); (case hc => (cbv <;> trivial)); (case hle => (repeat' (first | exact u_nil | apply u_cons | apply u2_agg | exact u2_int | exact u1_int | exact u2_bool | exact u1_bool | exact u2_sli | exact u1_sli | exact u2_s0 | exact u1_s0))); all_goals (first | (intro se hse; cbv) | (assumption))))
      replace hsn : sn = a.hi.sign := hsn
      replace hse : se = b.lo.sign := hse
      refine E_br hE (fun g9 => ?_) (fun g9 => ?_) <;> cbv
      · have HH := H.trans (half_t (by rw [← hsn, ← hse]; subst hE; exact eql_t g9))
        clear H
        (first | (apply E_pcallX hE (c_r7Div ⟨_, _, _, _⟩ ⟨_, _, _, _⟩ false ?_ ?_); (case hm => rfl); (case hle => (repeat' (first | exact u_nil | apply u_cons | apply u2_agg | exact u2_int | exact u1_int | exact u2_bool | exact u1_bool | exact u2_sli | exact u1_sli | exact u2_s0 | exact u1_s0))); all_goals (first | (intro q hq; cbv) | (first | exact fa.1 | exact fa.2 | exact fb.1 | exact fb.2))) | (apply E_callX hE (c_r7Div ⟨_, _, _, _⟩ ⟨_, _, _, _⟩ false ?_ ?_); (case hf => rfl); (case hc => (cbv <;> trivial)); (case hle => (repeat' (first | exact u_nil | apply u_cons | apply u2_agg | exact u2_int | exact u1_int | exact u2_bool | exact u1_bool | exact u2_sli | exact u1_sli | exact u2_s0 | exact u1_s0))); all_goals (first | (intro q hq; cbv) | (first | exact fa.1 | exact fa.2 | exact fb.1 | exact fb.2))))
        (first | (apply E_pcallX hE (c_rInf _); (case hm => rfl); (case hle => (repeat' (first | exact u_nil | apply u_cons | apply u2_agg | exact u2_int | exact u1_int | exact u2_bool | exact u1_bool | exact u2_sli | exact u1_sli | exact u2_s0 | exact u1_s0))); all_goals (first | (intro f hf; cbv) | (assumption))) | (apply E_callX hE (c_rInf _); (case hf => rfl); (case hc => (cbv <;> trivial)); (case hle => (repeat' (first | exact u_nil | apply u_cons | apply u2_agg | exact u2_int | exact u1_int | exact u2_bool | exact u1_bool | exact u2_sli | exact u1_sli | exact u2_s0 | exact u1_s0))); all_goals (first | (intro f hf; cbv) | (assumption))))
        have qo : q.ok := by rw [show q = Num.div a.hi b.lo false from hq]; exact Num.div_ok (by first | exact fa.1 | exact fa.2 | exact fb.1 | exact fb.2) (by first | exact fa.1 | exact fa.2 | exact fb.1 | exact fb.2) _
        have fo : f.ok := by rw [show f = Num.inf false from hf]; exact Num.inf_ok _
        (first | (apply E_pcallX hE (c_r8Make ⟨_, _, _, _⟩ ⟨_, _, _, _⟩ ?_ ?_); (case hm => rfl); (case hle => (repeat' (first | exact u_nil | apply u_cons | apply u2_agg | exact u2_int | exact u1_int | exact u2_bool | exact u1_bool | exact u2_sli | exact u1_sli | exact u2_s0 | exact u1_s0))); all_goals (first | (intro t ht; cbv) | (first | exact qo | exact fo))) | (apply E_callX hE (c_r8Make ⟨_, _, _, _⟩ ⟨_, _, _, _⟩ ?_ ?_); (case hf => rfl); (case hc => (cbv <;> trivial)); (case hle => (repeat' (first | exact u_nil | apply u_cons | apply u2_agg | exact u2_int | exact u1_int | exact u2_bool | exact u1_bool | exact u2_sli | exact u1_sli | exact u2_s0 | exact u1_s0))); all_goals (first | (intro t ht; cbv) | (first | exact qo | exact fo))))
        have T : t = r := by rw [HH, ← show q = Num.div a.hi b.lo false from hq, ← show f = Num.inf false from hf]; exact ht
        rw [T]; exact ⟨rfl, rfl, rfl, rfl, rfl, rfl, rfl, rfl, rfl, trivial⟩
      · have HH := H.trans (half_f (by rw [← hsn, ← hse]; subst hE; exact eql_f g9))
        clear H
        (first | (apply E_pcallX hE (c_rInf _); (case hm => rfl); (case hle => (repeat' (first | exact u_nil | apply u_cons | apply u2_agg | exact u2_int | exact u1_int | exact u2_bool | exact u1_bool | exact u2_sli | exact u1_sli | exact u2_s0 | exact u1_s0))); all_goals (first | (intro f hf; cbv) | (assumption))) | (apply E_callX hE (c_rInf _); (case hf => rfl); (case hc => (cbv <;> trivial)); (case hle => (repeat' (first | exact u_nil | apply u_cons | apply u2_agg | exact u2_int | exact u1_int | exact u2_bool | exact u1_bool | exact u2_sli | exact u1_sli | exact u2_s0 | exact u1_s0))); all_goals (first | (intro f hf; cbv) | (assumption))))
        (first | (apply E_pcallX hE (c_r7Div ⟨_, _, _, _⟩ ⟨_, _, _, _⟩ true ?_ ?_); (case hm => rfl); (case hle => (repeat' (first | exact u_nil | apply u_cons | apply u2_agg | exact u2_int | exact u1_int | exact u2_bool | exact u1_bool | exact u2_sli | exact u1_sli | exact u2_s0 | exact u1_s0))); all_goals (first | (intro q hq; cbv) | (first | exact fa.1 | exact fa.2 | exact fb.1 | exact fb.2))) | (apply E_callX hE (c_r7Div ⟨_, _, _, _⟩ ⟨_, _, _, _⟩ true ?_ ?_); (case hf => rfl); (case hc => (cbv <;> trivial)); (case hle => (repeat' (first | exact u_nil | apply u_cons | apply u2_agg | exact u2_int | exact u1_int | exact u2_bool | exact u1_bool | exact u2_sli | exact u1_sli | exact u2_s0 | exact u1_s0))); all_goals (first | (intro q hq; cbv) | (first | exact fa.1 | exact fa.2 | exact fb.1 | exact fb.2))))
        have qo : q.ok := by rw [show q = Num.div a.hi b.lo true from hq]; exact Num.div_ok (by first | exact fa.1 | exact fa.2 | exact fb.1 | exact fb.2) (by first | exact fa.1 | exact fa.2 | exact fb.1 | exact fb.2) _
        have fo : f.ok := by rw [show f = Num.inf true from hf]; exact Num.inf_ok _
        (first | (apply E_pcallX hE (c_r8Make ⟨_, _, _, _⟩ ⟨_, _, _, _⟩ ?_ ?_); (case hm => rfl); (case hle => (repeat' (first | exact u_nil | apply u_cons | apply u2_agg | exact u2_int | exact u1_int | exact u2_bool | exact u1_bool | exact u2_sli | exact u1_sli | exact u2_s0 | exact u1_s0))); all_goals (first | (intro t ht; cbv) | (first | exact qo | exact fo))) | (apply E_callX hE (c_r8Make ⟨_, _, _, _⟩ ⟨_, _, _, _⟩ ?_ ?_); (case hf => rfl); (case hc => (cbv <;> trivial)); (case hle => (repeat' (first | exact u_nil | apply u_cons | apply u2_agg | exact u2_int | exact u1_int | exact u2_bool | exact u1_bool | exact u2_sli | exact u1_sli | exact u2_s0 | exact u1_s0))); all_goals (first | (intro t ht; cbv) | (first | exact qo | exact fo))))
        have T : t = r := by rw [HH, ← show q = Num.div a.hi b.lo true from hq, ← show f = Num.inf true from hf]; exact ht
        rw [T]; exact ⟨rfl, rfl, rfl, rfl, rfl, rfl, rfl, rfl, rfl, trivial⟩
    · have hs1 : ¬ a.lo.sign < 0 := by rw [← hs0]; subst hE; exact lss_f g10
      rw [if_neg hs1, if_pos hq0] at H
      (first | (apply E_pcallX hE (c_rSign ⟨_, _, _, _⟩); (case hm => rfl); (case hle => (repeat' (first | exact u_nil | apply u_cons | apply u2_agg | exact u2_int | exact u1_int | exact u2_bool | exact u1_bool | exact u2_sli | exact u1_sli | exact u2_s0 | exact u1_s0))); all_goals (first | (intro sn hsn; cbv) | (assumption))) | (apply E_callX hE (c_rSign ⟨_, _, _, _⟩); (case hf => rfl); (case hc => (cbv <;> trivial)); (case hle => (repeat' (first | exact u_nil | apply u_cons | apply u2_agg | exact u2_int | exact u1_int | exact u2_bool | exact u1_bool | exact u2_sli | exact u1_sli | exact u2_s0 | exact u1_s0))); all_goals (first | (intro sn hsn; cbv) | (assumption))))
      (first | (apply E_pcallX hE (c_rSign ⟨_, _, _, _⟩); (case hm => rfl); (case hle => (repeat' (first | exact u_nil | apply u_cons | apply u2_agg | exact u2_int | exact u1_int | exact u2_bool | exact u1_bool | exact u2_sli | exact u1_sli | exact u2_s0 | exact u1_s0))); all_goals (first | (intro se hse; cbv) | (assumption))) | (apply E_callX hE (c_rSign ⟨_, _, _, _⟩); (case hf => rfl); (case hc => (cbv <;> trivial)); (case hle => (repeat' (first | exact u_nil | apply u_cons | apply u2_agg | exact u2_int | exact u1_int | exact u2_bool | exact u1_bool | exact u2_sli | exact u1_sli | exact u2_s0 | exact u1_s0))); all_goals (first | (intro se hse; cbv) | (assumption))))
      replace hsn : sn = a.lo.sign := hsn
      replace hse : se = b.lo.sign := hse
      refine E_br hE (fun g9 => ?_) (fun g9 => ?_) <;> cbv
      · have HH := H.trans (half_t (by rw [← hsn, ← hse]; subst hE; exact eql_t g9))
        clear H
        (first | (apply E_pcallX hE (c_r7Div ⟨_, _, _, _⟩ ⟨_, _, _, _⟩ false ?_ ?_); (case hm => rfl); (case hle => (repeat' (first | exact u_nil | apply u_cons | apply u2_agg | exact u2_int | exact u1_int | exact u2_bool | exact u1_bool | exact u2_sli | exact u1_sli | exact u2_s0 | exact u1_s0))); all_goals (first | (intro q hq; cbv) | (first | exact fa.1 | exact fa.2 | exact fb.1 | exact fb.2))) | (apply E_callX hE (c_r7Div ⟨_, _, _, _⟩ ⟨_, _, _, _⟩ false ?_ ?_); (case hf => rfl); (case hc => (cbv <;> trivial)); (case hle => (repeat' (first | exact u_nil | apply u_cons | apply u2_agg | exact u2_int | exact u1_int | exact u2_bool | exact u1_bool | exact u2_sli | exact u1_sli | exact u2_s0 | exact u1_s0))); all_goals (first | (intro q hq; cbv) | (first | exact fa.1 | exact fa.2 | exact fb.1 | exact fb.2))))
        (first | (apply E_pcallX hE (c_rInf _); (case hm => rfl); (case hle => (repeat' (first | exact u_nil | apply u_cons | apply u2_agg | exact u2_int | exact u1_int | exact u2_bool | exact u1_bool | exact u2_sli | exact u1_sli | exact u2_s0 | exact u1_s0))); all_goals (first | (intro f hf; cbv) | (assumption))) | (apply E_callX hE (c_rInf _); (case hf => rfl); (case hc => (cbv <;> trivial)); (case hle => (repeat' (first | exact u_nil | apply u_cons | apply u2_agg | exact u2_int | exact u1_int | exact u2_bool | exact u1_bool | exact u2_sli | exact u1_sli | exact u2_s0 | exact u1_s0))); all_goals (first | (intro f hf; cbv) | (assumption))))
        have qo : q.ok := by rw [show q = Num.div a.lo b.lo false from hq]; exact Num.div_ok (by first | exact fa.1 | exact fa.2 | exact fb.1 | exact fb.2) (by first | exact fa.1 | exact fa.2 | exact fb.1 | exact fb.2) _
        have fo : f.ok := by rw [show f = Num.inf false from hf]; exact Num.inf_ok _
        (first | (apply E_pcallX hE (c_r8Make ⟨_, _, _, _⟩ ⟨_, _, _, _⟩ ?_ ?_); (case hm => rfl); (case hle => (repeat' (first | exact u_nil | apply u_cons | apply u2_agg | exact u2_int | exact u1_int | exact u2_bool | exact u1_bool | exact u2_sli | exact u1_sli | exact u2_s0 | exact u1_s0))); all_goals (first | (intro t ht; cbv) | (first | exact qo | exact fo))) | (apply E_callX hE (c_r8Make ⟨_, _, _, _⟩ ⟨_, _, _, _⟩ ?_ ?_); (case hf => rfl); (case hc => (cbv <;> trivial)); (case hle => (repeat' (first | exact u_nil | apply u_cons | apply u2_agg | exact u2_int | exact u1_int | exact u2_bool | exact u1_bool | exact u2_sli | exact u1_sli | exact u2_s0 | exact u1_s0))); all_goals (first | (intro t ht; cbv) | (first | exact qo | exact fo))))
        have T : t = r := by rw [HH, ← show q = Num.div a.lo b.lo false from hq, ← show f = Num.inf false from hf]; exact ht
        rw [T]; exact ⟨rfl, rfl, rfl, rfl, rfl, rfl, rfl, rfl, rfl, trivial⟩
      · have HH := H.trans (half_f (by rw [← hsn, ← hse]; subst hE; exact eql_f g9))
        clear H
        (first | (apply E_pcallX hE (c_rInf _); (case hm => rfl); (case hle => (repeat' (first | exact u_nil | apply u_cons | apply u2_agg | exact u2_int | exact u1_int | exact u2_bool | exact u1_bool | exact u2_sli | exact u1_sli | exact u2_s0 | exact u1_s0))); all_goals (first | (intro f hf; cbv) | (assumption))) | (apply E_callX hE (c_rInf _); (case hf => rfl); (case hc => (cbv <;> trivial)); (case hle => (repeat' (first | exact u_nil | apply u_cons | apply u2_agg | exact u2_int | exact u1_int | exact u2_bool | exact u1_bool | exact u2_sli | exact u1_sli | exact u2_s0 | exact u1_s0))); all_goals (first | (intro f hf; cbv) | (assumption))))
        (first | (apply E_pcallX hE (c_r7Div ⟨_, _, _, _⟩ ⟨_, _, _, _⟩ true ?_ ?_); (case hm => rfl); (case hle => (repeat' (first | exact u_nil | apply u_cons | apply u2_agg | exact u2_int | exact u1_int | exact u2_bool | exact u1_bool | exact u2_sli | exact u1_sli | exact u2_s0 | exact u1_s0))); all_goals (first | (intro q hq; cbv) | (first | exact fa.1 | exact fa.2 | exact fb.1 | exact fb.2))) | (apply E_callX hE (c_r7Div ⟨_, _, _, _⟩ ⟨_, _, _, _⟩ true ?_ ?_); (case hf => rfl); (case hc => (cbv <;> trivial)); (case hle => (repeat' (first | exact u_nil | apply u_cons | apply u2_agg | exact u2_int | exact u1_int | exact u2_bool | exact u1_bool | exact u2_sli | exact u1_sli | exact u2_s0 | exact u1_s0))); all_goals (first | (intro q hq; cbv) | (first | exact fa.1 | exact fa.2 | exact fb.1 | exact fb.2))))
        have qo : q.ok := by rw [show q = Num.div a.lo b.lo true from hq]; exact Num.div_ok (by first | exact fa.1 | exact fa.2 | exact fb.1 | exact fb.2) (by first | exact fa.1 | exact fa.2 | exact fb.1 | exact fb.2) _
        have fo : f.ok := by rw [show f = Num.inf true from hf]; exact Num.inf_ok _
        (first | (apply E_pcallX hE (c_r8Make ⟨_, _, _, _⟩ ⟨_, _, _, _⟩ ?_ ?_); (case hm => rfl); (case hle => (repeat' (first | exact u_nil | apply u_cons | apply u2_agg | exact u2_int | exact u1_int | exact u2_bool | exact u1_bool | exact u2_sli | exact u1_sli | exact u2_s0 | exact u1_s0))); all_goals (first | (intro t ht; cbv) | (first | exact qo | exact fo))) | (apply E_callX hE (c_r8Make ⟨_, _, _, _⟩ ⟨_, _, _, _⟩ ?_ ?_); (case hf => rfl); (case hc => (cbv <;> trivial)); (case hle => (repeat' (first | exact u_nil | apply u_cons | apply u2_agg | exact u2_int | exact u1_int | exact u2_bool | exact u1_bool | exact u2_sli | exact u1_sli | exact u2_s0 | exact u1_s0))); all_goals (first | (intro t ht; cbv) | (first | exact qo | exact fo))))
        have T : t = r := by rw [HH, ← show q = Num.div a.lo b.lo true from hq, ← show f = Num.inf true from hf]; exact ht
        rw [T]; exact ⟨rfl, rfl, rfl, rfl, rfl, rfl, rfl, rfl, rfl, trivial⟩
  · have hq0 : ¬ b.hi.sign = 0 := by rw [← hh]; subst hE; exact eql_f g8
    (first | (apply E_pcallX hE (c_rSign ⟨_, _, _, _⟩); (case hm => rfl); (case hle => (repeat' (first | exact u_nil | apply u_cons | apply u2_agg | exact u2_int | exact u1_int | exact u2_bool | exact u1_bool | exact u2_sli | exact u1_sli | exact u2_s0 | exact u1_s0))); all_goals (first | (intro s0 hs0; cbv) | (assumption))) | (apply E_callX hE (c_rSign ⟨_, _, _, _⟩); (case hf => rfl); (case hc => (cbv <;> trivial)); (case hle => (repeat' (first | exact u_nil | apply u_cons | apply u2_agg | exact u2_int | exact u1_int | exact u2_bool | exact u1_bool | exact u2_sli | exact u1_sli | exact u2_s0 | exact u1_s0))); all_goals (first | (intro s0 hs0; cbv) | (assumption))))
    replace hs0 : s0 = a.lo.sign := hs0
    refine E_br hE (fun g10 => ?_) (fun g10 => ?_) <;> cbv
    · have hs1 :  a.lo.sign < 0 := by rw [← hs0]; subst hE; exact lss_t g10
      rw [if_pos hs1, if_neg hq0] at H
      (first | (apply E_pcallX hE (c_rSign ⟨_, _, _, _⟩); (case hm => rfl); (case hle => (repeat' (first | exact u_nil | apply u_cons | apply u2_agg | exact u2_int | exact u1_int | exact u2_bool | exact u1_bool | exact u2_sli | exact u1_sli | exact u2_s0 | exact u1_s0))); all_goals (first | (intro sn hsn; cbv) | (assumption))) | (apply E_callX hE (c_rSign ⟨_, _, _, _⟩); (case hf => rfl); (case hc => (cbv <;> trivial)); (case hle => (repeat' (first | exact u_nil | apply u_cons | apply u2_agg | exact u2_int | exact u1_int | exact u2_bool | exact u1_bool | exact u2_sli | exact u1_sli | exact u2_s0 | exact u1_s0))); all_goals (first | (intro sn hsn; cbv) | (assumption))))
      (first | (apply E_pcallX hE (c_rSign ⟨_, _, _, _⟩); (case hm => rfl); (case hle => (repeat' (first | exact u_nil | apply u_cons | apply u2_agg | exact u2_int | exact u1_int | exact u2_bool | exact u1_bool | exact u2_sli | exact u1_sli | exact u2_s0 | exact u1_s0))); all_goals (first | (intro se hse; cbv) | (assumption))) | (apply E_callX hE (c_rSign ⟨_, _, _, _⟩); (case hf => rfl); (case hc => (cbv <;> trivial)); (case hle => (repeat' (first | exact u_nil | apply u_cons | apply u2_agg | exact u2_int | exact u1_int | exact u2_bool | exact u1_bool | exact u2_sli | exact u1_sli | exact u2_s0 | exact u1_s0))); all_goals (first | (intro se hse; cbv) | (assumption))))
      replace hsn : sn = a.hi.sign := hsn
      replace hse : se = b.hi.sign := hse
      refine E_br hE (fun g9 => ?_) (fun g9 => ?_) <;> cbv
      · have HH := H.trans (half_t (by rw [← hsn, ← hse]; subst hE; exact eql_t g9))
        clear H
        (first | (apply E_pcallX hE (c_r7Div ⟨_, _, _, _⟩ ⟨_, _, _, _⟩ false ?_ ?_); (case hm => rfl); (case hle => (repeat' (first | exact u_nil | apply u_cons | apply u2_agg | exact u2_int | exact u1_int | exact u2_bool | exact u1_bool | exact u2_sli | exact u1_sli | exact u2_s0 | exact u1_s0))); all_goals (first | (intro q hq; cbv) | (first | exact fa.1 | exact fa.2 | exact fb.1 | exact fb.2))) | (apply E_callX hE (c_r7Div ⟨_, _, _, _⟩ ⟨_, _, _, _⟩ false ?_ ?_); (case hf => rfl); (case hc => (cbv <;> trivial)); (case hle => (repeat' (first | exact u_nil | apply u_cons | apply u2_agg | exact u2_int | exact u1_int | exact u2_bool | exact u1_bool | exact u2_sli | exact u1_sli | exact u2_s0 | exact u1_s0))); all_goals (first | (intro q hq; cbv) | (first | exact fa.1 | exact fa.2 | exact fb.1 | exact fb.2))))
        (first | (apply E_pcallX hE (c_rInf _); (case hm => rfl); (case hle => (repeat' (first | exact u_nil | apply u_cons | apply u2_agg | exact u2_int | exact u1_int | exact u2_bool | exact u1_bool | exact u2_sli | exact u1_sli | exact u2_s0 | exact u1_s0))); all_goals (first | (intro f hf; cbv) | (assumption))) | (apply E_callX hE (c_rInf _); (case hf => rfl); (case hc => (cbv <;> trivial)); (case hle => (repeat' (first | exact u_nil | apply u_cons | apply u2_agg | exact u2_int | exact u1_int | exact u2_bool | exact u1_bool | exact u2_sli | exact u1_sli | exact u2_s0 | exact u1_s0))); all_goals (first | (intro f hf; cbv) | (assumption))))
        have qo : q.ok := by rw [show q = Num.div a.hi b.hi false from hq]; exact Num.div_ok (by first | exact fa.1 | exact fa.2 | exact fb.1 | exact fb.2) (by first | exact fa.1 | exact fa.2 | exact fb.1 | exact fb.2) _
        have fo : f.ok := by rw [show f = Num.inf false from hf]; exact Num.inf_ok _
        (first | (apply E_pcallX hE (c_r8Make ⟨_, _, _, _⟩ ⟨_, _, _, _⟩ ?_ ?_); (case hm => rfl); (case hle => (repeat' (first | exact u_nil | apply u_cons | apply u2_agg | exact u2_int | exact u1_int | exact u2_bool | exact u1_bool | exact u2_sli | exact u1_sli | exact u2_s0 | exact u1_s0))); all_goals (first | (intro t ht; cbv) | (first | exact qo | exact fo))) | (apply E_callX hE (c_r8Make ⟨_, _, _, _⟩ ⟨_, _, _, _⟩ ?_ ?_); (case hf => rfl); (case hc => (cbv <;> trivial)); (case hle => (repeat' (first | exact u_nil | apply u_cons | apply u2_agg | exact u2_int | exact u1_int | exact u2_bool | exact u1_bool | exact u2_sli | exact u1_sli | exact u2_s0 | exact u1_s0))); all_goals (first | (intro t ht; cbv) | (first | exact qo | exact fo))))
        have T : t = r := by rw [HH, ← show q = Num.div a.hi b.hi false from hq, ← show f = Num.inf false from hf]; exact ht
        rw [T]; exact ⟨rfl, rfl, rfl, rfl, rfl, rfl, rfl, rfl, rfl, trivial⟩
      · have HH := H.trans (half_f (by rw [← hsn, ← hse]; subst hE; exact eql_f g9))
        clear H
        (first | (apply E_pcallX hE (c_rInf _); (case hm => rfl); (case hle => (repeat' (first | exact u_nil | apply u_cons | apply u2_agg | exact u2_int | exact u1_int | exact u2_bool | exact u1_bool | exact u2_sli | exact u1_sli | exact u2_s0 | exact u1_s0))); all_goals (first | (intro f hf; cbv) | (assumption))) | (apply E_callX hE (c_rInf _); (case hf => rfl); (case hc => (cbv <;> trivial)); (case hle => (repeat' (first | exact u_nil | apply u_cons | apply u2_agg | exact u2_int | exact u1_int | exact u2_bool | exact u1_bool | exact u2_sli | exact u1_sli | exact u2_s0 | exact u1_s0))); all_goals (first | (intro f hf; cbv) | (assumption))))
        (first | (apply E_pcallX hE (c_r7Div ⟨_, _, _, _⟩ ⟨_, _, _, _⟩ true ?_ ?_); (case hm => rfl); (case hle => (repeat' (first | exact u_nil | apply u_cons | apply u2_agg | exact u2_int | exact u1_int | exact u2_bool | exact u1_bool | exact u2_sli | exact u1_sli | exact u2_s0 | exact u1_s0))); all_goals (first | (intro q hq; cbv) | (first | exact fa.1 | exact fa.2 | exact fb.1 | exact fb.2))) | (apply E_callX hE (c_r7Div ⟨_, _, _, _⟩ ⟨_, _, _, _⟩ true ?_ ?_); (case hf => rfl); (case hc => (cbv <;> trivial)); (case hle => (repeat' (first | exact u_nil | apply u_cons | apply u2_agg | exact u2_int | exact u1_int | exact u2_bool | exact u1_bool | exact u2_sli | exact u1_sli | exact u2_s0 | exact u1_s0))); all_goals (first | (intro q hq; cbv) | (first | exact fa.1 | exact fa.2 | exact fb.1 | exact fb.2))))
        have qo : q.ok := by rw [show q = Num.div a.hi b.hi true from hq]; exact Num.div_ok (by first | exact fa.1 | exact fa.2 | exact fb.1 | exact fb.2) (by first | exact fa.1 | exact fa.2 | exact fb.1 | exact fb.2) _
        have fo : f.ok := by rw [show f = Num.inf true from hf]; exact Num.inf_ok _
        (first | (apply E_pcallX hE (c_r8Make ⟨_, _, _, _⟩ ⟨_, _, _, _⟩ ?_ ?_); (case hm => rfl); (case hle => (repeat' (first | exact u_nil | apply u_cons | apply u2_agg | exact u2_int | exact u1_int | exact u2_bool | exact u1_bool | exact u2_sli | exact u1_sli | exact u2_s0 | exact u1_s0))); all_goals (first | (intro t ht; cbv) | (first | exact qo | exact fo))) | (apply E_callX hE (c_r8Make ⟨_, _, _, _⟩ ⟨_, _, _, _⟩ ?_ ?_); (case hf => rfl); (case hc => (cbv <;> trivial)); (case hle => (repeat' (first | exact u_nil | apply u_cons | apply u2_agg | exact u2_int | exact u1_int | exact u2_bool | exact u1_bool | exact u2_sli | exact u1_sli | exact u2_s0 | exact u1_s0))); all_goals (first | (intro t ht; cbv) | (first | exact qo | exact fo))))
        have T : t = r := by rw [HH, ← show q = Num.div a.hi b.hi true from hq, ← show f = Num.inf true from hf]; exact ht
        rw [T]; exact ⟨rfl, rfl, rfl, rfl, rfl, rfl, rfl, rfl, rfl, trivial⟩
    · have hs1 : ¬ a.lo.sign < 0 := by rw [← hs0]; subst hE; exact lss_f g10
      rw [if_neg hs1, if_neg hq0] at H
      (first | (apply E_pcallX hE (c_rSign ⟨_, _, _, _⟩); (case hm => rfl); (case hle => (repeat' (first | exact u_nil | apply u_cons | apply u2_agg | exact u2_int | exact u1_int | exact u2_bool | exact u1_bool | exact u2_sli | exact u1_sli | exact u2_s0 | exact u1_s0))); all_goals (first | (intro sn hsn; cbv) | (assumption))) | (apply E_callX hE (c_rSign ⟨_, _, _, _⟩); (case hf => rfl); (case hc => (cbv <;> trivial)); (case hle => (repeat' (first | exact u_nil | apply u_cons | apply u2_agg | exact u2_int | exact u1_int | exact u2_bool | exact u1_bool | exact u2_sli | exact u1_sli | exact u2_s0 | exact u1_s0))); all_goals (first | (intro sn hsn; cbv) | (assumption))))
      (first | (apply E_pcallX hE (c_rSign ⟨_, _, _, _⟩); (case hm => rfl); (case hle => (repeat' (first | exact u_nil | apply u_cons | apply u2_agg | exact u2_int | exact u1_int | exact u2_bool | exact u1_bool | exact u2_sli | exact u1_sli | exact u2_s0 | exact u1_s0))); all_goals (first | (intro se hse; cbv) | (assumption))) | (apply E_callX hE (c_rSign ⟨_, _, _, _⟩); (case hf => rfl); (case hc => (cbv <;> trivial)); (case hle => (repeat' (first | exact u_nil | apply u_cons | apply u2_agg | exact u2_int | exact u1_int | exact u2_bool | exact u1_bool | exact u2_sli | exact u1_sli | exact u2_s0 | exact u1_s0))); all_goals (first | (intro se hse; cbv) | (assumption))))
      replace hsn : sn = a.lo.sign := hsn
      replace hse : se = b.hi.sign := hse
      refine E_br hE (fun g9 => ?_) (fun g9 => ?_) <;> cbv
      · have HH := H.trans (half_t (by rw [← hsn, ← hse]; subst hE; exact eql_t g9))
        clear H
        (first | (apply E_pcallX hE (c_r7Div ⟨_, _, _, _⟩ ⟨_, _, _, _⟩ false ?_ ?_); (case hm => rfl); (case hle => (repeat' (first | exact u_nil | apply u_cons | apply u2_agg | exact u2_int | exact u1_int | exact u2_bool | exact u1_bool | exact u2_sli | exact u1_sli | exact u2_s0 | exact u1_s0))); all_goals (first | (intro q hq; cbv) | (first | exact fa.1 | exact fa.2 | exact fb.1 | exact fb.2))) | (apply E_callX hE (c_r7Div ⟨_, _, _, _⟩ ⟨_, _, _, _⟩ false ?_ ?_); (case hf => rfl); (case hc => (cbv <;> trivial)); (case hle => (repeat' (first | exact u_nil | apply u_cons | apply u2_agg | exact u2_int | exact u1_int | exact u2_bool | exact u1_bool | exact u2_sli | exact u1_sli | exact u2_s0 | exact u1_s0))); all_goals (first | (intro q hq; cbv) | (first | exact fa.1 | exact fa.2 | exact fb.1 | exact fb.2))))
        (first | (apply E_pcallX hE (c_rInf _); (case hm => rfl); (case hle => (repeat' (first | exact u_nil | apply u_cons | apply u2_agg | exact u2_int | exact u1_int | exact u2_bool | exact u1_bool | exact u2_sli | exact u1_sli | exact u2_s0 | exact u1_s0))); all_goals (first | (intro f hf; cbv) | (assumption))) | (apply E_callX hE (c_rInf _); (case hf => rfl); (case hc => (cbv <;> trivial)); (case hle => (repeat' (first | exact u_nil | apply u_cons | apply u2_agg | exact u2_int | exact u1_int | exact u2_bool | exact u1_bool | exact u2_sli | exact u1_sli | exact u2_s0 | exact u1_s0))); all_goals (first | (intro f hf; cbv) | (assumption))))
        have qo : q.ok := by rw [show q = Num.div a.lo b.hi false from hq]; exact Num.div_ok (by first | exact fa.1 | exact fa.2 | exact fb.1 | exact fb.2) (by first | exact fa.1 | exact fa.2 | exact fb.1 | exact fb.2) _
        have fo : f.ok := by rw [show f = Num.inf false from hf]; exact Num.inf_ok _
        (first | (apply E_pcallX hE (c_r8Make ⟨_, _, _, _⟩ ⟨_, _, _, _⟩ ?_ ?_); (case hm => rfl); (case hle => (repeat' (first | exact u_nil | apply u_cons | apply u2_agg | exact u2_int | exact u1_int | exact u2_bool | exact u1_bool | exact u2_sli | exact u1_sli | exact u2_s0 | exact u1_s0))); all_goals (first | (intro t ht; cbv) | (first | exact qo | exact fo))) | (apply E_callX hE (c_r8Make ⟨_, _, _, _⟩ ⟨_, _, _, _⟩ ?_ ?_); (case hf => rfl); (case hc => (cbv <;> trivial)); (case hle => (repeat' (first | exact u_nil | apply u_cons | apply u2_agg | exact u2_int | exact u1_int | exact u2_bool | exact u1_bool | exact u2_sli | exact u1_sli | exact u2_s0 | exact u1_s0))); all_goals (first | (intro t ht; cbv) | (first | exact qo | exact fo))))
        have T : t = r := by rw [HH, ← show q = Num.div a.lo b.hi false from hq, ← show f = Num.inf false from hf]; exact ht
        rw [T]; exact ⟨rfl, rfl, rfl, rfl, rfl, rfl, rfl, rfl, rfl, trivial⟩
      · have HH := H.trans (half_f (by rw [← hsn, ← hse]; subst hE; exact eql_f g9))
        clear H
        (first | (apply E_pcallX hE (c_rInf _); (case hm => rfl); (case hle => (repeat' (first | exact u_nil | apply u_cons | apply u2_agg | exact u2_int | exact u1_int | exact u2_bool | exact u1_bool | exact u2_sli | exact u1_sli | exact u2_s0 | exact u1_s0))); all_goals (first | (intro f hf; cbv) | (assumption))) | (apply E_callX hE (c_rInf _); (case hf => rfl); (case hc => (cbv <;> trivial)); (case hle => (repeat' (first | exact u_nil | apply u_cons | apply u2_agg | exact u2_int | exact u1_int | exact u2_bool | exact u1_bool | exact u2_sli | exact u1_sli | exact u2_s0 | exact u1_s0))); all_goals (first | (intro f hf; cbv) | (assumption))))
        (first | (apply E_pcallX hE (c_r7Div ⟨_, _, _, _⟩ ⟨_, _, _, _⟩ true ?_ ?_); (case hm => rfl); (case hle => (repeat' (first | exact u_nil | apply u_cons | apply u2_agg | exact u2_int | exact u1_int | exact u2_bool | exact u1_bool | exact u2_sli | exact u1_sli | exact u2_s0 | exact u1_s0))); all_goals (first | (intro q hq; cbv) | (first | exact fa.1 | exact fa.2 | exact fb.1 | exact fb.2))) | (apply E_callX hE (c_r7Div ⟨_, _, _, _⟩ ⟨_, _, _, _⟩ true ?_ ?_); (case hf => rfl); (case hc => (cbv <;> trivial)); (case hle => (repeat' (first | exact u_nil | apply u_cons | apply u2_agg | exact u2_int | exact u1_int | exact u2_bool | exact u1_bool | exact u2_sli | exact u1_sli | exact u2_s0 | exact u1_s0))); all_goals (first | (intro q hq; cbv) | (first | exact fa.1 | exact fa.2 | exact fb.1 | exact fb.2))))
        have qo : q.ok := by rw [show q = Num.div a.lo b.hi true from hq]; exact Num.div_ok (by first | exact fa.1 | exact fa.2 | exact fb.1 | exact fb.2) (by first | exact fa.1 | exact fa.2 | exact fb.1 | exact fb.2) _
        have fo : f.ok := by rw [show f = Num.inf true from hf]; exact Num.inf_ok _
        (first | (apply E_pcallX hE (c_r8Make ⟨_, _, _, _⟩ ⟨_, _, _, _⟩ ?_ ?_); (case hm => rfl); (case hle => (repeat' (first | exact u_nil | apply u_cons | apply u2_agg | exact u2_int | exact u1_int | exact u2_bool | exact u1_bool | exact u2_sli | exact u1_sli | exact u2_s0 | exact u1_s0))); all_goals (first | (intro t ht; cbv) | (first | exact qo | exact fo))) | (apply E_callX hE (c_r8Make ⟨_, _, _, _⟩ ⟨_, _, _, _⟩ ?_ ?_); (case hf => rfl); (case hc => (cbv <;> trivial)); (case hle => (repeat' (first | exact u_nil | apply u_cons | apply u2_agg | exact u2_int | exact u1_int | exact u2_bool | exact u1_bool | exact u2_sli | exact u1_sli | exact u2_s0 | exact u1_s0))); all_goals (first | (intro t ht; cbv) | (first | exact qo | exact fo))))
        have T : t = r := by rw [HH, ← show q = Num.div a.lo b.hi true from hq, ← show f = Num.inf true from hf]; exact ht
        rw [T]; exact ⟨rfl, rfl, rfl, rfl, rfl, rfl, rfl, rfl, rfl, trivial⟩

end Go.Proofs.Ytoghalnnmhpfmaa.Ev

/- Contracts: the product of intervals. -/
namespace Go.Proofs.Ytoghalnnmhpfmaa.Ev
open Go Go.Proofs
set_option linter.unusedVariables false

theorem iv_cells_self {x : Iv} : sleL sle0 x.cells x.cells :=
  ⟨rfl, ⟨rfl, rfl⟩, rfl, ⟨rfl, rfl⟩, ⟨rfl, rfl⟩, ⟨rfl, rfl⟩, rfl, ⟨rfl, rfl⟩, ⟨rfl, rfl⟩, trivial⟩
theorem slcO2 {P : Program} {E : Env} (hE : E = realE P) {a b z : Iv} {d : List AV} : sle2 (.slc 9 (.l 2) (E.rfun [a.cells, b.cells] 0 d)) (.slc 9 (.s 2) (fun i => Iv.cells ([a, b].getD i z))) := by
  subst hE
  refine ⟨rfl, rfl, fun i hi => ?_⟩
  match i, hi with
  | 0, _ => exact iv_cells_self
  | 1, _ => exact iv_cells_self
  | i + 2, hi => exact absurd hi (by simp [SI.val])

theorem c_opMul (a b : Iv) (h1 : a.lo.ok) (h2 : a.hi.ok) (h3 : b.lo.ok) (h4 : b.hi.ok) : ∃ t, t = Iv.mul a b ∧ CallsA Try.prog 6 [a.av, b.av] t.av := by
  refine ⟨_, rfl, ?_⟩
  generalize hr : Iv.mul a b = r
  refine callsA_of hG hm Try.func6 (by kernel_rfl) ?_
  intro E hE lp hl
  cbv
  (apply E_callX hE (c_none [a, b] 2 rfl (by decide)); (case hf => rfl); (case hc => (cbv <;> trivial)); (case hle => exact ⟨slcO2 hE, trivial⟩); intro t ht; cbv)
  refine E_br hE (fun h => ?_) (fun h => ?_) <;> cbv
  · (apply E_callX hE c_ivNone; (case hf => rfl); (case hc => (cbv <;> trivial)); (case hle => exact trivial); intro t' ht'; cbv)
    have e : t' = r := by
      rw [← hr, ht']; unfold Iv.mul; rw [if_pos (by rw [← ht]; exact h)]
    subst e
    exact ⟨rfl, rfl, rfl, rfl, rfl, rfl, rfl, rfl, rfl, trivial⟩
  · (apply E_callX hE (c_corners a b 25 Num.mul Num.ok (fun x y up hx hy => c_arMul x y up hx hy) h1 h2 h3 h4); (case hf => rfl); (case hc => (cbv <;> trivial)); (case hle => (repeat' (first | exact u_nil | apply u_cons | apply u2_agg | exact u2_int | exact u1_int | exact u2_bool | exact u1_bool | exact u2_sli | exact u1_sli | exact u2_s0 | exact u1_s0 | exact u2_fn))); intro t' ht'; cbv)
    have e : t' = r := by
      rw [← hr, ht']; unfold Iv.mul; rw [if_neg (by rw [← ht, h]; simp)]; rfl
    subst e
    exact ⟨rfl, rfl, rfl, rfl, rfl, rfl, rfl, rfl, rfl, trivial⟩
end Go.Proofs.Ytoghalnnmhpfmaa.Ev

/- Contracts: a division of two words by one. -/
namespace Go.Proofs.Ytoghalnnmhpfmaa.Ev
open Go Go.Proofs
set_option linter.unusedVariables false
set_option maxHeartbeats 4000000 in
theorem c_Div64 (hi lo y : Int) (h1 : 0 ≤ hi) (h2 : hi < y) (h3 : 9223372036854775808 ≤ y) (h4 : y < 18446744073709551616) (h5 : 0 ≤ lo) (h6 : lo < 18446744073709551616) :
    ∃ t : Int × Int, t = ((hi * 18446744073709551616 + lo) / y, (hi * 18446744073709551616 + lo) % y) ∧
      CallsA Try.prog 68 [.int .u64 (.s hi), .int .u64 (.s lo), .int .u64 (.s y)] (.tup [.int .u64 (.s t.1), .int .u64 (.s t.2)]) := by
  refine ⟨_, rfl, ?_⟩
  generalize hr : ((hi * 18446744073709551616 + lo) / y, (hi * 18446744073709551616 + lo) % y) = r
  refine callsA_of hG hm Try.func68 (by kernel_rfl) ?_
  intro E hE lp hl
  cbv
  refine E_br hE (fun a => ?_) (fun a => ?_)
  · exfalso; subst hE; simp only [realE, cmp_eql, decide_eq_true_eq] at a; omega
  clear a; cbv
  refine E_br hE (fun a => ?_) (fun a => ?_)
  · exfalso; subst hE; simp only [realE, cmp_leq, decide_eq_true_eq] at a; omega
  clear a; cbv
  refine E_br hE (fun a => ?_) (fun a => ?_)
  · have e : hi = 0 := by subst hE; simpa only [realE, cmp_eql, decide_eq_true_eq] using a
    cbv
    refine E_br hE (fun a => ?_) (fun a => ?_)
    · exfalso; subst hE; simp only [realE, cmp_eql, decide_eq_true_eq] at a; omega
    cbv
    repeat' (first
      | (refine E_nm hE (fun v hv => ?_); cbv)
      | (refine E_br hE (fun a => ?_) (fun a => ?_); (exfalso; subst hE; simp only [realE, cmp_eql, decide_eq_true_eq] at a; omega); cbv)
      | fail)
    rename_i v1 hv1
    subst hE
    have b1 := Int.ediv_nonneg h5 (show (0 : Int) ≤ y by omega)
    have b2 := Int.ediv_le_self y h5
    have e1 : v1 = lo / y := by
      rw [hv1]; show IntKind.u64.wrap (lo.tdiv y) = _; rw [Int.tdiv_eq_ediv_of_nonneg h5, wu64]; omega
    have e2 : v = lo % y := by rw [hv]; show lo.tmod y = _; rw [Int.tmod_eq_emod_of_nonneg h5]
    rw [← hr, e, e1, e2]
    simp
  clear a; cbv
  (apply E_callX hE (c_LZ64 y (by omega) (by omega)); (case hf => rfl); (case hc => (cbv <;> trivial)); (case hle => exact ⟨u2_int, trivial⟩); intro t ht; cbv)
  have ht0 : t = 0 := by rw [ht, blen_top h3 h4]; rfl
  subst ht0
  refine E_nm hE (fun s hs => ?_)
  have e : s = 0 := by subst hE; rw [hs]; rfl
  subst e; cbv
  refine E_br hE (fun a => ?_) (fun a => ?_)
  · exfalso; subst hE; simp only [realE, cmp_lss, decide_eq_true_eq] at a; omega
  cbv
  refine E_nm hE (fun y' hy' => ?_)
  have e : y' = y := by subst hE; rw [hy']; exact shl0 y (by omega) h4
  subst e; cbv
  refine E_nm hE (fun yh hyh => ?_)
  have e1 : yh = y' / 4294967296 := by subst hE; rw [hyh]; exact shr32 y'
  clear hyh; cbv
  refine E_nm hE (fun yl hyl => ?_)
  have e2 : yl = y' % 4294967296 := by subst hE; rw [hyl]; exact and_32' y'
  clear hyl; cbv
  refine E_br hE (fun a => ?_) (fun a => ?_)
  · exfalso; subst hE; simp only [realE, cmp_lss, decide_eq_true_eq] at a; omega
  cbv
  refine E_br hE (fun a => ?_) (fun a => ?_)
  · exfalso; subst hE; simp only [realE, cmp_lss, decide_eq_true_eq, intBinR] at a; rw [show IntKind.u64.wrap (64 - 0) = 64 by decide] at a; omega
  cbv
  refine E_nm hE (fun u hu => ?_)
  have e : u = hi := by
    subst hE; rw [hu]
    show IntKind.u64.wrap ((BitVec.ofInt IntKind.u64.bits (IntKind.u64.wrap (hi * 2 ^ min (Int.toNat 0) IntKind.u64.bits)) ||| BitVec.ofInt IntKind.u64.bits (lo.fdiv (2 ^ min (Int.toNat 64) IntKind.u64.bits))).toNat : Int) = hi
    rw [shl0 hi h1 (by omega), shr64 lo h5 h6, or_0 hi h1 (by omega)]
  subst e; cbv
  refine E_br hE (fun a => ?_) (fun a => ?_)
  · exfalso; subst hE; simp only [realE, cmp_lss, decide_eq_true_eq] at a; omega
  cbv
  refine E_nm hE (fun l' hl' => ?_)
  have e : l' = lo := by subst hE; rw [hl']; exact shl0 lo h5 h6
  subst e; cbv
  refine E_nm hE (fun lh hlh => ?_)
  have e3 : lh = l' / 4294967296 := by subst hE; rw [hlh]; exact shr32 l'
  clear hlh; cbv
  refine E_nm hE (fun ll hll => ?_)
  have e4 : ll = l' % 4294967296 := by subst hE; rw [hll]; exact and_32' l'
  clear hll; cbv
  refine E_br hE (fun a => ?_) (fun a => ?_)
  · exfalso; subst hE; simp only [realE, cmp_eql, decide_eq_true_eq] at a; omega
  cbv
  refine E_nm hE (fun q0 hq0 => ?_)
  have e5 : q0 = u / yh := by
    subst hE; rw [hq0]; show IntKind.u64.wrap (u.tdiv yh) = _
    have b1 := Int.ediv_nonneg h1 (show (0 : Int) ≤ yh by omega)
    have b2 := Int.ediv_le_self yh h1
    rw [Int.tdiv_eq_ediv_of_nonneg h1, wu64]; omega
  clear hq0; cbv
  refine E_nm hE (fun r0 hr0 => ?_)
  have D0 : Dig y' u lh q0 (u - q0 * yh) := by
    have := dig_start (y := y') (u := u) (un := lh) h3 h4 h1 h2 (by omega) (by omega)
    rw [← e1, ← e5] at this; exact this
  have e6 : r0 = u - q0 * yh := by
    subst hE; rw [hr0]; show IntKind.u64.wrap (u - IntKind.u64.wrap (q0 * yh)) = _
    have b1 := D0.pos
    have b2 := Int.mul_nonneg D0.nn (show (0 : Int) ≤ yh by omega)
    rw [wu64, wu64]
    generalize q0 * yh = p at *
    omega
  rw [← e6] at D0
  clear hr0 e6; cbv
  clear hs ht hy' hu hl' e5 a
  refine E_loop hE hG hm hl (ι := Int × Int) (fun p => ⟨[(2, .int .u64 (.s y')), (8, .int .u64 (.s 0)), (9, .int .u64 (.s yh)), (10, .int .u64 (.s yl)), (11, .int .u64 (.s u)), (12, .int .u64 (.s l')), (13, .int .u64 (.s lh)), (14, .int .u64 (.s ll)), (15, .int .u64 (.s p.1)), (16, .int .u64 (.s p.2))], []⟩)
    (fun p => p.1.toNat) (fun p => Dig y' u lh p.1 p.2) ⟨(q0, r0), D0, stLe rfl ?_⟩ ?_
  · repeat' (first | exact t_nil | apply t_cons | exact u2_int)
  rintro ⟨q, r'⟩ D
  dsimp only at D
  cbv
  have W := dig_words h3 h4 (show 0 ≤ lh by omega) (by omega) D
  rw [← e1, ← e2] at W
  have less : (4294967296 ≤ q ∨ r' * 4294967296 + lh < q * yl) → u * 4294967296 + lh < (q - 1 + 1) * y' ∧ r' + yh = u - (q - 1) * yh ∧ 1 ≤ q := by
    intro h; rw [e1]; exact dig_less h3 h4 h1 h2 (by omega) (by omega) D (by rw [← e2]; exact h)
  refine E_br hE (fun a => ?_) (fun a => ?_)
  · have H' : 4294967296 ≤ q ∨ r' * 4294967296 + lh < q * yl := .inl (by subst hE; simpa only [realE, cmp_geq, decide_eq_true_eq] using a)
    clear a
    cbv
    refine E_nm hE (fun qn hqn => ?_)
    cbv
    refine E_nm hE (fun rn hrn => ?_)
    obtain ⟨l1, l2, l3⟩ := less H'
    have eqn : qn = q - 1 := by
      subst hE; rw [hqn]; show IntKind.u64.wrap (q - 1) = _
      have := D.top
      rw [wu64]; omega
    have ern : rn = r' + yh := by subst hE; rw [hrn]; exact W.2.2
    rw [← eqn] at l1 l2
    rw [← ern] at l2
    cbv
    refine E_br hE (fun c => ?_) (fun c => ?_)
    · have c' : 4294967296 ≤ rn := by subst hE; simpa only [realE, cmp_geq, decide_eq_true_eq] using c
      have dt := D.top
      have R : Right y' u lh qn := right_of h3 h2 (by omega) (dig_right h3 h4 (by rw [← e1]; exact l2) (dig_break h4 (by omega) (by omega) (by omega) c')) l1 (by omega)
      clear hqn hrn c c' l1 l2 l3 H'
      cbv
      refine E_nm hE (fun w hw => ?_)
      have ew : w = u * 4294967296 + lh - qn * y' := by subst hE; rw [hw]; exact right_wrap h4 R
      have lw := right_left R
      rw [← ew] at lw
      clear hw
      cbv
      refine E_br hE (fun a => ?_) (fun a => ?_)
      · exfalso; subst hE; simp only [realE, cmp_eql, decide_eq_true_eq] at a; omega
      cbv
      refine E_nm hE (fun p0 hp0 => ?_)
      have e5 : p0 = w / yh := by
        subst hE; rw [hp0]; show IntKind.u64.wrap (w.tdiv yh) = _
        have b1 := Int.ediv_nonneg lw.1 (show (0 : Int) ≤ yh by omega)
        have b2 := Int.ediv_le_self yh lw.1
        rw [Int.tdiv_eq_ediv_of_nonneg lw.1, wu64]; omega
      clear hp0; cbv
      refine E_nm hE (fun s0 hs0 => ?_)
      have D1 : Dig y' w ll p0 (w - p0 * yh) := by
        have := dig_start (y := y') (u := w) (un := ll) h3 h4 lw.1 lw.2 (by omega) (by omega)
        rw [← e1, ← e5] at this; exact this
      have e6 : s0 = w - p0 * yh := by
        subst hE; rw [hs0]; show IntKind.u64.wrap (w - IntKind.u64.wrap (p0 * yh)) = _
        have b1 := D1.pos
        have b2 := Int.mul_nonneg D1.nn (show (0 : Int) ≤ yh by omega)
        rw [wu64, wu64]
        generalize p0 * yh = p at *
        omega
      rw [← e6] at D1
      clear hs0 e6 e5 a
      cbv
      refine E_loop hE hG hm hl (ι := Int × Int) (fun p => ⟨[(2, .int .u64 (.s y')), (8, .int .u64 (.s 0)), (9, .int .u64 (.s yh)), (10, .int .u64 (.s yl)), (14, .int .u64 (.s ll)), (15, .int .u64 (.s qn)), (17, .int .u64 (.s w)), (18, .int .u64 (.s p.1)), (16, .int .u64 (.s p.2))], []⟩)
        (fun p => p.1.toNat) (fun p => Dig y' w ll p.1 p.2) ⟨(p0, s0), D1, stLe rfl (by repeat' (first | exact t_nil | apply t_cons | exact u2_int))⟩ ?_
      rintro ⟨p, s⟩ D2
      dsimp only at D2
      cbv
      have W2 := dig_words h3 h4 (show 0 ≤ ll by omega) (by omega) D2
      rw [← e1, ← e2] at W2
      have less2 : (4294967296 ≤ p ∨ s * 4294967296 + ll < p * yl) → w * 4294967296 + ll < (p - 1 + 1) * y' ∧ s + yh = w - (p - 1) * yh ∧ 1 ≤ p := by
        intro h; rw [e1]; exact dig_less h3 h4 lw.1 lw.2 (by omega) (by omega) D2 (by rw [← e2]; exact h)
      have dt2 := D2.top
      have dp2 := D2.pos
      refine E_br hE (fun a => ?_) (fun a => ?_)
      · have H2 : 4294967296 ≤ p ∨ s * 4294967296 + ll < p * yl := .inl (by subst hE; simpa only [realE, cmp_geq, decide_eq_true_eq] using a)
        clear a
        cbv
        refine E_nm hE (fun pn hpn => ?_)
        cbv
        refine E_nm hE (fun sn hsn => ?_)
        obtain ⟨l1, l2, l3⟩ := less2 H2
        have epn : pn = p - 1 := by
          subst hE; rw [hpn]; show IntKind.u64.wrap (p - 1) = _
          rw [wu64]; omega
        have esn : sn = s + yh := by subst hE; rw [hsn]; exact W2.2.2
        rw [← epn] at l1 l2
        rw [← esn] at l2
        cbv
        refine E_br hE (fun c => ?_) (fun c => ?_)
        · have c' : 4294967296 ≤ sn := by subst hE; simpa only [realE, cmp_geq, decide_eq_true_eq] using c
          have R2 : Right y' w ll pn := right_of h3 lw.2 (by omega) (dig_right h3 h4 (by rw [← e1]; exact l2) (dig_break h4 (by omega) (by omega) (by omega) c')) l1 (by omega)
          clear hpn hsn c c' l1 l2 l3 H2
          cbv
          refine E_br hE (fun a => ?_) (fun a => ?_)
          · exfalso; subst hE; simp only [realE, cmp_lss, decide_eq_true_eq] at a; omega
          clear a; cbv
          repeat' (first
            | (refine E_nm hE (fun v hv => ?_); cbv)
            | fail)
          rename_i v1 hv1
          obtain ⟨f1, f2⟩ := two_digits (y := y') (by omega) ew R R2
          subst hE
          have g1 : v1 = qn * 4294967296 + pn := by
            rw [hv1]; show IntKind.u64.wrap (IntKind.u64.wrap (qn * 4294967296) + pn) = _
            have := R.small; have := R2.small; have := R.nn; have := R2.nn
            rw [wu64, wu64]; omega
          have g2 : v = w * 4294967296 + ll - pn * y' := by
            rw [hv]; show (IntKind.u64.wrap (IntKind.u64.wrap (IntKind.u64.wrap (w * 4294967296) + ll) - IntKind.u64.wrap (pn * y'))).fdiv (2 ^ min (Int.toNat 0) IntKind.u64.bits) = _
            rw [right_wrap h4 R2, show (2 : Int) ^ min (Int.toNat 0) IntKind.u64.bits = 1 by decide, shr_lit (by decide), Int.ediv_one]
          have el : l' = lh * 4294967296 + ll := by omega
          rw [← el] at f1 f2
          rw [← hr, g1, g2]
          exact ⟨f1.symm, f2.symm, trivial⟩
        · have c' : sn < 4294967296 := by
            have : ¬ 4294967296 ≤ sn := by subst hE; simpa only [realE, cmp_geq, decide_eq_false_iff_not] using c
            omega
          clear hpn hsn
          cbv
          exact ⟨(pn, sn), by (show pn.toNat < p.toNat; omega), ⟨l1, by rw [← e1]; exact l2, by (show 0 ≤ sn; omega), c', by (show pn ≤ 4294967297; omega), by (show 0 ≤ pn; omega)⟩, stLe rfl (by repeat' (first | exact t_nil | apply t_cons | exact u2_int))⟩
      have a2 : p < 4294967296 := by
        have : ¬ 4294967296 ≤ p := by subst hE; simpa only [realE, cmp_geq, decide_eq_false_iff_not] using a
        omega
      cbv
      refine E_br hE (fun b => ?_) (fun b => ?_)
      · have H2 : 4294967296 ≤ p ∨ s * 4294967296 + ll < p * yl := .inr (by
          subst hE; simp only [realE, cmp_gtr, intBinR, decide_eq_true_eq] at b
          rw [W2.1 a2, W2.2.1] at b; exact b)
        clear b
        cbv
        refine E_nm hE (fun pn hpn => ?_)
        cbv
        refine E_nm hE (fun sn hsn => ?_)
        obtain ⟨l1, l2, l3⟩ := less2 H2
        have epn : pn = p - 1 := by
          subst hE; rw [hpn]; show IntKind.u64.wrap (p - 1) = _
          rw [wu64]; omega
        have esn : sn = s + yh := by subst hE; rw [hsn]; exact W2.2.2
        rw [← epn] at l1 l2
        rw [← esn] at l2
        cbv
        refine E_br hE (fun c => ?_) (fun c => ?_)
        · have c' : 4294967296 ≤ sn := by subst hE; simpa only [realE, cmp_geq, decide_eq_true_eq] using c
          have R2 : Right y' w ll pn := right_of h3 lw.2 (by omega) (dig_right h3 h4 (by rw [← e1]; exact l2) (dig_break h4 (by omega) (by omega) (by omega) c')) l1 (by omega)
          clear hpn hsn c c' l1 l2 l3 H2
          cbv
          refine E_br hE (fun a => ?_) (fun a => ?_)
          · exfalso; subst hE; simp only [realE, cmp_lss, decide_eq_true_eq] at a; omega
          clear a; cbv
          repeat' (first
            | (refine E_nm hE (fun v hv => ?_); cbv)
            | fail)
          rename_i v1 hv1
          obtain ⟨f1, f2⟩ := two_digits (y := y') (by omega) ew R R2
          subst hE
          have g1 : v1 = qn * 4294967296 + pn := by
            rw [hv1]; show IntKind.u64.wrap (IntKind.u64.wrap (qn * 4294967296) + pn) = _
            have := R.small; have := R2.small; have := R.nn; have := R2.nn
            rw [wu64, wu64]; omega
          have g2 : v = w * 4294967296 + ll - pn * y' := by
            rw [hv]; show (IntKind.u64.wrap (IntKind.u64.wrap (IntKind.u64.wrap (w * 4294967296) + ll) - IntKind.u64.wrap (pn * y'))).fdiv (2 ^ min (Int.toNat 0) IntKind.u64.bits) = _
            rw [right_wrap h4 R2, show (2 : Int) ^ min (Int.toNat 0) IntKind.u64.bits = 1 by decide, shr_lit (by decide), Int.ediv_one]
          have el : l' = lh * 4294967296 + ll := by omega
          rw [← el] at f1 f2
          rw [← hr, g1, g2]
          exact ⟨f1.symm, f2.symm, trivial⟩
        · have c' : sn < 4294967296 := by
            have : ¬ 4294967296 ≤ sn := by subst hE; simpa only [realE, cmp_geq, decide_eq_false_iff_not] using c
            omega
          clear hpn hsn
          cbv
          exact ⟨(pn, sn), by (show pn.toNat < p.toNat; omega), ⟨l1, by rw [← e1]; exact l2, by (show 0 ≤ sn; omega), c', by (show pn ≤ 4294967297; omega), by (show 0 ≤ pn; omega)⟩, stLe rfl (by repeat' (first | exact t_nil | apply t_cons | exact u2_int))⟩
      have b2 : p * yl ≤ s * 4294967296 + ll := by
        subst hE; simp only [realE, cmp_gtr, intBinR, decide_eq_false_iff_not] at b
        rw [W2.1 a2, W2.2.1] at b; omega
      have R2 : Right y' w ll p := right_of h3 lw.2 (by omega) (dig_right h3 h4 D2.rest (by rw [← e2]; exact b2)) D2.lt D2.nn
      cbv
      refine E_br hE (fun a => ?_) (fun a => ?_)
      · exfalso; subst hE; simp only [realE, cmp_lss, decide_eq_true_eq] at a; omega
      clear a; cbv
      repeat' (first
        | (refine E_nm hE (fun v hv => ?_); cbv)
        | fail)
      rename_i v1 hv1
      obtain ⟨f1, f2⟩ := two_digits (y := y') (by omega) ew R R2
      subst hE
      have g1 : v1 = qn * 4294967296 + p := by
        rw [hv1]; show IntKind.u64.wrap (IntKind.u64.wrap (qn * 4294967296) + p) = _
        have := R.small; have := R2.small; have := R.nn; have := R2.nn
        rw [wu64, wu64]; omega
      have g2 : v = w * 4294967296 + ll - p * y' := by
        rw [hv]; show (IntKind.u64.wrap (IntKind.u64.wrap (IntKind.u64.wrap (w * 4294967296) + ll) - IntKind.u64.wrap (p * y'))).fdiv (2 ^ min (Int.toNat 0) IntKind.u64.bits) = _
        rw [right_wrap h4 R2, show (2 : Int) ^ min (Int.toNat 0) IntKind.u64.bits = 1 by decide, shr_lit (by decide), Int.ediv_one]
      have el : l' = lh * 4294967296 + ll := by omega
      rw [← el] at f1 f2
      rw [← hr, g1, g2]
      exact ⟨f1.symm, f2.symm, trivial⟩
    · have c' : rn < 4294967296 := by
        have : ¬ 4294967296 ≤ rn := by subst hE; simpa only [realE, cmp_geq, decide_eq_false_iff_not] using c
        omega
      have dt := D.top
      have dp := D.pos
      clear hqn hrn
      cbv
      exact ⟨(qn, rn), by (show qn.toNat < q.toNat; omega), ⟨l1, by rw [← e1]; exact l2, by (show 0 ≤ rn; omega), c', by (show qn ≤ 4294967297; omega), by (show 0 ≤ qn; omega)⟩, stLe rfl (by repeat' (first | exact t_nil | apply t_cons | exact u2_int))⟩
  have a' : q < 4294967296 := by
    have : ¬ 4294967296 ≤ q := by subst hE; simpa only [realE, cmp_geq, decide_eq_false_iff_not] using a
    omega
  cbv
  refine E_br hE (fun b => ?_) (fun b => ?_)
  · have H' : 4294967296 ≤ q ∨ r' * 4294967296 + lh < q * yl := .inr (by
      subst hE; simp only [realE, cmp_gtr, intBinR, decide_eq_true_eq] at b
      rw [W.1 a', W.2.1] at b; exact b)
    clear b
    cbv
    refine E_nm hE (fun qn hqn => ?_)
    cbv
    refine E_nm hE (fun rn hrn => ?_)
    obtain ⟨l1, l2, l3⟩ := less H'
    have eqn : qn = q - 1 := by
      subst hE; rw [hqn]; show IntKind.u64.wrap (q - 1) = _
      have := D.top
      rw [wu64]; omega
    have ern : rn = r' + yh := by subst hE; rw [hrn]; exact W.2.2
    rw [← eqn] at l1 l2
    rw [← ern] at l2
    cbv
    refine E_br hE (fun c => ?_) (fun c => ?_)
    · have c' : 4294967296 ≤ rn := by subst hE; simpa only [realE, cmp_geq, decide_eq_true_eq] using c
      have dt := D.top
      have R : Right y' u lh qn := right_of h3 h2 (by omega) (dig_right h3 h4 (by rw [← e1]; exact l2) (dig_break h4 (by omega) (by omega) (by omega) c')) l1 (by omega)
      clear hqn hrn c c' l1 l2 l3 H'
      cbv
      refine E_nm hE (fun w hw => ?_)
      have ew : w = u * 4294967296 + lh - qn * y' := by subst hE; rw [hw]; exact right_wrap h4 R
      have lw := right_left R
      rw [← ew] at lw
      clear hw
      cbv
      refine E_br hE (fun a => ?_) (fun a => ?_)
      · exfalso; subst hE; simp only [realE, cmp_eql, decide_eq_true_eq] at a; omega
      cbv
      refine E_nm hE (fun p0 hp0 => ?_)
      have e5 : p0 = w / yh := by
        subst hE; rw [hp0]; show IntKind.u64.wrap (w.tdiv yh) = _
        have b1 := Int.ediv_nonneg lw.1 (show (0 : Int) ≤ yh by omega)
        have b2 := Int.ediv_le_self yh lw.1
        rw [Int.tdiv_eq_ediv_of_nonneg lw.1, wu64]; omega
      clear hp0; cbv
      refine E_nm hE (fun s0 hs0 => ?_)
      have D1 : Dig y' w ll p0 (w - p0 * yh) := by
        have := dig_start (y := y') (u := w) (un := ll) h3 h4 lw.1 lw.2 (by omega) (by omega)
        rw [← e1, ← e5] at this; exact this
      have e6 : s0 = w - p0 * yh := by
        subst hE; rw [hs0]; show IntKind.u64.wrap (w - IntKind.u64.wrap (p0 * yh)) = _
        have b1 := D1.pos
        have b2 := Int.mul_nonneg D1.nn (show (0 : Int) ≤ yh by omega)
        rw [wu64, wu64]
        generalize p0 * yh = p at *
        omega
      rw [← e6] at D1
      clear hs0 e6 e5 a
      cbv
      refine E_loop hE hG hm hl (ι := Int × Int) (fun p => ⟨[(2, .int .u64 (.s y')), (8, .int .u64 (.s 0)), (9, .int .u64 (.s yh)), (10, .int .u64 (.s yl)), (14, .int .u64 (.s ll)), (15, .int .u64 (.s qn)), (17, .int .u64 (.s w)), (18, .int .u64 (.s p.1)), (16, .int .u64 (.s p.2))], []⟩)
        (fun p => p.1.toNat) (fun p => Dig y' w ll p.1 p.2) ⟨(p0, s0), D1, stLe rfl (by repeat' (first | exact t_nil | apply t_cons | exact u2_int))⟩ ?_
      rintro ⟨p, s⟩ D2
      dsimp only at D2
      cbv
      have W2 := dig_words h3 h4 (show 0 ≤ ll by omega) (by omega) D2
      rw [← e1, ← e2] at W2
      have less2 : (4294967296 ≤ p ∨ s * 4294967296 + ll < p * yl) → w * 4294967296 + ll < (p - 1 + 1) * y' ∧ s + yh = w - (p - 1) * yh ∧ 1 ≤ p := by
        intro h; rw [e1]; exact dig_less h3 h4 lw.1 lw.2 (by omega) (by omega) D2 (by rw [← e2]; exact h)
      have dt2 := D2.top
      have dp2 := D2.pos
      refine E_br hE (fun a => ?_) (fun a => ?_)
      · have H2 : 4294967296 ≤ p ∨ s * 4294967296 + ll < p * yl := .inl (by subst hE; simpa only [realE, cmp_geq, decide_eq_true_eq] using a)
        clear a
        cbv
        refine E_nm hE (fun pn hpn => ?_)
        cbv
        refine E_nm hE (fun sn hsn => ?_)
        obtain ⟨l1, l2, l3⟩ := less2 H2
        have epn : pn = p - 1 := by
          subst hE; rw [hpn]; show IntKind.u64.wrap (p - 1) = _
          rw [wu64]; omega
        have esn : sn = s + yh := by subst hE; rw [hsn]; exact W2.2.2
        rw [← epn] at l1 l2
        rw [← esn] at l2
        cbv
        refine E_br hE (fun c => ?_) (fun c => ?_)
        · have c' : 4294967296 ≤ sn := by subst hE; simpa only [realE, cmp_geq, decide_eq_true_eq] using c
          have R2 : Right y' w ll pn := right_of h3 lw.2 (by omega) (dig_right h3 h4 (by rw [← e1]; exact l2) (dig_break h4 (by omega) (by omega) (by omega) c')) l1 (by omega)
          clear hpn hsn c c' l1 l2 l3 H2
          cbv
          refine E_br hE (fun a => ?_) (fun a => ?_)
          · exfalso; subst hE; simp only [realE, cmp_lss, decide_eq_true_eq] at a; omega
          clear a; cbv
          repeat' (first
            | (refine E_nm hE (fun v hv => ?_); cbv)
            | fail)
          rename_i v1 hv1
          obtain ⟨f1, f2⟩ := two_digits (y := y') (by omega) ew R R2
          subst hE
          have g1 : v1 = qn * 4294967296 + pn := by
            rw [hv1]; show IntKind.u64.wrap (IntKind.u64.wrap (qn * 4294967296) + pn) = _
            have := R.small; have := R2.small; have := R.nn; have := R2.nn
            rw [wu64, wu64]; omega
          have g2 : v = w * 4294967296 + ll - pn * y' := by
            rw [hv]; show (IntKind.u64.wrap (IntKind.u64.wrap (IntKind.u64.wrap (w * 4294967296) + ll) - IntKind.u64.wrap (pn * y'))).fdiv (2 ^ min (Int.toNat 0) IntKind.u64.bits) = _
            rw [right_wrap h4 R2, show (2 : Int) ^ min (Int.toNat 0) IntKind.u64.bits = 1 by decide, shr_lit (by decide), Int.ediv_one]
          have el : l' = lh * 4294967296 + ll := by omega
          rw [← el] at f1 f2
          rw [← hr, g1, g2]
          exact ⟨f1.symm, f2.symm, trivial⟩
        · have c' : sn < 4294967296 := by
            have : ¬ 4294967296 ≤ sn := by subst hE; simpa only [realE, cmp_geq, decide_eq_false_iff_not] using c
            omega
          clear hpn hsn
          cbv
          exact ⟨(pn, sn), by (show pn.toNat < p.toNat; omega), ⟨l1, by rw [← e1]; exact l2, by (show 0 ≤ sn; omega), c', by (show pn ≤ 4294967297; omega), by (show 0 ≤ pn; omega)⟩, stLe rfl (by repeat' (first | exact t_nil | apply t_cons | exact u2_int))⟩
      have a2 : p < 4294967296 := by
        have : ¬ 4294967296 ≤ p := by subst hE; simpa only [realE, cmp_geq, decide_eq_false_iff_not] using a
        omega
      cbv
      refine E_br hE (fun b => ?_) (fun b => ?_)
      · have H2 : 4294967296 ≤ p ∨ s * 4294967296 + ll < p * yl := .inr (by
          subst hE; simp only [realE, cmp_gtr, intBinR, decide_eq_true_eq] at b
          rw [W2.1 a2, W2.2.1] at b; exact b)
        clear b
        cbv
        refine E_nm hE (fun pn hpn => ?_)
        cbv
        refine E_nm hE (fun sn hsn => ?_)
        obtain ⟨l1, l2, l3⟩ := less2 H2
        have epn : pn = p - 1 := by
          subst hE; rw [hpn]; show IntKind.u64.wrap (p - 1) = _
          rw [wu64]; omega
        have esn : sn = s + yh := by subst hE; rw [hsn]; exact W2.2.2
        rw [← epn] at l1 l2
        rw [← esn] at l2
        cbv
        refine E_br hE (fun c => ?_) (fun c => ?_)
        · have c' : 4294967296 ≤ sn := by subst hE; simpa only [realE, cmp_geq, decide_eq_true_eq] using c
          have R2 : Right y' w ll pn := right_of h3 lw.2 (by omega) (dig_right h3 h4 (by rw [← e1]; exact l2) (dig_break h4 (by omega) (by omega) (by omega) c')) l1 (by omega)
          clear hpn hsn c c' l1 l2 l3 H2
          cbv
          refine E_br hE (fun a => ?_) (fun a => ?_)
          · exfalso; subst hE; simp only [realE, cmp_lss, decide_eq_true_eq] at a; omega
          clear a; cbv
          repeat' (first
            | (refine E_nm hE (fun v hv => ?_); cbv)
            | fail)
          rename_i v1 hv1
          obtain ⟨f1, f2⟩ := two_digits (y := y') (by omega) ew R R2
          subst hE
          have g1 : v1 = qn * 4294967296 + pn := by
            rw [hv1]; show IntKind.u64.wrap (IntKind.u64.wrap (qn * 4294967296) + pn) = _
            have := R.small; have := R2.small; have := R.nn; have := R2.nn
            rw [wu64, wu64]; omega
          have g2 : v = w * 4294967296 + ll - pn * y' := by
            rw [hv]; show (IntKind.u64.wrap (IntKind.u64.wrap (IntKind.u64.wrap (w * 4294967296) + ll) - IntKind.u64.wrap (pn * y'))).fdiv (2 ^ min (Int.toNat 0) IntKind.u64.bits) = _
            rw [right_wrap h4 R2, show (2 : Int) ^ min (Int.toNat 0) IntKind.u64.bits = 1 by decide, shr_lit (by decide), Int.ediv_one]
          have el : l' = lh * 4294967296 + ll := by omega
          rw [← el] at f1 f2
          rw [← hr, g1, g2]
          exact ⟨f1.symm, f2.symm, trivial⟩
        · have c' : sn < 4294967296 := by
            have : ¬ 4294967296 ≤ sn := by subst hE; simpa only [realE, cmp_geq, decide_eq_false_iff_not] using c
            omega
          clear hpn hsn
          cbv
          exact ⟨(pn, sn), by (show pn.toNat < p.toNat; omega), ⟨l1, by rw [← e1]; exact l2, by (show 0 ≤ sn; omega), c', by (show pn ≤ 4294967297; omega), by (show 0 ≤ pn; omega)⟩, stLe rfl (by repeat' (first | exact t_nil | apply t_cons | exact u2_int))⟩
      have b2 : p * yl ≤ s * 4294967296 + ll := by
        subst hE; simp only [realE, cmp_gtr, intBinR, decide_eq_false_iff_not] at b
        rw [W2.1 a2, W2.2.1] at b; omega
      have R2 : Right y' w ll p := right_of h3 lw.2 (by omega) (dig_right h3 h4 D2.rest (by rw [← e2]; exact b2)) D2.lt D2.nn
      cbv
      refine E_br hE (fun a => ?_) (fun a => ?_)
      · exfalso; subst hE; simp only [realE, cmp_lss, decide_eq_true_eq] at a; omega
      clear a; cbv
      repeat' (first
        | (refine E_nm hE (fun v hv => ?_); cbv)
        | fail)
      rename_i v1 hv1
      obtain ⟨f1, f2⟩ := two_digits (y := y') (by omega) ew R R2
      subst hE
      have g1 : v1 = qn * 4294967296 + p := by
        rw [hv1]; show IntKind.u64.wrap (IntKind.u64.wrap (qn * 4294967296) + p) = _
        have := R.small; have := R2.small; have := R.nn; have := R2.nn
        rw [wu64, wu64]; omega
      have g2 : v = w * 4294967296 + ll - p * y' := by
        rw [hv]; show (IntKind.u64.wrap (IntKind.u64.wrap (IntKind.u64.wrap (w * 4294967296) + ll) - IntKind.u64.wrap (p * y'))).fdiv (2 ^ min (Int.toNat 0) IntKind.u64.bits) = _
        rw [right_wrap h4 R2, show (2 : Int) ^ min (Int.toNat 0) IntKind.u64.bits = 1 by decide, shr_lit (by decide), Int.ediv_one]
      have el : l' = lh * 4294967296 + ll := by omega
      rw [← el] at f1 f2
      rw [← hr, g1, g2]
      exact ⟨f1.symm, f2.symm, trivial⟩
    · have c' : rn < 4294967296 := by
        have : ¬ 4294967296 ≤ rn := by subst hE; simpa only [realE, cmp_geq, decide_eq_false_iff_not] using c
        omega
      have dt := D.top
      have dp := D.pos
      clear hqn hrn
      cbv
      exact ⟨(qn, rn), by (show qn.toNat < q.toNat; omega), ⟨l1, by rw [← e1]; exact l2, by (show 0 ≤ rn; omega), c', by (show qn ≤ 4294967297; omega), by (show 0 ≤ qn; omega)⟩, stLe rfl (by repeat' (first | exact t_nil | apply t_cons | exact u2_int))⟩
  have b' : q * yl ≤ r' * 4294967296 + lh := by
    subst hE; simp only [realE, cmp_gtr, intBinR, decide_eq_false_iff_not] at b
    rw [W.1 a', W.2.1] at b; omega
  have R : Right y' u lh q := right_of h3 h2 (by omega) (dig_right h3 h4 D.rest (by rw [← e2]; exact b')) D.lt D.nn
  cbv
  refine E_nm hE (fun w hw => ?_)
  have ew : w = u * 4294967296 + lh - q * y' := by subst hE; rw [hw]; exact right_wrap h4 R
  have lw := right_left R
  rw [← ew] at lw
  clear hw
  cbv
  refine E_br hE (fun a => ?_) (fun a => ?_)
  · exfalso; subst hE; simp only [realE, cmp_eql, decide_eq_true_eq] at a; omega
  cbv
  refine E_nm hE (fun p0 hp0 => ?_)
  have e5 : p0 = w / yh := by
    subst hE; rw [hp0]; show IntKind.u64.wrap (w.tdiv yh) = _
    have b1 := Int.ediv_nonneg lw.1 (show (0 : Int) ≤ yh by omega)
    have b2 := Int.ediv_le_self yh lw.1
    rw [Int.tdiv_eq_ediv_of_nonneg lw.1, wu64]; omega
  clear hp0; cbv
  refine E_nm hE (fun s0 hs0 => ?_)
  have D1 : Dig y' w ll p0 (w - p0 * yh) := by
    have := dig_start (y := y') (u := w) (un := ll) h3 h4 lw.1 lw.2 (by omega) (by omega)
    rw [← e1, ← e5] at this; exact this
  have e6 : s0 = w - p0 * yh := by
    subst hE; rw [hs0]; show IntKind.u64.wrap (w - IntKind.u64.wrap (p0 * yh)) = _
    have b1 := D1.pos
    have b2 := Int.mul_nonneg D1.nn (show (0 : Int) ≤ yh by omega)
    rw [wu64, wu64]
    generalize p0 * yh = p at *
    omega
  rw [← e6] at D1
  clear hs0 e6 e5 a
  cbv
  refine E_loop hE hG hm hl (ι := Int × Int) (fun p => ⟨[(2, .int .u64 (.s y')), (8, .int .u64 (.s 0)), (9, .int .u64 (.s yh)), (10, .int .u64 (.s yl)), (14, .int .u64 (.s ll)), (15, .int .u64 (.s q)), (17, .int .u64 (.s w)), (18, .int .u64 (.s p.1)), (16, .int .u64 (.s p.2))], []⟩)
    (fun p => p.1.toNat) (fun p => Dig y' w ll p.1 p.2) ⟨(p0, s0), D1, stLe rfl (by repeat' (first | exact t_nil | apply t_cons | exact u2_int))⟩ ?_
  rintro ⟨p, s⟩ D2
  dsimp only at D2
  cbv
  have W2 := dig_words h3 h4 (show 0 ≤ ll by omega) (by omega) D2
  rw [← e1, ← e2] at W2
  have less2 : (4294967296 ≤ p ∨ s * 4294967296 + ll < p * yl) → w * 4294967296 + ll < (p - 1 + 1) * y' ∧ s + yh = w - (p - 1) * yh ∧ 1 ≤ p := by
    intro h; rw [e1]; exact dig_less h3 h4 lw.1 lw.2 (by omega) (by omega) D2 (by rw [← e2]; exact h)
  have dt2 := D2.top
  have dp2 := D2.pos
  refine E_br hE (fun a => ?_) (fun a => ?_)
  · have H2 : 4294967296 ≤ p ∨ s * 4294967296 + ll < p * yl := .inl (by subst hE; simpa only [realE, cmp_geq, decide_eq_true_eq] using a)
    clear a
    cbv
    refine E_nm hE (fun pn hpn => ?_)
    cbv
    refine E_nm hE (fun sn hsn => ?_)
    obtain ⟨l1, l2, l3⟩ := less2 H2
    have epn : pn = p - 1 := by
      subst hE; rw [hpn]; show IntKind.u64.wrap (p - 1) = _
      rw [wu64]; omega
    have esn : sn = s + yh := by subst hE; rw [hsn]; exact W2.2.2
    rw [← epn] at l1 l2
    rw [← esn] at l2
    cbv
    refine E_br hE (fun c => ?_) (fun c => ?_)
    · have c' : 4294967296 ≤ sn := by subst hE; simpa only [realE, cmp_geq, decide_eq_true_eq] using c
      have R2 : Right y' w ll pn := right_of h3 lw.2 (by omega) (dig_right h3 h4 (by rw [← e1]; exact l2) (dig_break h4 (by omega) (by omega) (by omega) c')) l1 (by omega)
      clear hpn hsn c c' l1 l2 l3 H2
      cbv
      refine E_br hE (fun a => ?_) (fun a => ?_)
      · exfalso; subst hE; simp only [realE, cmp_lss, decide_eq_true_eq] at a; omega
      clear a; cbv
      repeat' (first
        | (refine E_nm hE (fun v hv => ?_); cbv)
        | fail)
      rename_i v1 hv1
      obtain ⟨f1, f2⟩ := two_digits (y := y') (by omega) ew R R2
      subst hE
      have g1 : v1 = q * 4294967296 + pn := by
        rw [hv1]; show IntKind.u64.wrap (IntKind.u64.wrap (q * 4294967296) + pn) = _
        have := R.small; have := R2.small; have := R.nn; have := R2.nn
        rw [wu64, wu64]; omega
      have g2 : v = w * 4294967296 + ll - pn * y' := by
        rw [hv]; show (IntKind.u64.wrap (IntKind.u64.wrap (IntKind.u64.wrap (w * 4294967296) + ll) - IntKind.u64.wrap (pn * y'))).fdiv (2 ^ min (Int.toNat 0) IntKind.u64.bits) = _
        rw [right_wrap h4 R2, show (2 : Int) ^ min (Int.toNat 0) IntKind.u64.bits = 1 by decide, shr_lit (by decide), Int.ediv_one]
      have el : l' = lh * 4294967296 + ll := by omega
      rw [← el] at f1 f2
      rw [← hr, g1, g2]
      exact ⟨f1.symm, f2.symm, trivial⟩
    · have c' : sn < 4294967296 := by
        have : ¬ 4294967296 ≤ sn := by subst hE; simpa only [realE, cmp_geq, decide_eq_false_iff_not] using c
        omega
      clear hpn hsn
      cbv
      exact ⟨(pn, sn), by (show pn.toNat < p.toNat; omega), ⟨l1, by rw [← e1]; exact l2, by (show 0 ≤ sn; omega), c', by (show pn ≤ 4294967297; omega), by (show 0 ≤ pn; omega)⟩, stLe rfl (by repeat' (first | exact t_nil | apply t_cons | exact u2_int))⟩
  have a2 : p < 4294967296 := by
    have : ¬ 4294967296 ≤ p := by subst hE; simpa only [realE, cmp_geq, decide_eq_false_iff_not] using a
    omega
  cbv
  refine E_br hE (fun b => ?_) (fun b => ?_)
  · have H2 : 4294967296 ≤ p ∨ s * 4294967296 + ll < p * yl := .inr (by
      subst hE; simp only [realE, cmp_gtr, intBinR, decide_eq_true_eq] at b
      rw [W2.1 a2, W2.2.1] at b; exact b)
    clear b
    cbv
    refine E_nm hE (fun pn hpn => ?_)
    cbv
    refine E_nm hE (fun sn hsn => ?_)
    obtain ⟨l1, l2, l3⟩ := less2 H2
    have epn : pn = p - 1 := by
      subst hE; rw [hpn]; show IntKind.u64.wrap (p - 1) = _
      rw [wu64]; omega
    have esn : sn = s + yh := by subst hE; rw [hsn]; exact W2.2.2
    rw [← epn] at l1 l2
    rw [← esn] at l2
    cbv
    refine E_br hE (fun c => ?_) (fun c => ?_)
    · have c' : 4294967296 ≤ sn := by subst hE; simpa only [realE, cmp_geq, decide_eq_true_eq] using c
      have R2 : Right y' w ll pn := right_of h3 lw.2 (by omega) (dig_right h3 h4 (by rw [← e1]; exact l2) (dig_break h4 (by omega) (by omega) (by omega) c')) l1 (by omega)
      clear hpn hsn c c' l1 l2 l3 H2
      cbv
      refine E_br hE (fun a => ?_) (fun a => ?_)
      · exfalso; subst hE; simp only [realE, cmp_lss, decide_eq_true_eq] at a; omega
      clear a; cbv
      repeat' (first
        | (refine E_nm hE (fun v hv => ?_); cbv)
        | fail)
      rename_i v1 hv1
      obtain ⟨f1, f2⟩ := two_digits (y := y') (by omega) ew R R2
      subst hE
      have g1 : v1 = q * 4294967296 + pn := by
        rw [hv1]; show IntKind.u64.wrap (IntKind.u64.wrap (q * 4294967296) + pn) = _
        have := R.small; have := R2.small; have := R.nn; have := R2.nn
        rw [wu64, wu64]; omega
      have g2 : v = w * 4294967296 + ll - pn * y' := by
        rw [hv]; show (IntKind.u64.wrap (IntKind.u64.wrap (IntKind.u64.wrap (w * 4294967296) + ll) - IntKind.u64.wrap (pn * y'))).fdiv (2 ^ min (Int.toNat 0) IntKind.u64.bits) = _
        rw [right_wrap h4 R2, show (2 : Int) ^ min (Int.toNat 0) IntKind.u64.bits = 1 by decide, shr_lit (by decide), Int.ediv_one]
      have el : l' = lh * 4294967296 + ll := by omega
      rw [← el] at f1 f2
      rw [← hr, g1, g2]
      exact ⟨f1.symm, f2.symm, trivial⟩
    · have c' : sn < 4294967296 := by
        have : ¬ 4294967296 ≤ sn := by subst hE; simpa only [realE, cmp_geq, decide_eq_false_iff_not] using c
        omega
      clear hpn hsn
      cbv
      exact ⟨(pn, sn), by (show pn.toNat < p.toNat; omega), ⟨l1, by rw [← e1]; exact l2, by (show 0 ≤ sn; omega), c', by (show pn ≤ 4294967297; omega), by (show 0 ≤ pn; omega)⟩, stLe rfl (by repeat' (first | exact t_nil | apply t_cons | exact u2_int))⟩
  have b2 : p * yl ≤ s * 4294967296 + ll := by
    subst hE; simp only [realE, cmp_gtr, intBinR, decide_eq_false_iff_not] at b
    rw [W2.1 a2, W2.2.1] at b; omega
  have R2 : Right y' w ll p := right_of h3 lw.2 (by omega) (dig_right h3 h4 D2.rest (by rw [← e2]; exact b2)) D2.lt D2.nn
  cbv
  refine E_br hE (fun a => ?_) (fun a => ?_)
  · exfalso; subst hE; simp only [realE, cmp_lss, decide_eq_true_eq] at a; omega
  clear a; cbv
  repeat' (first
    | (refine E_nm hE (fun v hv => ?_); cbv)
    | fail)
  rename_i v1 hv1
  obtain ⟨f1, f2⟩ := two_digits (y := y') (by omega) ew R R2
  subst hE
  have g1 : v1 = q * 4294967296 + p := by
    rw [hv1]; show IntKind.u64.wrap (IntKind.u64.wrap (q * 4294967296) + p) = _
    have := R.small; have := R2.small; have := R.nn; have := R2.nn
    rw [wu64, wu64]; omega
  have g2 : v = w * 4294967296 + ll - p * y' := by
    rw [hv]; show (IntKind.u64.wrap (IntKind.u64.wrap (IntKind.u64.wrap (w * 4294967296) + ll) - IntKind.u64.wrap (p * y'))).fdiv (2 ^ min (Int.toNat 0) IntKind.u64.bits) = _
    rw [right_wrap h4 R2, show (2 : Int) ^ min (Int.toNat 0) IntKind.u64.bits = 1 by decide, shr_lit (by decide), Int.ediv_one]
  have el : l' = lh * 4294967296 + ll := by omega
  rw [← el] at f1 f2
  rw [← hr, g1, g2]
  exact ⟨f1.symm, f2.symm, trivial⟩
end Go.Proofs.Ytoghalnnmhpfmaa.Ev

/- Contracts: whole numbers as numbers, the quotient. Printed by gen.py out of C9.spec. -/
namespace Go.Proofs.Ytoghalnnmhpfmaa.Ev
open Go Go.Proofs
set_option linter.unusedVariables false
set_option linter.unusedSimpArgs false

theorem c_Of (n : Int) (h0 : -9223372036854775808 ≤ n) (h1 : n < 9223372036854775808) : ∃ t : Num, t = Num.ofInt n ∧ CallsA Try.prog 20 [.int .i64 (.s n)] (t.av) := by
  refine ⟨_, rfl, ?_⟩
  generalize hr : Num.ofInt n = r
  refine callsA_of hG hm Try.func20 (by kernel_rfl) ?_
  intro E hE lp hl
  cbv
  repeat' (first
    | (refine E_br hE (fun h => ?_) (fun h => ?_) <;> cbv)
    | (refine E_nm hE (fun v hv => ?_); cbv)
    | (apply E_callX hE (c_LZ64 _ ?_ ?_); (case hf => rfl); (case hc => (cbv <;> trivial)); (case hle => (repeat' (first | exact u_nil | apply u_cons | apply u2_agg | exact u2_int | exact u1_int | exact u2_bool | exact u1_bool | exact u2_sli | exact u1_sli | exact u2_s0 | exact u1_s0))); all_goals (first | (intro t ht; cbv) | (subst hE; (try simp only [realE, cmp_eql, cmp_neq, cmp_lss, cmp_leq, cmp_gtr, cmp_geq, intBinR, decide_eq_true_eq, decide_eq_false_iff_not, SI.val, SB.val, Num.eta, Iv.eta] at *); (subst_vars; simp only [wu64]; omega))))
    | (apply E_pcallX hE (c_LZ64 _ ?_ ?_); (case hm => rfl); (case hle => (repeat' (first | exact u_nil | apply u_cons | apply u2_agg | exact u2_int | exact u1_int | exact u2_bool | exact u1_bool | exact u2_sli | exact u1_sli | exact u2_s0 | exact u1_s0))); all_goals (first | (intro t ht; cbv) | (subst hE; (try simp only [realE, cmp_eql, cmp_neq, cmp_lss, cmp_leq, cmp_gtr, cmp_geq, intBinR, decide_eq_true_eq, decide_eq_false_iff_not, SI.val, SB.val, Num.eta, Iv.eta] at *); (subst_vars; simp only [wu64]; omega))))
    | fail)
  all_goals (subst hE; subst hr)
  all_goals (try simp only [realE, cmp_eql, cmp_neq, cmp_lss, cmp_leq, cmp_gtr, cmp_geq, intBinR, decide_eq_true_eq, decide_eq_false_iff_not, SI.val, SB.val, Num.eta, Iv.eta] at *)
  all_goals (try subst_vars)
  all_goals (first | rw [wabs_neg h0 ‹n < 0›] at * | rw [wabs_pos (show 0 ≤ n by omega) h1] at *)
  all_goals (try (exfalso; have := blen_le 64 (x := (n.natAbs : Int)) (by omega); omega))
  case refine_2.hK.refine_1 =>
    have e : n = 0 := by omega
    subst e
    exact ⟨rfl, rfl, rfl, rfl, trivial⟩
  all_goals (unfold Num.ofInt; rw [if_neg (by omega)]; exact ⟨rfl, rfl, rfl, rfl, trivial⟩)

theorem c_quDiv (a : Num) (b : Num) (up : Bool) (ha : a.ok) (hb : b.ok) : ∃ t : Num, t = Num.div a b up ∧ CallsA Try.prog 33 [a.av, b.av, .bool (.s up)] (t.av) := by
  refine ⟨_, rfl, ?_⟩
  generalize hr : Num.div a b up = r
  refine callsA_of hG hm Try.func33 (by kernel_rfl) ?_
  intro E hE lp hl
  cbv
  repeat' (first
    | (refine E_br hE (fun h => ?_) (fun h => ?_) <;> cbv)
    | (refine E_nm hE (fun v hv => ?_); cbv)
    | (apply E_callX hE (c_quFair ⟨_, _, _, _⟩); (case hf => rfl); (case hc => (cbv <;> trivial)); (case hle => (repeat' (first | exact u_nil | apply u_cons | apply u2_agg | exact u2_int | exact u1_int | exact u2_bool | exact u1_bool | exact u2_sli | exact u1_sli | exact u2_s0 | exact u1_s0))); intro t ht; cbv)
    | (apply E_pcallX hE (c_quFair ⟨_, _, _, _⟩); (case hm => rfl); (case hle => (repeat' (first | exact u_nil | apply u_cons | apply u2_agg | exact u2_int | exact u1_int | exact u2_bool | exact u1_bool | exact u2_sli | exact u1_sli | exact u2_s0 | exact u1_s0))); intro t ht; cbv)
    | (apply E_callX hE (c_Inf _); (case hf => rfl); (case hc => (cbv <;> trivial)); (case hle => (repeat' (first | exact u_nil | apply u_cons | apply u2_agg | exact u2_int | exact u1_int | exact u2_bool | exact u1_bool | exact u2_sli | exact u1_sli | exact u2_s0 | exact u1_s0))); intro t ht; cbv)
    | (apply E_pcallX hE (c_Inf _); (case hm => rfl); (case hle => (repeat' (first | exact u_nil | apply u_cons | apply u2_agg | exact u2_int | exact u1_int | exact u2_bool | exact u1_bool | exact u2_sli | exact u1_sli | exact u2_s0 | exact u1_s0))); intro t ht; cbv)
    | (apply E_callX hE (c_Div64 _ _ _ ?_ ?_ ?_ ?_ ?_ ?_); (case hf => rfl); (case hc => (cbv <;> trivial)); (case hle => (repeat' (first | exact u_nil | apply u_cons | apply u2_agg | exact u2_int | exact u1_int | exact u2_bool | exact u1_bool | exact u2_sli | exact u1_sli | exact u2_s0 | exact u1_s0))); all_goals (first | (intro t ht; cbv) | (subst hE; (try simp only [realE, cmp_eql, cmp_neq, cmp_lss, cmp_leq, cmp_gtr, cmp_geq, intBinR, decide_eq_true_eq, decide_eq_false_iff_not, SI.val, SB.val, Num.eta, Iv.eta] at *); (subst_vars; have fb := Num.fin_of (n := b) ‹_› ‹_›; have ob := Num.fair_ok hb; have oa := Num.fair_ok ha; have := oa.1; have := oa.2; have := ob.1; have := ob.2; (try simp only [shr1, shl63, wu64] at *); first | omega | exact (show 0 ≤ a.fair.m by omega) | exact (show a.fair.m < b.fair.m by omega) | exact (show a.fair.m / 2 < b.fair.m by omega) | exact (show 9223372036854775808 ≤ b.fair.m by omega) | exact (show b.fair.m < 18446744073709551616 by omega)))))
    | (apply E_pcallX hE (c_Div64 _ _ _ ?_ ?_ ?_ ?_ ?_ ?_); (case hm => rfl); (case hle => (repeat' (first | exact u_nil | apply u_cons | apply u2_agg | exact u2_int | exact u1_int | exact u2_bool | exact u1_bool | exact u2_sli | exact u1_sli | exact u2_s0 | exact u1_s0))); all_goals (first | (intro t ht; cbv) | (subst hE; (try simp only [realE, cmp_eql, cmp_neq, cmp_lss, cmp_leq, cmp_gtr, cmp_geq, intBinR, decide_eq_true_eq, decide_eq_false_iff_not, SI.val, SB.val, Num.eta, Iv.eta] at *); (subst_vars; have fb := Num.fin_of (n := b) ‹_› ‹_›; have ob := Num.fair_ok hb; have oa := Num.fair_ok ha; have := oa.1; have := oa.2; have := ob.1; have := ob.2; (try simp only [shr1, shl63, wu64] at *); first | omega | exact (show 0 ≤ a.fair.m by omega) | exact (show a.fair.m < b.fair.m by omega) | exact (show a.fair.m / 2 < b.fair.m by omega) | exact (show 9223372036854775808 ≤ b.fair.m by omega) | exact (show b.fair.m < 18446744073709551616 by omega)))))
    | (apply E_callX hE (c_Grow _ _ _ _ _); (case hf => rfl); (case hc => (cbv <;> trivial)); (case hle => (repeat' (first | exact u_nil | apply u_cons | apply u2_agg | exact u2_int | exact u1_int | exact u2_bool | exact u1_bool | exact u2_sli | exact u1_sli | exact u2_s0 | exact u1_s0))); intro t ht; cbv)
    | (apply E_pcallX hE (c_Grow _ _ _ _ _); (case hm => rfl); (case hle => (repeat' (first | exact u_nil | apply u_cons | apply u2_agg | exact u2_int | exact u1_int | exact u2_bool | exact u1_bool | exact u2_sli | exact u1_sli | exact u2_s0 | exact u1_s0))); intro t ht; cbv)
    | fail)
  all_goals (subst hE; subst hr)
  all_goals (try simp only [realE, cmp_eql, cmp_neq, cmp_lss, cmp_leq, cmp_gtr, cmp_geq, intBinR, decide_eq_true_eq, decide_eq_false_iff_not, SI.val, SB.val, Num.eta, Iv.eta] at *)
  all_goals (refine Num.fin (t := ⟨_, _, _, _⟩) ?_; subst_vars; unfold Num.div)
  case' hK.hK.refine_1.hK => rw [if_pos ‹_›]
  case' hK.hK.refine_2.refine_1 => rw [if_neg ‹_›, if_pos (.inl ‹_›)]; rfl
  case' hK.hK.refine_2.refine_2.refine_1 => rw [if_neg ‹_›, if_pos (.inr ‹_›)]; rfl
  case' hK.hK.refine_2.refine_2.refine_2.refine_1.hK => rw [if_neg ‹_›, if_neg (by simp_all), if_pos ‹_›]; rfl
  all_goals (rw [if_neg ‹¬ b.fair.kind = 0›, if_neg (by simp_all), if_neg ‹¬ a.fair.kind = 2›])
  all_goals (have fa := Num.fin_of (n := a) ‹_› ‹_›; have fb := Num.fin_of (n := b) ‹_› ‹_›; simp only [shr1, shl63])
  all_goals (first | exact Num.div_lo (Num.fair_ok ha) fa.2.2 fb.2.2 ‹_› | exact Num.div_hi (Num.fair_ok ha) fa.2.2 fb.2.2 ‹_›)

end Go.Proofs.Ytoghalnnmhpfmaa.Ev

/- What the contracts of intervals are told with. -/
namespace Go.Proofs.Ytoghalnnmhpfmaa.Ev
open Go Go.Proofs
set_option linter.unusedVariables false
set_option linter.unusedSimpArgs false
theorem Iv.fin {t r : Iv} (h : t = r) : t.empty = r.empty ∧ t.lo.kind = r.lo.kind ∧ t.lo.neg = r.lo.neg ∧ t.lo.m = r.lo.m ∧ t.lo.e = r.lo.e ∧ t.hi.kind = r.hi.kind ∧ t.hi.neg = r.hi.neg ∧ t.hi.m = r.hi.m ∧ t.hi.e = r.hi.e ∧ True := by
  subst h; exact ⟨rfl, rfl, rfl, rfl, rfl, rfl, rfl, rfl, rfl, trivial⟩
theorem slcO1 {P : Program} {E : Env} (hE : E = realE P) {a z : Iv} {d : List AV} : sle2 (.slc 9 (.l 1) (E.rfun [a.cells] 0 d)) (.slc 9 (.s 1) (fun i => Iv.cells ([a].getD i z))) := by
  subst hE
  refine ⟨rfl, rfl, fun i hi => ?_⟩
  match i, hi with
  | 0, _ => exact iv_cells_self
  | i + 1, hi => exact absurd hi (by simp [SI.val])
theorem slc2 {a b : Num} {z : Num} : sle2 (.slc 4 (.l 2) (fun i => getRow [a.cells, b.cells] (Int.ofNat i))) (.slc 4 (.s 2) (fun i => Num.cells ([a, b].getD i z))) := by
  have r : ∀ {x : Num}, sleL sle0 x.cells x.cells := ⟨⟨rfl, rfl⟩, rfl, ⟨rfl, rfl⟩, ⟨rfl, rfl⟩, trivial⟩
  refine ⟨rfl, rfl, fun i hi => ?_⟩
  match i, hi with
  | 0, _ => exact r
  | 1, _ => exact r
  | i + 2, hi => exact absurd hi (by simp [SI.val])
end Go.Proofs.Ytoghalnnmhpfmaa.Ev

/- Contracts: the quotient of intervals. Printed by gen.py out of C10.spec. -/
namespace Go.Proofs.Ytoghalnnmhpfmaa.Ev
open Go Go.Proofs
set_option linter.unusedVariables false
set_option linter.unusedSimpArgs false

set_option maxHeartbeats 4000000 in
theorem c_opDiv (a : Iv) (b : Iv) (h1 : a.lo.ok) (h2 : a.hi.ok) (h3 : b.lo.ok) (h4 : b.hi.ok) : ∃ t : Iv, t = Iv.div a b ∧ CallsA Try.prog 8 [a.av, b.av] (t.av) := by
  refine ⟨_, rfl, ?_⟩
  generalize hr : Iv.div a b = r
  refine callsA_of hG hm Try.func8 (by kernel_rfl) ?_
  intro E hE lp hl
  cbv
  repeat' (first
    | (apply E_br_t hE; assumption; cbv)
    | (apply E_br_f hE; assumption; cbv)
    | (refine E_br hE (fun h => ?_) (fun h => ?_) <;> cbv)
    | (refine E_nm hE (fun v hv => ?_); cbv)
    | (apply E_callX hE (c_none [a, b] 2 rfl (by decide)); (case hf => rfl); (case hc => (cbv <;> trivial)); (case hle => exact ⟨slcO2 hE, trivial⟩); intro t ht; cbv)
    | (apply E_callX hE (c_corners a b 33 Num.div Num.ok (fun x y up hx hy => c_quDiv x y up hx hy) h1 h2 h3 h4); (case hf => rfl); (case hc => (cbv <;> trivial)); (case hle => (repeat' (first | exact u_nil | apply u_cons | apply u2_agg | exact u2_int | exact u1_int | exact u2_bool | exact u1_bool | exact u2_sli | exact u1_sli | exact u2_s0 | exact u1_s0 | exact u2_fn))); intro t ht; cbv)
    | (apply E_callX hE (c_Sign ⟨_, _, _, _⟩); (case hf => rfl); (case hc => (cbv <;> trivial)); (case hle => (repeat' (first | exact u_nil | apply u_cons | apply u2_agg | exact u2_int | exact u1_int | exact u2_bool | exact u1_bool | exact u2_sli | exact u1_sli | exact u2_s0 | exact u1_s0))); intro t ht; cbv)
    | (apply E_pcallX hE (c_Sign ⟨_, _, _, _⟩); (case hm => rfl); (case hle => (repeat' (first | exact u_nil | apply u_cons | apply u2_agg | exact u2_int | exact u1_int | exact u2_bool | exact u1_bool | exact u2_sli | exact u1_sli | exact u2_s0 | exact u1_s0))); intro t ht; cbv)
    | (apply E_callX hE (c_ivNone ); (case hf => rfl); (case hc => (cbv <;> trivial)); (case hle => (repeat' (first | exact u_nil | apply u_cons | apply u2_agg | exact u2_int | exact u1_int | exact u2_bool | exact u1_bool | exact u2_sli | exact u1_sli | exact u2_s0 | exact u1_s0))); intro t ht; cbv)
    | (apply E_pcallX hE (c_ivNone ); (case hm => rfl); (case hle => (repeat' (first | exact u_nil | apply u_cons | apply u2_agg | exact u2_int | exact u1_int | exact u2_bool | exact u1_bool | exact u2_sli | exact u1_sli | exact u2_s0 | exact u1_s0))); intro t ht; cbv)
    | (apply E_callX hE (c_ivHas ⟨_, ⟨_, _, _, _⟩, ⟨_, _, _, _⟩⟩ ⟨_, _, _, _⟩); (case hf => rfl); (case hc => (cbv <;> trivial)); (case hle => (repeat' (first | exact u_nil | apply u_cons | apply u2_agg | exact u2_int | exact u1_int | exact u2_bool | exact u1_bool | exact u2_sli | exact u1_sli | exact u2_s0 | exact u1_s0))); intro t ht; cbv)
    | (apply E_pcallX hE (c_ivHas ⟨_, ⟨_, _, _, _⟩, ⟨_, _, _, _⟩⟩ ⟨_, _, _, _⟩); (case hm => rfl); (case hle => (repeat' (first | exact u_nil | apply u_cons | apply u2_agg | exact u2_int | exact u1_int | exact u2_bool | exact u1_bool | exact u2_sli | exact u1_sli | exact u2_s0 | exact u1_s0))); intro t ht; cbv)
    | (apply E_callX hE (c_ivAll ); (case hf => rfl); (case hc => (cbv <;> trivial)); (case hle => (repeat' (first | exact u_nil | apply u_cons | apply u2_agg | exact u2_int | exact u1_int | exact u2_bool | exact u1_bool | exact u2_sli | exact u1_sli | exact u2_s0 | exact u1_s0))); intro t ht; cbv)
    | (apply E_pcallX hE (c_ivAll ); (case hm => rfl); (case hle => (repeat' (first | exact u_nil | apply u_cons | apply u2_agg | exact u2_int | exact u1_int | exact u2_bool | exact u1_bool | exact u2_sli | exact u1_sli | exact u2_s0 | exact u1_s0))); intro t ht; cbv)
    | (apply E_callX hE (c_quDiv ⟨_, _, _, _⟩ ⟨_, _, _, _⟩ _ ?_ ?_); (case hf => rfl); (case hc => (cbv <;> trivial)); (case hle => (repeat' (first | exact u_nil | apply u_cons | apply u2_agg | exact u2_int | exact u1_int | exact u2_bool | exact u1_bool | exact u2_sli | exact u1_sli | exact u2_s0 | exact u1_s0))); all_goals (first | (intro t ht; cbv) | (subst hE; (try simp only [realE, cmp_eql, cmp_neq, cmp_lss, cmp_leq, cmp_gtr, cmp_geq, intBinR, decide_eq_true_eq, decide_eq_false_iff_not, SI.val, SB.val, Num.eta, Iv.eta] at *); first | exact h1 | exact h2 | exact h3 | exact h4)))
    | (apply E_pcallX hE (c_quDiv ⟨_, _, _, _⟩ ⟨_, _, _, _⟩ _ ?_ ?_); (case hm => rfl); (case hle => (repeat' (first | exact u_nil | apply u_cons | apply u2_agg | exact u2_int | exact u1_int | exact u2_bool | exact u1_bool | exact u2_sli | exact u1_sli | exact u2_s0 | exact u1_s0))); all_goals (first | (intro t ht; cbv) | (subst hE; (try simp only [realE, cmp_eql, cmp_neq, cmp_lss, cmp_leq, cmp_gtr, cmp_geq, intBinR, decide_eq_true_eq, decide_eq_false_iff_not, SI.val, SB.val, Num.eta, Iv.eta] at *); first | exact h1 | exact h2 | exact h3 | exact h4)))
    | (apply E_callX hE (c_Inf _); (case hf => rfl); (case hc => (cbv <;> trivial)); (case hle => (repeat' (first | exact u_nil | apply u_cons | apply u2_agg | exact u2_int | exact u1_int | exact u2_bool | exact u1_bool | exact u2_sli | exact u1_sli | exact u2_s0 | exact u1_s0))); intro t ht; cbv)
    | (apply E_pcallX hE (c_Inf _); (case hm => rfl); (case hle => (repeat' (first | exact u_nil | apply u_cons | apply u2_agg | exact u2_int | exact u1_int | exact u2_bool | exact u1_bool | exact u2_sli | exact u1_sli | exact u2_s0 | exact u1_s0))); intro t ht; cbv)
    | (apply E_callX hE (c_ivMake ⟨_, _, _, _⟩ ⟨_, _, _, _⟩); (case hf => rfl); (case hc => (cbv <;> trivial)); (case hle => (repeat' (first | exact u_nil | apply u_cons | apply u2_agg | exact u2_int | exact u1_int | exact u2_bool | exact u1_bool | exact u2_sli | exact u1_sli | exact u2_s0 | exact u1_s0))); intro t ht; cbv)
    | (apply E_pcallX hE (c_ivMake ⟨_, _, _, _⟩ ⟨_, _, _, _⟩); (case hm => rfl); (case hle => (repeat' (first | exact u_nil | apply u_cons | apply u2_agg | exact u2_int | exact u1_int | exact u2_bool | exact u1_bool | exact u2_sli | exact u1_sli | exact u2_s0 | exact u1_s0))); intro t ht; cbv)
    | fail)
  all_goals (subst hE; subst hr)
  all_goals (try simp only [realE, cmp_eql, cmp_neq, cmp_lss, cmp_leq, cmp_gtr, cmp_geq, intBinR, decide_eq_true_eq, decide_eq_false_iff_not, SI.val, SB.val, Num.eta, Iv.eta] at *)
  all_goals (try refine Iv.fin (t := ⟨_, ⟨_, _, _, _⟩, ⟨_, _, _, _⟩⟩) ?_)
  all_goals (change t = _; subst_vars; try simp only [show ({ kind := 0, neg := false, m := 0, e := 0 } : Num) = Num.zero from rfl] at *)
  all_goals (try replace hv := hv.symm)
  all_goals first
    | (exfalso; omega)
    | (unfold Iv.div Iv.corners; first
      | rw [if_pos (.inl ‹_›)]
      | rw [if_pos (.inr ⟨by omega, by omega⟩)]
      | (rw [if_neg (by rintro (q | q) <;> first | omega | simp_all)]; first
        | rw [if_pos (show 0 < b.lo.sign ∨ b.hi.sign < 0 by omega)]
        | (rw [if_neg (show ¬ (0 < b.lo.sign ∨ b.hi.sign < 0) by omega)]; first
          | rw [if_pos (.inl ⟨by omega, by omega⟩)]
          | rw [if_pos (.inr ‹_›)]
          | (rw [if_neg (by rintro (q | q) <;> first | omega | simp_all)]; unfold Iv.half
             (first | rw [if_pos (show a.lo.sign < 0 by omega)] | rw [if_neg (show ¬ a.lo.sign < 0 by omega)])
             (first | rw [if_pos (show b.hi.sign = 0 by omega)] | rw [if_neg (show ¬ b.hi.sign = 0 by omega)])
             (first | rw [if_pos (by omega)] | rw [if_neg (by omega)])))))

end Go.Proofs.Ytoghalnnmhpfmaa.Ev

/- Contracts: the opposite of an interval, how far from nought, the square. Printed by gen.py out of C11.spec. -/
namespace Go.Proofs.Ytoghalnnmhpfmaa.Ev
open Go Go.Proofs
set_option linter.unusedVariables false
set_option linter.unusedSimpArgs false

theorem c_opNeg (a : Iv)  : ∃ t : Iv, t = Iv.neg a ∧ CallsA Try.prog 15 [a.av] (t.av) := by
  refine ⟨_, rfl, ?_⟩
  generalize hr : Iv.neg a = r
  refine callsA_of hG hm Try.func15 (by kernel_rfl) ?_
  intro E hE lp hl
  cbv
  repeat' (first
    | (refine E_br hE (fun h => ?_) (fun h => ?_) <;> cbv)
    | (refine E_nm hE (fun v hv => ?_); cbv)
    | (apply E_callX hE (c_none [a] 1 rfl (by decide)); (case hf => rfl); (case hc => (cbv <;> trivial)); (case hle => exact ⟨slcO1 hE, trivial⟩); intro t ht; cbv)
    | (apply E_callX hE (c_Neg ⟨_, _, _, _⟩); (case hf => rfl); (case hc => (cbv <;> trivial)); (case hle => (repeat' (first | exact u_nil | apply u_cons | apply u2_agg | exact u2_int | exact u1_int | exact u2_bool | exact u1_bool | exact u2_sli | exact u1_sli | exact u2_s0 | exact u1_s0))); intro t ht; cbv)
    | (apply E_pcallX hE (c_Neg ⟨_, _, _, _⟩); (case hm => rfl); (case hle => (repeat' (first | exact u_nil | apply u_cons | apply u2_agg | exact u2_int | exact u1_int | exact u2_bool | exact u1_bool | exact u2_sli | exact u1_sli | exact u2_s0 | exact u1_s0))); intro t ht; cbv)
    | (apply E_callX hE (c_ivNone ); (case hf => rfl); (case hc => (cbv <;> trivial)); (case hle => (repeat' (first | exact u_nil | apply u_cons | apply u2_agg | exact u2_int | exact u1_int | exact u2_bool | exact u1_bool | exact u2_sli | exact u1_sli | exact u2_s0 | exact u1_s0))); intro t ht; cbv)
    | (apply E_pcallX hE (c_ivNone ); (case hm => rfl); (case hle => (repeat' (first | exact u_nil | apply u_cons | apply u2_agg | exact u2_int | exact u1_int | exact u2_bool | exact u1_bool | exact u2_sli | exact u1_sli | exact u2_s0 | exact u1_s0))); intro t ht; cbv)
    | (apply E_callX hE (c_ivMake ⟨_, _, _, _⟩ ⟨_, _, _, _⟩); (case hf => rfl); (case hc => (cbv <;> trivial)); (case hle => (repeat' (first | exact u_nil | apply u_cons | apply u2_agg | exact u2_int | exact u1_int | exact u2_bool | exact u1_bool | exact u2_sli | exact u1_sli | exact u2_s0 | exact u1_s0))); intro t ht; cbv)
    | (apply E_pcallX hE (c_ivMake ⟨_, _, _, _⟩ ⟨_, _, _, _⟩); (case hm => rfl); (case hle => (repeat' (first | exact u_nil | apply u_cons | apply u2_agg | exact u2_int | exact u1_int | exact u2_bool | exact u1_bool | exact u2_sli | exact u1_sli | exact u2_s0 | exact u1_s0))); intro t ht; cbv)
    | fail)
  all_goals (subst hE; subst hr)
  all_goals (try simp only [realE, cmp_eql, cmp_neq, cmp_lss, cmp_leq, cmp_gtr, cmp_geq, intBinR, decide_eq_true_eq, decide_eq_false_iff_not, SI.val, SB.val, Num.eta, Iv.eta] at *)
  all_goals (try refine Iv.fin (t := ⟨_, ⟨_, _, _, _⟩, ⟨_, _, _, _⟩⟩) ?_)
  all_goals (subst_vars; unfold Iv.neg; simp_all)

theorem c_opAbs (a : Iv)  : ∃ t : Iv, t = Iv.abs a ∧ CallsA Try.prog 52 [a.av] (t.av) := by
  refine ⟨_, rfl, ?_⟩
  generalize hr : Iv.abs a = r
  refine callsA_of hG hm Try.func52 (by kernel_rfl) ?_
  intro E hE lp hl
  cbv
  repeat' (first
    | (refine E_br hE (fun h => ?_) (fun h => ?_) <;> cbv)
    | (refine E_nm hE (fun v hv => ?_); cbv)
    | (apply E_callX hE (c_none [a] 1 rfl (by decide)); (case hf => rfl); (case hc => (cbv <;> trivial)); (case hle => exact ⟨slcO1 hE, trivial⟩); intro t ht; cbv)
    | (apply E_pcallX hE (c_Most [⟨_, _, _, _⟩, ⟨_, _, _, _⟩] 2 rfl (by decide)); (case hm => rfl); (case hle => exact ⟨slc2, trivial⟩); intro t ht; cbv)
    | (apply E_callX hE (c_Sign ⟨_, _, _, _⟩); (case hf => rfl); (case hc => (cbv <;> trivial)); (case hle => (repeat' (first | exact u_nil | apply u_cons | apply u2_agg | exact u2_int | exact u1_int | exact u2_bool | exact u1_bool | exact u2_sli | exact u1_sli | exact u2_s0 | exact u1_s0))); intro t ht; cbv)
    | (apply E_pcallX hE (c_Sign ⟨_, _, _, _⟩); (case hm => rfl); (case hle => (repeat' (first | exact u_nil | apply u_cons | apply u2_agg | exact u2_int | exact u1_int | exact u2_bool | exact u1_bool | exact u2_sli | exact u1_sli | exact u2_s0 | exact u1_s0))); intro t ht; cbv)
    | (apply E_callX hE (c_Neg ⟨_, _, _, _⟩); (case hf => rfl); (case hc => (cbv <;> trivial)); (case hle => (repeat' (first | exact u_nil | apply u_cons | apply u2_agg | exact u2_int | exact u1_int | exact u2_bool | exact u1_bool | exact u2_sli | exact u1_sli | exact u2_s0 | exact u1_s0))); intro t ht; cbv)
    | (apply E_pcallX hE (c_Neg ⟨_, _, _, _⟩); (case hm => rfl); (case hle => (repeat' (first | exact u_nil | apply u_cons | apply u2_agg | exact u2_int | exact u1_int | exact u2_bool | exact u1_bool | exact u2_sli | exact u1_sli | exact u2_s0 | exact u1_s0))); intro t ht; cbv)
    | (apply E_callX hE (c_ivNone ); (case hf => rfl); (case hc => (cbv <;> trivial)); (case hle => (repeat' (first | exact u_nil | apply u_cons | apply u2_agg | exact u2_int | exact u1_int | exact u2_bool | exact u1_bool | exact u2_sli | exact u1_sli | exact u2_s0 | exact u1_s0))); intro t ht; cbv)
    | (apply E_pcallX hE (c_ivNone ); (case hm => rfl); (case hle => (repeat' (first | exact u_nil | apply u_cons | apply u2_agg | exact u2_int | exact u1_int | exact u2_bool | exact u1_bool | exact u2_sli | exact u1_sli | exact u2_s0 | exact u1_s0))); intro t ht; cbv)
    | (apply E_callX hE (c_opNeg ⟨_, ⟨_, _, _, _⟩, ⟨_, _, _, _⟩⟩); (case hf => rfl); (case hc => (cbv <;> trivial)); (case hle => (repeat' (first | exact u_nil | apply u_cons | apply u2_agg | exact u2_int | exact u1_int | exact u2_bool | exact u1_bool | exact u2_sli | exact u1_sli | exact u2_s0 | exact u1_s0))); intro t ht; cbv)
    | (apply E_pcallX hE (c_opNeg ⟨_, ⟨_, _, _, _⟩, ⟨_, _, _, _⟩⟩); (case hm => rfl); (case hle => (repeat' (first | exact u_nil | apply u_cons | apply u2_agg | exact u2_int | exact u1_int | exact u2_bool | exact u1_bool | exact u2_sli | exact u1_sli | exact u2_s0 | exact u1_s0))); intro t ht; cbv)
    | (apply E_callX hE (c_ivMake ⟨_, _, _, _⟩ ⟨_, _, _, _⟩); (case hf => rfl); (case hc => (cbv <;> trivial)); (case hle => (repeat' (first | exact u_nil | apply u_cons | apply u2_agg | exact u2_int | exact u1_int | exact u2_bool | exact u1_bool | exact u2_sli | exact u1_sli | exact u2_s0 | exact u1_s0))); intro t ht; cbv)
    | (apply E_pcallX hE (c_ivMake ⟨_, _, _, _⟩ ⟨_, _, _, _⟩); (case hm => rfl); (case hle => (repeat' (first | exact u_nil | apply u_cons | apply u2_agg | exact u2_int | exact u1_int | exact u2_bool | exact u1_bool | exact u2_sli | exact u1_sli | exact u2_s0 | exact u1_s0))); intro t ht; cbv)
    | fail)
  all_goals (subst hE; subst hr)
  all_goals (try simp only [realE, cmp_eql, cmp_neq, cmp_lss, cmp_leq, cmp_gtr, cmp_geq, intBinR, decide_eq_true_eq, decide_eq_false_iff_not, SI.val, SB.val, Num.eta, Iv.eta] at *)
  all_goals (try refine Iv.fin (t := ⟨_, ⟨_, _, _, _⟩, ⟨_, _, _, _⟩⟩) ?_)
  all_goals (first | change t = _ | change a = _)
  all_goals (subst_vars; try simp only [show ({ kind := 0, neg := false, m := 0, e := 0 } : Num) = Num.zero from rfl] at *)
  all_goals (unfold Iv.abs; first
    | rw [if_pos ‹_›]
    | (rw [if_neg (by simp_all)]; first | rw [if_pos (by omega)] | (rw [if_neg (by omega)]; first | rw [if_pos (by omega)] | rw [if_neg (by omega)])))

theorem c_opSqr (a : Iv) (h1 : a.lo.ok) (h2 : a.hi.ok) : ∃ t : Iv, t = Iv.sqr a ∧ CallsA Try.prog 21 [a.av] (t.av) := by
  refine ⟨_, rfl, ?_⟩
  generalize hr : Iv.sqr a = r
  refine callsA_of hG hm Try.func21 (by kernel_rfl) ?_
  intro E hE lp hl
  cbv
  repeat' (first
    | (refine E_br hE (fun h => ?_) (fun h => ?_) <;> cbv)
    | (refine E_nm hE (fun v hv => ?_); cbv)
    | (apply E_callX hE (c_opAbs ⟨_, ⟨_, _, _, _⟩, ⟨_, _, _, _⟩⟩); (case hf => rfl); (case hc => (cbv <;> trivial)); (case hle => (repeat' (first | exact u_nil | apply u_cons | apply u2_agg | exact u2_int | exact u1_int | exact u2_bool | exact u1_bool | exact u2_sli | exact u1_sli | exact u2_s0 | exact u1_s0))); intro t ht; cbv)
    | (apply E_pcallX hE (c_opAbs ⟨_, ⟨_, _, _, _⟩, ⟨_, _, _, _⟩⟩); (case hm => rfl); (case hle => (repeat' (first | exact u_nil | apply u_cons | apply u2_agg | exact u2_int | exact u1_int | exact u2_bool | exact u1_bool | exact u2_sli | exact u1_sli | exact u2_s0 | exact u1_s0))); intro t ht; cbv)
    | (apply E_callX hE (c_arMul ⟨_, _, _, _⟩ ⟨_, _, _, _⟩ _ ?_ ?_); (case hf => rfl); (case hc => (cbv <;> trivial)); (case hle => (repeat' (first | exact u_nil | apply u_cons | apply u2_agg | exact u2_int | exact u1_int | exact u2_bool | exact u1_bool | exact u2_sli | exact u1_sli | exact u2_s0 | exact u1_s0))); all_goals (first | (intro t ht; cbv) | (subst hE; (try simp only [realE, cmp_eql, cmp_neq, cmp_lss, cmp_leq, cmp_gtr, cmp_geq, intBinR, decide_eq_true_eq, decide_eq_false_iff_not, SI.val, SB.val, Num.eta, Iv.eta] at *); (subst_vars; first | exact (Iv.abs_ok h1 h2).1 | exact (Iv.abs_ok h1 h2).2))))
    | (apply E_pcallX hE (c_arMul ⟨_, _, _, _⟩ ⟨_, _, _, _⟩ _ ?_ ?_); (case hm => rfl); (case hle => (repeat' (first | exact u_nil | apply u_cons | apply u2_agg | exact u2_int | exact u1_int | exact u2_bool | exact u1_bool | exact u2_sli | exact u1_sli | exact u2_s0 | exact u1_s0))); all_goals (first | (intro t ht; cbv) | (subst hE; (try simp only [realE, cmp_eql, cmp_neq, cmp_lss, cmp_leq, cmp_gtr, cmp_geq, intBinR, decide_eq_true_eq, decide_eq_false_iff_not, SI.val, SB.val, Num.eta, Iv.eta] at *); (subst_vars; first | exact (Iv.abs_ok h1 h2).1 | exact (Iv.abs_ok h1 h2).2))))
    | (apply E_callX hE (c_ivMake ⟨_, _, _, _⟩ ⟨_, _, _, _⟩); (case hf => rfl); (case hc => (cbv <;> trivial)); (case hle => (repeat' (first | exact u_nil | apply u_cons | apply u2_agg | exact u2_int | exact u1_int | exact u2_bool | exact u1_bool | exact u2_sli | exact u1_sli | exact u2_s0 | exact u1_s0))); intro t ht; cbv)
    | (apply E_pcallX hE (c_ivMake ⟨_, _, _, _⟩ ⟨_, _, _, _⟩); (case hm => rfl); (case hle => (repeat' (first | exact u_nil | apply u_cons | apply u2_agg | exact u2_int | exact u1_int | exact u2_bool | exact u1_bool | exact u2_sli | exact u1_sli | exact u2_s0 | exact u1_s0))); intro t ht; cbv)
    | fail)
  all_goals (subst hE; subst hr)
  all_goals (try simp only [realE, cmp_eql, cmp_neq, cmp_lss, cmp_leq, cmp_gtr, cmp_geq, intBinR, decide_eq_true_eq, decide_eq_false_iff_not, SI.val, SB.val, Num.eta, Iv.eta] at *)
  all_goals (try refine Iv.fin (t := ⟨_, ⟨_, _, _, _⟩, ⟨_, _, _, _⟩⟩) ?_)
  all_goals (change t = _; subst_vars; unfold Iv.sqr; simp_all)

theorem c_ivOf (a : Int) (b : Int) (h0 : -9223372036854775808 ≤ a) (h1 : a < 9223372036854775808) (h2 : -9223372036854775808 ≤ b) (h3 : b < 9223372036854775808) : ∃ t : Iv, t = Iv.ofInts a b ∧ CallsA Try.prog 17 [.int .i64 (.s a), .int .i64 (.s b)] (t.av) := by
  refine ⟨_, rfl, ?_⟩
  generalize hr : Iv.ofInts a b = r
  refine callsA_of hG hm Try.func17 (by kernel_rfl) ?_
  intro E hE lp hl
  cbv
  repeat' (first
    | (refine E_br hE (fun h => ?_) (fun h => ?_) <;> cbv)
    | (refine E_nm hE (fun v hv => ?_); cbv)
    | (apply E_callX hE (c_Of _ ?_ ?_); (case hf => rfl); (case hc => (cbv <;> trivial)); (case hle => (repeat' (first | exact u_nil | apply u_cons | apply u2_agg | exact u2_int | exact u1_int | exact u2_bool | exact u1_bool | exact u2_sli | exact u1_sli | exact u2_s0 | exact u1_s0))); all_goals (first | (intro t ht; cbv) | (subst hE; (try simp only [realE, cmp_eql, cmp_neq, cmp_lss, cmp_leq, cmp_gtr, cmp_geq, intBinR, decide_eq_true_eq, decide_eq_false_iff_not, SI.val, SB.val, Num.eta, Iv.eta] at *); first | assumption | omega)))
    | (apply E_pcallX hE (c_Of _ ?_ ?_); (case hm => rfl); (case hle => (repeat' (first | exact u_nil | apply u_cons | apply u2_agg | exact u2_int | exact u1_int | exact u2_bool | exact u1_bool | exact u2_sli | exact u1_sli | exact u2_s0 | exact u1_s0))); all_goals (first | (intro t ht; cbv) | (subst hE; (try simp only [realE, cmp_eql, cmp_neq, cmp_lss, cmp_leq, cmp_gtr, cmp_geq, intBinR, decide_eq_true_eq, decide_eq_false_iff_not, SI.val, SB.val, Num.eta, Iv.eta] at *); first | assumption | omega)))
    | (apply E_callX hE (c_ivMake ⟨_, _, _, _⟩ ⟨_, _, _, _⟩); (case hf => rfl); (case hc => (cbv <;> trivial)); (case hle => (repeat' (first | exact u_nil | apply u_cons | apply u2_agg | exact u2_int | exact u1_int | exact u2_bool | exact u1_bool | exact u2_sli | exact u1_sli | exact u2_s0 | exact u1_s0))); intro t ht; cbv)
    | (apply E_pcallX hE (c_ivMake ⟨_, _, _, _⟩ ⟨_, _, _, _⟩); (case hm => rfl); (case hle => (repeat' (first | exact u_nil | apply u_cons | apply u2_agg | exact u2_int | exact u1_int | exact u2_bool | exact u1_bool | exact u2_sli | exact u1_sli | exact u2_s0 | exact u1_s0))); intro t ht; cbv)
    | fail)
  all_goals (subst hE; subst hr)
  all_goals (try simp only [realE, cmp_eql, cmp_neq, cmp_lss, cmp_leq, cmp_gtr, cmp_geq, intBinR, decide_eq_true_eq, decide_eq_false_iff_not, SI.val, SB.val, Num.eta, Iv.eta] at *)
  all_goals (try refine Iv.fin (t := ⟨_, ⟨_, _, _, _⟩, ⟨_, _, _, _⟩⟩) ?_)
  all_goals (subst_vars; rfl)

end Go.Proofs.Ytoghalnnmhpfmaa.Ev

/- Contracts: the chapter's examples. Printed by gen.py out of C12a.spec. -/
namespace Go.Proofs.Ytoghalnnmhpfmaa.Ev
open Go Go.Proofs
set_option linter.unusedVariables false
set_option linter.unusedSimpArgs false

set_option maxHeartbeats 4000000 in
theorem c_awake   : ∃ t : Bool, t = true ∧ CallsA Try.prog 5 [] (.bool (.s t)) := by
  refine ⟨_, rfl, ?_⟩
  generalize hr : true = r
  refine callsA_of hG hm Try.func5 (by kernel_rfl) ?_
  intro E hE lp hl
  cbv
  repeat' (first
    | (apply E_br_t hE; assumption; cbv)
    | (apply E_br_f hE; assumption; cbv)
    | (refine E_br hE (fun h => ?_) (fun h => ?_) <;> cbv)
    | (refine E_nm hE (fun v hv => ?_); cbv)
    | (apply E_callX hE (c_ivOf _ _ ?_ ?_ ?_ ?_); (case hf => rfl); (case hc => (cbv <;> trivial)); (case hle => (repeat' (first | exact u_nil | apply u_cons | apply u2_agg | exact u2_int | exact u1_int | exact u2_bool | exact u1_bool | exact u2_sli | exact u1_sli | exact u2_s0 | exact u1_s0))); all_goals (first | (intro t ht; cbv) | (subst hE; (try simp only [realE, cmp_eql, cmp_neq, cmp_lss, cmp_leq, cmp_gtr, cmp_geq, intBinR, decide_eq_true_eq, decide_eq_false_iff_not, SI.val, SB.val, Num.eta, Iv.eta] at *); (subst_vars; first | exact (Iv.ofInts_ok (-1) 2).1 | exact (Iv.ofInts_ok (-1) 2).2 | exact (Iv.ofInts_ok (3) 4).1 | exact (Iv.ofInts_ok (3) 4).2 | exact (Iv.ofInts_ok (1) 2).1 | exact (Iv.ofInts_ok (1) 2).2 | exact (Iv.ofInts_ok (0) 4).1 | exact (Iv.ofInts_ok (0) 4).2 | decide))))
    | (apply E_pcallX hE (c_ivOf _ _ ?_ ?_ ?_ ?_); (case hm => rfl); (case hle => (repeat' (first | exact u_nil | apply u_cons | apply u2_agg | exact u2_int | exact u1_int | exact u2_bool | exact u1_bool | exact u2_sli | exact u1_sli | exact u2_s0 | exact u1_s0))); all_goals (first | (intro t ht; cbv) | (subst hE; (try simp only [realE, cmp_eql, cmp_neq, cmp_lss, cmp_leq, cmp_gtr, cmp_geq, intBinR, decide_eq_true_eq, decide_eq_false_iff_not, SI.val, SB.val, Num.eta, Iv.eta] at *); (subst_vars; first | exact (Iv.ofInts_ok (-1) 2).1 | exact (Iv.ofInts_ok (-1) 2).2 | exact (Iv.ofInts_ok (3) 4).1 | exact (Iv.ofInts_ok (3) 4).2 | exact (Iv.ofInts_ok (1) 2).1 | exact (Iv.ofInts_ok (1) 2).2 | exact (Iv.ofInts_ok (0) 4).1 | exact (Iv.ofInts_ok (0) 4).2 | decide))))
    | (apply E_callX hE (c_opMul ⟨_, ⟨_, _, _, _⟩, ⟨_, _, _, _⟩⟩ ⟨_, ⟨_, _, _, _⟩, ⟨_, _, _, _⟩⟩ ?_ ?_ ?_ ?_); (case hf => rfl); (case hc => (cbv <;> trivial)); (case hle => (repeat' (first | exact u_nil | apply u_cons | apply u2_agg | exact u2_int | exact u1_int | exact u2_bool | exact u1_bool | exact u2_sli | exact u1_sli | exact u2_s0 | exact u1_s0))); all_goals (first | (intro t ht; cbv) | (subst hE; (try simp only [realE, cmp_eql, cmp_neq, cmp_lss, cmp_leq, cmp_gtr, cmp_geq, intBinR, decide_eq_true_eq, decide_eq_false_iff_not, SI.val, SB.val, Num.eta, Iv.eta] at *); (subst_vars; first | exact (Iv.ofInts_ok (-1) 2).1 | exact (Iv.ofInts_ok (-1) 2).2 | exact (Iv.ofInts_ok (3) 4).1 | exact (Iv.ofInts_ok (3) 4).2 | exact (Iv.ofInts_ok (1) 2).1 | exact (Iv.ofInts_ok (1) 2).2 | exact (Iv.ofInts_ok (0) 4).1 | exact (Iv.ofInts_ok (0) 4).2 | decide))))
    | (apply E_pcallX hE (c_opMul ⟨_, ⟨_, _, _, _⟩, ⟨_, _, _, _⟩⟩ ⟨_, ⟨_, _, _, _⟩, ⟨_, _, _, _⟩⟩ ?_ ?_ ?_ ?_); (case hm => rfl); (case hle => (repeat' (first | exact u_nil | apply u_cons | apply u2_agg | exact u2_int | exact u1_int | exact u2_bool | exact u1_bool | exact u2_sli | exact u1_sli | exact u2_s0 | exact u1_s0))); all_goals (first | (intro t ht; cbv) | (subst hE; (try simp only [realE, cmp_eql, cmp_neq, cmp_lss, cmp_leq, cmp_gtr, cmp_geq, intBinR, decide_eq_true_eq, decide_eq_false_iff_not, SI.val, SB.val, Num.eta, Iv.eta] at *); (subst_vars; first | exact (Iv.ofInts_ok (-1) 2).1 | exact (Iv.ofInts_ok (-1) 2).2 | exact (Iv.ofInts_ok (3) 4).1 | exact (Iv.ofInts_ok (3) 4).2 | exact (Iv.ofInts_ok (1) 2).1 | exact (Iv.ofInts_ok (1) 2).2 | exact (Iv.ofInts_ok (0) 4).1 | exact (Iv.ofInts_ok (0) 4).2 | decide))))
    | (apply E_callX hE (c_opDiv ⟨_, ⟨_, _, _, _⟩, ⟨_, _, _, _⟩⟩ ⟨_, ⟨_, _, _, _⟩, ⟨_, _, _, _⟩⟩ ?_ ?_ ?_ ?_); (case hf => rfl); (case hc => (cbv <;> trivial)); (case hle => (repeat' (first | exact u_nil | apply u_cons | apply u2_agg | exact u2_int | exact u1_int | exact u2_bool | exact u1_bool | exact u2_sli | exact u1_sli | exact u2_s0 | exact u1_s0))); all_goals (first | (intro t ht; cbv) | (subst hE; (try simp only [realE, cmp_eql, cmp_neq, cmp_lss, cmp_leq, cmp_gtr, cmp_geq, intBinR, decide_eq_true_eq, decide_eq_false_iff_not, SI.val, SB.val, Num.eta, Iv.eta] at *); (subst_vars; first | exact (Iv.ofInts_ok (-1) 2).1 | exact (Iv.ofInts_ok (-1) 2).2 | exact (Iv.ofInts_ok (3) 4).1 | exact (Iv.ofInts_ok (3) 4).2 | exact (Iv.ofInts_ok (1) 2).1 | exact (Iv.ofInts_ok (1) 2).2 | exact (Iv.ofInts_ok (0) 4).1 | exact (Iv.ofInts_ok (0) 4).2 | decide))))
    | (apply E_pcallX hE (c_opDiv ⟨_, ⟨_, _, _, _⟩, ⟨_, _, _, _⟩⟩ ⟨_, ⟨_, _, _, _⟩, ⟨_, _, _, _⟩⟩ ?_ ?_ ?_ ?_); (case hm => rfl); (case hle => (repeat' (first | exact u_nil | apply u_cons | apply u2_agg | exact u2_int | exact u1_int | exact u2_bool | exact u1_bool | exact u2_sli | exact u1_sli | exact u2_s0 | exact u1_s0))); all_goals (first | (intro t ht; cbv) | (subst hE; (try simp only [realE, cmp_eql, cmp_neq, cmp_lss, cmp_leq, cmp_gtr, cmp_geq, intBinR, decide_eq_true_eq, decide_eq_false_iff_not, SI.val, SB.val, Num.eta, Iv.eta] at *); (subst_vars; first | exact (Iv.ofInts_ok (-1) 2).1 | exact (Iv.ofInts_ok (-1) 2).2 | exact (Iv.ofInts_ok (3) 4).1 | exact (Iv.ofInts_ok (3) 4).2 | exact (Iv.ofInts_ok (1) 2).1 | exact (Iv.ofInts_ok (1) 2).2 | exact (Iv.ofInts_ok (0) 4).1 | exact (Iv.ofInts_ok (0) 4).2 | decide))))
    | (apply E_callX hE (c_Inf _); (case hf => rfl); (case hc => (cbv <;> trivial)); (case hle => (repeat' (first | exact u_nil | apply u_cons | apply u2_agg | exact u2_int | exact u1_int | exact u2_bool | exact u1_bool | exact u2_sli | exact u1_sli | exact u2_s0 | exact u1_s0))); intro t ht; cbv)
    | (apply E_pcallX hE (c_Inf _); (case hm => rfl); (case hle => (repeat' (first | exact u_nil | apply u_cons | apply u2_agg | exact u2_int | exact u1_int | exact u2_bool | exact u1_bool | exact u2_sli | exact u1_sli | exact u2_s0 | exact u1_s0))); intro t ht; cbv)
    | (apply E_callX hE (c_Cmp ⟨_, _, _, _⟩ ⟨_, _, _, _⟩); (case hf => rfl); (case hc => (cbv <;> trivial)); (case hle => (repeat' (first | exact u_nil | apply u_cons | apply u2_agg | exact u2_int | exact u1_int | exact u2_bool | exact u1_bool | exact u2_sli | exact u1_sli | exact u2_s0 | exact u1_s0))); intro t ht; cbv)
    | (apply E_pcallX hE (c_Cmp ⟨_, _, _, _⟩ ⟨_, _, _, _⟩); (case hm => rfl); (case hle => (repeat' (first | exact u_nil | apply u_cons | apply u2_agg | exact u2_int | exact u1_int | exact u2_bool | exact u1_bool | exact u2_sli | exact u1_sli | exact u2_s0 | exact u1_s0))); intro t ht; cbv)
    | (apply E_callX hE (c_Of _ ?_ ?_); (case hf => rfl); (case hc => (cbv <;> trivial)); (case hle => (repeat' (first | exact u_nil | apply u_cons | apply u2_agg | exact u2_int | exact u1_int | exact u2_bool | exact u1_bool | exact u2_sli | exact u1_sli | exact u2_s0 | exact u1_s0))); all_goals (first | (intro t ht; cbv) | (subst hE; (try simp only [realE, cmp_eql, cmp_neq, cmp_lss, cmp_leq, cmp_gtr, cmp_geq, intBinR, decide_eq_true_eq, decide_eq_false_iff_not, SI.val, SB.val, Num.eta, Iv.eta] at *); (subst_vars; first | exact (Iv.ofInts_ok (-1) 2).1 | exact (Iv.ofInts_ok (-1) 2).2 | exact (Iv.ofInts_ok (3) 4).1 | exact (Iv.ofInts_ok (3) 4).2 | exact (Iv.ofInts_ok (1) 2).1 | exact (Iv.ofInts_ok (1) 2).2 | exact (Iv.ofInts_ok (0) 4).1 | exact (Iv.ofInts_ok (0) 4).2 | decide))))
    | (apply E_pcallX hE (c_Of _ ?_ ?_); (case hm => rfl); (case hle => (repeat' (first | exact u_nil | apply u_cons | apply u2_agg | exact u2_int | exact u1_int | exact u2_bool | exact u1_bool | exact u2_sli | exact u1_sli | exact u2_s0 | exact u1_s0))); all_goals (first | (intro t ht; cbv) | (subst hE; (try simp only [realE, cmp_eql, cmp_neq, cmp_lss, cmp_leq, cmp_gtr, cmp_geq, intBinR, decide_eq_true_eq, decide_eq_false_iff_not, SI.val, SB.val, Num.eta, Iv.eta] at *); (subst_vars; first | exact (Iv.ofInts_ok (-1) 2).1 | exact (Iv.ofInts_ok (-1) 2).2 | exact (Iv.ofInts_ok (3) 4).1 | exact (Iv.ofInts_ok (3) 4).2 | exact (Iv.ofInts_ok (1) 2).1 | exact (Iv.ofInts_ok (1) 2).2 | exact (Iv.ofInts_ok (0) 4).1 | exact (Iv.ofInts_ok (0) 4).2 | decide))))
    | (apply E_callX hE (c_opSqr ⟨_, ⟨_, _, _, _⟩, ⟨_, _, _, _⟩⟩ ?_ ?_); (case hf => rfl); (case hc => (cbv <;> trivial)); (case hle => (repeat' (first | exact u_nil | apply u_cons | apply u2_agg | exact u2_int | exact u1_int | exact u2_bool | exact u1_bool | exact u2_sli | exact u1_sli | exact u2_s0 | exact u1_s0))); all_goals (first | (intro t ht; cbv) | (subst hE; (try simp only [realE, cmp_eql, cmp_neq, cmp_lss, cmp_leq, cmp_gtr, cmp_geq, intBinR, decide_eq_true_eq, decide_eq_false_iff_not, SI.val, SB.val, Num.eta, Iv.eta] at *); (subst_vars; first | exact (Iv.ofInts_ok (-1) 2).1 | exact (Iv.ofInts_ok (-1) 2).2 | exact (Iv.ofInts_ok (3) 4).1 | exact (Iv.ofInts_ok (3) 4).2 | exact (Iv.ofInts_ok (1) 2).1 | exact (Iv.ofInts_ok (1) 2).2 | exact (Iv.ofInts_ok (0) 4).1 | exact (Iv.ofInts_ok (0) 4).2 | decide))))
    | (apply E_pcallX hE (c_opSqr ⟨_, ⟨_, _, _, _⟩, ⟨_, _, _, _⟩⟩ ?_ ?_); (case hm => rfl); (case hle => (repeat' (first | exact u_nil | apply u_cons | apply u2_agg | exact u2_int | exact u1_int | exact u2_bool | exact u1_bool | exact u2_sli | exact u1_sli | exact u2_s0 | exact u1_s0))); all_goals (first | (intro t ht; cbv) | (subst hE; (try simp only [realE, cmp_eql, cmp_neq, cmp_lss, cmp_leq, cmp_gtr, cmp_geq, intBinR, decide_eq_true_eq, decide_eq_false_iff_not, SI.val, SB.val, Num.eta, Iv.eta] at *); (subst_vars; first | exact (Iv.ofInts_ok (-1) 2).1 | exact (Iv.ofInts_ok (-1) 2).2 | exact (Iv.ofInts_ok (3) 4).1 | exact (Iv.ofInts_ok (3) 4).2 | exact (Iv.ofInts_ok (1) 2).1 | exact (Iv.ofInts_ok (1) 2).2 | exact (Iv.ofInts_ok (0) 4).1 | exact (Iv.ofInts_ok (0) 4).2 | decide))))
    | fail)
  all_goals (subst hE; subst hr)
  all_goals (try simp only [realE, cmp_eql, cmp_neq, cmp_lss, cmp_leq, cmp_gtr, cmp_geq, intBinR, decide_eq_true_eq, decide_eq_false_iff_not, SI.val, SB.val, Num.eta, Iv.eta] at *)
  all_goals (subst_vars; try simp only [aw1, aw3, aw5] at *)
  all_goals (simp_all [aw2, aw4, aw6, Num.inf])

end Go.Proofs.Ytoghalnnmhpfmaa.Ev

/- Contracts: the law of products. Printed by gen.py. -/
namespace Go.Proofs.Ytoghalnnmhpfmaa.Ev
open Go Go.Proofs
set_option linter.unusedVariables false
set_option linter.unusedSimpArgs false

theorem c_Products (a b : Iv) (a1 : a.lo.ok) (a2 : a.hi.ok) (b1 : b.lo.ok) (b2 : b.hi.ok) : ∃ t : Bool, t = true ∧ CallsA Try.prog 3 [a.av, b.av] (.bool (.s t)) := by
  refine ⟨_, rfl, ?_⟩
  refine callsA_of hG hm Try.func3 (by kernel_rfl) ?_
  intro E hE lp hl'
  cbv
  (first | (apply E_pcallX hE (c_awake); (case hm => rfl); (case hle => (repeat' (first | exact u_nil | apply u_cons | apply u2_agg | exact u2_int | exact u1_int | exact u2_bool | exact u1_bool | exact u2_sli | exact u1_sli | exact u2_s0 | exact u1_s0))); all_goals (first | (intro u hu; cbv) | (assumption))) | (apply E_callX hE (c_awake); (case hf => rfl); (case hc => (cbv <;> trivial)); (case hle => (repeat' (first | exact u_nil | apply u_cons | apply u2_agg | exact u2_int | exact u1_int | exact u2_bool | exact u1_bool | exact u2_sli | exact u1_sli | exact u2_s0 | exact u1_s0))); all_goals (first | (intro u hu; cbv) | (assumption))))
  refine E_br_t hE hu ?_
  cbv
  (first | (apply E_pcallX hE (c_opMul ⟨_, ⟨_, _, _, _⟩, ⟨_, _, _, _⟩⟩ ⟨_, ⟨_, _, _, _⟩, ⟨_, _, _, _⟩⟩ ?_ ?_ ?_ ?_); (case hm => rfl); (case hle => (repeat' (first | exact u_nil | apply u_cons | apply u2_agg | exact u2_int | exact u1_int | exact u2_bool | exact u1_bool | exact u2_sli | exact u1_sli | exact u2_s0 | exact u1_s0))); all_goals (first | (intro m hm_; cbv) | (first | exact a1 | exact a2 | exact b1 | exact b2))) | (apply E_callX hE (c_opMul ⟨_, ⟨_, _, _, _⟩, ⟨_, _, _, _⟩⟩ ⟨_, ⟨_, _, _, _⟩, ⟨_, _, _, _⟩⟩ ?_ ?_ ?_ ?_); (case hf => rfl); (case hc => (cbv <;> trivial)); (case hle => (repeat' (first | exact u_nil | apply u_cons | apply u2_agg | exact u2_int | exact u1_int | exact u2_bool | exact u1_bool | exact u2_sli | exact u1_sli | exact u2_s0 | exact u1_s0))); all_goals (first | (intro m hm_; cbv) | (first | exact a1 | exact a2 | exact b1 | exact b2))))
  (first | (apply E_pcallX hE (c_r9Mul ⟨_, ⟨_, _, _, _⟩, ⟨_, _, _, _⟩⟩ ⟨_, ⟨_, _, _, _⟩, ⟨_, _, _, _⟩⟩ ?_ ?_ ?_ ?_); (case hm => rfl); (case hle => (repeat' (first | exact u_nil | apply u_cons | apply u2_agg | exact u2_int | exact u1_int | exact u2_bool | exact u1_bool | exact u2_sli | exact u1_sli | exact u2_s0 | exact u1_s0))); all_goals (first | (intro n hn; cbv) | (first | exact a1 | exact a2 | exact b1 | exact b2))) | (apply E_callX hE (c_r9Mul ⟨_, ⟨_, _, _, _⟩, ⟨_, _, _, _⟩⟩ ⟨_, ⟨_, _, _, _⟩, ⟨_, _, _, _⟩⟩ ?_ ?_ ?_ ?_); (case hf => rfl); (case hc => (cbv <;> trivial)); (case hle => (repeat' (first | exact u_nil | apply u_cons | apply u2_agg | exact u2_int | exact u1_int | exact u2_bool | exact u1_bool | exact u2_sli | exact u1_sli | exact u2_s0 | exact u1_s0))); all_goals (first | (intro n hn; cbv) | (first | exact a1 | exact a2 | exact b1 | exact b2))))
  refine E_br_t hE ((ivEq_of hE m n).trans (decide_eq_true (hm_.trans hn.symm))) ?_
  cbv
  clear hm_ hn
  (first | (apply E_pcallX hE (c_opDiv ⟨_, ⟨_, _, _, _⟩, ⟨_, _, _, _⟩⟩ ⟨_, ⟨_, _, _, _⟩, ⟨_, _, _, _⟩⟩ ?_ ?_ ?_ ?_); (case hm => rfl); (case hle => (repeat' (first | exact u_nil | apply u_cons | apply u2_agg | exact u2_int | exact u1_int | exact u2_bool | exact u1_bool | exact u2_sli | exact u1_sli | exact u2_s0 | exact u1_s0))); all_goals (first | (intro p hp; cbv) | (first | exact a1 | exact a2 | exact b1 | exact b2))) | (apply E_callX hE (c_opDiv ⟨_, ⟨_, _, _, _⟩, ⟨_, _, _, _⟩⟩ ⟨_, ⟨_, _, _, _⟩, ⟨_, _, _, _⟩⟩ ?_ ?_ ?_ ?_); (case hf => rfl); (case hc => (cbv <;> trivial)); (case hle => (repeat' (first | exact u_nil | apply u_cons | apply u2_agg | exact u2_int | exact u1_int | exact u2_bool | exact u1_bool | exact u2_sli | exact u1_sli | exact u2_s0 | exact u1_s0))); all_goals (first | (intro p hp; cbv) | (first | exact a1 | exact a2 | exact b1 | exact b2))))
  (first | (apply E_pcallX hE (c_r9Div ⟨_, ⟨_, _, _, _⟩, ⟨_, _, _, _⟩⟩ ⟨_, ⟨_, _, _, _⟩, ⟨_, _, _, _⟩⟩ ?_ ?_ ?_ ?_); (case hm => rfl); (case hle => (repeat' (first | exact u_nil | apply u_cons | apply u2_agg | exact u2_int | exact u1_int | exact u2_bool | exact u1_bool | exact u2_sli | exact u1_sli | exact u2_s0 | exact u1_s0))); all_goals (first | (intro q hq; cbv) | (first | exact a1 | exact a2 | exact b1 | exact b2))) | (apply E_callX hE (c_r9Div ⟨_, ⟨_, _, _, _⟩, ⟨_, _, _, _⟩⟩ ⟨_, ⟨_, _, _, _⟩, ⟨_, _, _, _⟩⟩ ?_ ?_ ?_ ?_); (case hf => rfl); (case hc => (cbv <;> trivial)); (case hle => (repeat' (first | exact u_nil | apply u_cons | apply u2_agg | exact u2_int | exact u1_int | exact u2_bool | exact u1_bool | exact u2_sli | exact u1_sli | exact u2_s0 | exact u1_s0))); all_goals (first | (intro q hq; cbv) | (first | exact a1 | exact a2 | exact b1 | exact b2))))
  exact (ivEq_of hE p q).trans (decide_eq_true (hp.trans hq.symm))

end Go.Proofs.Ytoghalnnmhpfmaa.Ev
