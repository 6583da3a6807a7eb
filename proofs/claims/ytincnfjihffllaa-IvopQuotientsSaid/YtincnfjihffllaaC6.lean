/- Contracts: the operations on intervals. -/
import Derived.Test.YtincnfjihffllaaC5
import Derived.Test.YtincnfjihffllaaPu6
namespace Go.Proofs.Ytincnfjihffllaa.Ev
open Go Go.Proofs
set_option linter.unusedVariables false
theorem c_none (l : List Iv) (n : Int) (hn : n = l.length) (hb : n < 9223372036854775808) : ∃ t, t = Iv.anyBad l ∧ CallsA Try.prog 104 [.slc 9 (.s n) (fun i => Iv.cells (l.getD i Iv.none))] (.bool (.s t)) := by
  refine ⟨_, rfl, ?_⟩
  generalize hr : Iv.anyBad l = r
  obtain ⟨z, hz⟩ : ∃ z, z = Iv.none := ⟨_, rfl⟩
  rw [← hz]
  refine callsA_of hG hm Try.func104 (by kernel_rfl) ?_
  intro E hE lp hl
  cbv
  refine E_loopW hE hG hm hl (ι := Int) (fun i => ⟨[(7, .int .i64 (.s i)), (6, .int .i64 (.s n)), (5, .slc 9 (.s n) (fun i => Iv.cells (l.getD i z))), (2, .bool (.l false))], []⟩)
    (fun i => (n - i).toNat) (fun i => 0 ≤ i ∧ i ≤ n ∧ Iv.badTo l i = false) (fun p => rfl) ⟨0, ⟨Int.le_refl 0, (by show (0 : Int) ≤ n; rw [hn]; exact Int.natCast_nonneg _), rfl⟩, stLe rfl ?_⟩ ?_
  · repeat' (first | exact t_nil | apply t_cons | exact u2_int | exact u2_ptr | exact u2_slc' | exact (rfl : sle2 (.bool (.l false)) (.bool (.l false))))
  rintro i ⟨h1, h2, h3⟩
  cbv
  repeat' (first
    | (refine E_br hE (fun h => ?_) (fun h => ?_) <;> cbv)
    | (refine E_nm hE (fun v hv => ?_); cbv)
    | (refine E_row hE (cell := Iv.cells) (fun t ht => ?_); cbv)
    | (apply E_callX hE (c_ivMay ⟨_, ⟨_, _, _, _⟩, ⟨_, _, _, _⟩⟩); (case hf => rfl); (case hc => (cbv <;> trivial)); (case hle => (repeat' (first | exact u_nil | apply u_cons | apply u2_agg | exact u2_int | exact u1_int | exact u2_bool | exact u1_bool | exact u2_sli | exact u1_sli | exact u2_s0 | exact u1_s0))); intro t ht; cbv)
    | fail)
  all_goals (try refine ⟨E.bin .add .i64 i 1, ?_, ⟨?_, ?_, ?_⟩, stLeW rfl trivial ?_⟩)
  all_goals (try (refine w_cons ?_ rfl ?_; (repeat' (first | exact w_nil | refine w_cons ?_ rfl ?_ | exact u2_int | exact u2_ptr | exact u2_slc' | exact (rfl : sle2 (.bool (.l false)) (.bool (.l false))))); done))
  all_goals (subst hE; simp only [realE, cmp_lss, cmp_leq, intBinR, decide_eq_true_eq, decide_eq_false_iff_not, SI.val, SB.val, Num.eta, Iv.eta] at *)
  all_goals (try rw [wi64_succ h1 ‹i < n› hb])
  all_goals (try omega)
  all_goals (replace hn : n = (l.length : Int) := hn)
  all_goals subst hz
  case refine_2.refine_2 =>
    have hi : i = (l.length : Int) := by omega
    rw [← hr, ← Iv.badTo_all, ← hi, h3]
  all_goals first
    | (rw [← hr]; refine (Iv.anyBad_at l h1 (by omega) ?_).symm; rw [← ‹_ = l.getD i.toNat Iv.none›]; unfold Iv.bad; simp_all; done)
    | (rw [Iv.badTo_succ l h1 (by omega), h3, ← ‹_ = l.getD i.toNat Iv.none›]; unfold Iv.bad; simp_all; done)

theorem slc4 {a b c d : Num} {z : Num} : sle2 (.slc 4 (.l 4) (fun i => getRow [a.cells, b.cells, c.cells, d.cells] (Int.ofNat i))) (.slc 4 (.s 4) (fun i => Num.cells ([a, b, c, d].getD i z))) := by
  have r : ∀ {x : Num}, sleL sle0 x.cells x.cells := ⟨⟨rfl, rfl⟩, rfl, ⟨rfl, rfl⟩, ⟨rfl, rfl⟩, trivial⟩
  refine ⟨rfl, rfl, fun i hi => ?_⟩
  match i, hi with
  | 0, _ => exact r
  | 1, _ => exact r
  | 2, _ => exact r
  | 3, _ => exact r
  | i + 4, hi => exact absurd hi (by simp [SI.val])
theorem c_corners (a b : Iv) (f : FuncId) (F : Num → Num → Bool → Num) (ok : Num → Prop) (hF : ∀ x y up, ok x → ok y → ∃ t, t = F x y up ∧ CallsA Try.prog f [x.av, y.av, .bool (.s up)] t.av)
    (h1 : ok a.lo) (h2 : ok a.hi) (h3 : ok b.lo) (h4 : ok b.hi) :
    ∃ t, t = Iv.make (Num.least [F a.lo b.lo false, F a.lo b.hi false, F a.hi b.lo false, F a.hi b.hi false]) (Num.most [F a.lo b.lo true, F a.lo b.hi true, F a.hi b.lo true, F a.hi b.hi true]) ∧
      CallsA Try.prog 105 [a.av, b.av, .fn f []] t.av := by
  refine ⟨_, rfl, ?_⟩
  generalize hr : Iv.make (Num.least [F a.lo b.lo false, F a.lo b.hi false, F a.hi b.lo false, F a.hi b.hi false]) (Num.most [F a.lo b.lo true, F a.lo b.hi true, F a.hi b.lo true, F a.hi b.hi true]) = r
  refine callsA_of hG hm Try.func105 (by kernel_rfl) ?_
  intro E hE lp hl
  cbv
  refine E_in hE hG hm Try.func166 (by kernel_rfl) (fun lp2 hl2 => ?_)
  cbv
  (apply E_pcallX hE (hF a.lo b.lo false h1 h3); (case hm => rfl); (case hle => (repeat' (first | exact u_nil | apply u_cons | apply u2_agg | exact u2_int | exact u1_int | exact u2_bool | exact u1_bool | exact u2_sli | exact u1_sli | exact u2_s0 | exact u1_s0))); intro s1 es1; cbv)
  (apply E_pcallX hE (hF a.lo b.hi false h1 h4); (case hm => rfl); (case hle => (repeat' (first | exact u_nil | apply u_cons | apply u2_agg | exact u2_int | exact u1_int | exact u2_bool | exact u1_bool | exact u2_sli | exact u1_sli | exact u2_s0 | exact u1_s0))); intro s2 es2; cbv)
  (apply E_pcallX hE (hF a.hi b.lo false h2 h3); (case hm => rfl); (case hle => (repeat' (first | exact u_nil | apply u_cons | apply u2_agg | exact u2_int | exact u1_int | exact u2_bool | exact u1_bool | exact u2_sli | exact u1_sli | exact u2_s0 | exact u1_s0))); intro s3 es3; cbv)
  (apply E_pcallX hE (hF a.hi b.hi false h2 h4); (case hm => rfl); (case hle => (repeat' (first | exact u_nil | apply u_cons | apply u2_agg | exact u2_int | exact u1_int | exact u2_bool | exact u1_bool | exact u2_sli | exact u1_sli | exact u2_s0 | exact u1_s0))); intro s4 es4; cbv)
  (apply E_callX hE (c_Least [s1, s2, s3, s4] 4 rfl (by decide)); (case hf => rfl); (case hc => (cbv <;> trivial)); (case hle => exact ⟨slc4, trivial⟩); intro lo elo; cbv)
  refine E_in hE hG hm Try.func166 (by kernel_rfl) (fun lp3 hl3 => ?_)
  cbv
  (apply E_pcallX hE (hF a.lo b.lo true h1 h3); (case hm => rfl); (case hle => (repeat' (first | exact u_nil | apply u_cons | apply u2_agg | exact u2_int | exact u1_int | exact u2_bool | exact u1_bool | exact u2_sli | exact u1_sli | exact u2_s0 | exact u1_s0))); intro t1 et1; cbv)
  (apply E_pcallX hE (hF a.lo b.hi true h1 h4); (case hm => rfl); (case hle => (repeat' (first | exact u_nil | apply u_cons | apply u2_agg | exact u2_int | exact u1_int | exact u2_bool | exact u1_bool | exact u2_sli | exact u1_sli | exact u2_s0 | exact u1_s0))); intro t2 et2; cbv)
  (apply E_pcallX hE (hF a.hi b.lo true h2 h3); (case hm => rfl); (case hle => (repeat' (first | exact u_nil | apply u_cons | apply u2_agg | exact u2_int | exact u1_int | exact u2_bool | exact u1_bool | exact u2_sli | exact u1_sli | exact u2_s0 | exact u1_s0))); intro t3 et3; cbv)
  (apply E_pcallX hE (hF a.hi b.hi true h2 h4); (case hm => rfl); (case hle => (repeat' (first | exact u_nil | apply u_cons | apply u2_agg | exact u2_int | exact u1_int | exact u2_bool | exact u1_bool | exact u2_sli | exact u1_sli | exact u2_s0 | exact u1_s0))); intro t4 et4; cbv)
  (apply E_callX hE (c_Most [t1, t2, t3, t4] 4 rfl (by decide)); (case hf => rfl); (case hc => (cbv <;> trivial)); (case hle => exact ⟨slc4, trivial⟩); intro hi ehi; cbv)
  (apply E_callX hE (c_ivMake ⟨_, _, _, _⟩ ⟨_, _, _, _⟩); (case hf => rfl); (case hc => (cbv <;> trivial)); (case hle => (repeat' (first | exact u_nil | apply u_cons | apply u2_agg | exact u2_int | exact u1_int | exact u2_bool | exact u1_bool | exact u2_sli | exact u1_sli | exact u2_s0 | exact u1_s0))); intro t ht; cbv)
  have e : t = r := by
    rw [← hr]
    refine ht.trans ?_
    show Iv.make lo hi = _
    rw [elo, ehi, es1, es2, es3, es4, et1, et2, et3, et4]
  subst e
  exact ⟨rfl, rfl, rfl, rfl, rfl, rfl, rfl, rfl, rfl, trivial⟩
end Go.Proofs.Ytincnfjihffllaa.Ev
