/- Contracts: words of 64 bits. Printed by gen.py out of C3.spec. -/
import Derived.Test.YtincnfjihffllaaC2
import Derived.Test.YtincnfjihffllaaPu0
namespace Go.Proofs.Ytincnfjihffllaa.Ev
open Go Go.Proofs
set_option linter.unusedVariables false
set_option linter.unusedSimpArgs false

theorem c_Mul64 (x : Int) (y : Int) (hx : 0 ≤ x) (hx' : x < 18446744073709551616) (hy : 0 ≤ y) (hy' : y < 18446744073709551616) : ∃ t : Int × Int, t = (x * y / 18446744073709551616, x * y % 18446744073709551616) ∧ CallsA Try.prog 168 [.int .u64 (.s x), .int .u64 (.s y)] (.tup [.int .u64 (.s t.1), .int .u64 (.s t.2)]) := by
  refine ⟨_, rfl, ?_⟩
  generalize hr : (x * y / 18446744073709551616, x * y % 18446744073709551616) = r
  refine callsA_of hG hm Try.func168 (by kernel_rfl) ?_
  intro E hE lp hl
  cbv
  repeat' (first
    | (refine E_br hE (fun h => ?_) (fun h => ?_) <;> cbv)
    | (refine E_nm hE (fun v hv => ?_); cbv)
    | fail)
  all_goals (subst hE; subst hr)
  all_goals (try simp only [realE, cmp_eql, cmp_neq, cmp_lss, cmp_leq, cmp_gtr, cmp_geq, intBinR, decide_eq_true_eq, decide_eq_false_iff_not, SI.val, SB.val, Num.eta, Iv.eta] at *)
  all_goals (simp only [and_32', shr32] at *)
  all_goals (simp only [wu64] at *)
  rename_i x0 x1 y0 y1 w0 t w1 w2 w1' hi _ _ _ _ _ _ _ _ _ _
  exact ⟨mul64 (x0 := x0) (x1 := x1) (y0 := y0) (y1 := y1) (w0 := w0) (t := t) (w1 := w1) (w2 := w2) (w1' := w1') hx hx' hy hy' (by assumption) (by assumption) (by assumption) (by assumption) (by assumption) (by assumption) (by assumption) (by assumption) (by assumption) (by assumption), by assumption, trivial⟩

theorem c_Len64 (x : Int) (hx : 0 ≤ x) (hx' : x < 18446744073709551616) : ∃ t : Int, t = blen x ∧ CallsA Try.prog 163 [.int .u64 (.s x)] (.int .i64 (.s t)) := by
  refine ⟨_, rfl, ?_⟩
  generalize hr : blen x = r
  refine callsA_of hG hm Try.func163 (by kernel_rfl) ?_
  intro E hE lp hl
  cbv
  repeat' (first
    | (refine E_br hE (fun h => ?_) (fun h => ?_) <;> cbv)
    | (refine E_nm hE (fun v hv => ?_); cbv)
    | fail)
  all_goals (try (generalize hL : (⟨⟨[0, 1, 2, 2, 3, 3, 3, 3, 4, 4, 4, 4, 4, 4, 4, 4, 5, 5, 5, 5, 5, 5, 5, 5, 5, 5, 5, 5, 5, 5, 5, 5, 6, 6, 6, 6, 6, 6, 6, 6, 6, 6, 6, 6, 6, 6, 6, 6, 6, 6, 6, 6, 6, 6, 6, 6, 6, 6, 6, 6, 6, 6, 6, 6, 7, 7, 7, 7, 7, 7, 7, 7, 7, 7, 7, 7, 7, 7, 7, 7, 7, 7, 7, 7, 7, 7, 7, 7, 7, 7, 7, 7, 7, 7, 7, 7, 7, 7, 7, 7, 7, 7, 7, 7, 7, 7, 7, 7, 7, 7, 7, 7, 7, 7, 7, 7, 7, 7, 7, 7, 7, 7, 7, 7, 7, 7, 7, 7, 8, 8, 8, 8, 8, 8, 8, 8, 8, 8, 8, 8, 8, 8, 8, 8, 8, 8, 8, 8, 8, 8, 8, 8, 8, 8, 8, 8, 8, 8, 8, 8, 8, 8, 8, 8, 8, 8, 8, 8, 8, 8, 8, 8, 8, 8, 8, 8, 8, 8, 8, 8, 8, 8, 8, 8, 8, 8, 8, 8, 8, 8, 8, 8, 8, 8, 8, 8, 8, 8, 8, 8, 8, 8, 8, 8, 8, 8, 8, 8, 8, 8, 8, 8, 8, 8, 8, 8, 8, 8, 8, 8, 8, 8, 8, 8, 8, 8, 8, 8, 8, 8, 8, 8, 8, 8, 8, 8, 8, 8, 8, 8, 8, 8, 8, 8, 8, 8, 8, 8, 8, 8, 8, 8, 8, 8, 8, 8]⟩⟩ : ByteArray) = L at *; replace hL := len8_str hL; obtain ⟨hL1, hL2⟩ := hL))
  all_goals (subst hE; subst hr)
  all_goals (try simp only [realE, cmp_eql, cmp_neq, cmp_lss, cmp_leq, cmp_gtr, cmp_geq, intBinR, decide_eq_true_eq, decide_eq_false_iff_not, SI.val, SB.val, Num.eta, Iv.eta] at *)
  all_goals (simp only [shr8, shr16, shr32, wu8, wi64] at *)
  all_goals (try omega)
  all_goals (try rw [hL2 _ (by omega) (by omega)] at hv)
  all_goals (have b1 := blen_nonneg x; have b2 := blen_le 64 (x := x) (by omega))
  all_goals (try have s1 := len32 ‹(4294967296 : Int) ≤ _› ‹_ = _ / (4294967296 : Int)›)
  all_goals (try have s2 := len16 ‹(65536 : Int) ≤ _› ‹_ = _ / (65536 : Int)›)
  all_goals (try have s3 := len8 ‹(256 : Int) ≤ _› ‹_ = _ / (256 : Int)›)
  all_goals omega

theorem c_LZ64 (x : Int) (hx : 0 ≤ x) (hx' : x < 18446744073709551616) : ∃ t : Int, t = 64 - blen x ∧ CallsA Try.prog 93 [.int .u64 (.s x)] (.int .i64 (.s t)) := by
  refine ⟨_, rfl, ?_⟩
  generalize hr : 64 - blen x = r
  refine callsA_of hG hm Try.func93 (by kernel_rfl) ?_
  intro E hE lp hl
  cbv
  repeat' (first
    | (refine E_br hE (fun h => ?_) (fun h => ?_) <;> cbv)
    | (refine E_nm hE (fun v hv => ?_); cbv)
    | (apply E_callX hE (c_Len64 _ ?_ ?_); (case hf => rfl); (case hc => (cbv <;> trivial)); (case hle => (repeat' (first | exact u_nil | apply u_cons | apply u2_agg | exact u2_int | exact u1_int | exact u2_bool | exact u1_bool | exact u2_sli | exact u1_sli | exact u2_s0 | exact u1_s0))); all_goals (first | (intro t ht; cbv) | (subst hE; (try simp only [realE, cmp_eql, cmp_neq, cmp_lss, cmp_leq, cmp_gtr, cmp_geq, intBinR, decide_eq_true_eq, decide_eq_false_iff_not, SI.val, SB.val, Num.eta, Iv.eta] at *); first | assumption | omega)))
    | (apply E_pcallX hE (c_Len64 _ ?_ ?_); (case hm => rfl); (case hle => (repeat' (first | exact u_nil | apply u_cons | apply u2_agg | exact u2_int | exact u1_int | exact u2_bool | exact u1_bool | exact u2_sli | exact u1_sli | exact u2_s0 | exact u1_s0))); all_goals (first | (intro t ht; cbv) | (subst hE; (try simp only [realE, cmp_eql, cmp_neq, cmp_lss, cmp_leq, cmp_gtr, cmp_geq, intBinR, decide_eq_true_eq, decide_eq_false_iff_not, SI.val, SB.val, Num.eta, Iv.eta] at *); first | assumption | omega)))
    | fail)
  all_goals (subst hE; subst hr)
  all_goals (try simp only [realE, cmp_eql, cmp_neq, cmp_lss, cmp_leq, cmp_gtr, cmp_geq, intBinR, decide_eq_true_eq, decide_eq_false_iff_not, SI.val, SB.val, Num.eta, Iv.eta] at *)
  all_goals (try simp only [wi64] at *)
  all_goals (have b1 := blen_nonneg x; have b2 := blen_le 64 (x := x) (by omega); omega)

end Go.Proofs.Ytincnfjihffllaa.Ev