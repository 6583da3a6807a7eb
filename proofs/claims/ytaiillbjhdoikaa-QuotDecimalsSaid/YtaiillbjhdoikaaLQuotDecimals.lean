/- decimal numbers lie between what they are to below and to above -/
import Derived.Test.YtaiillbjhdoikaaB6
import Derived.Test.YtaiillbjhdoikaaRows
import Derived.Test.YtaiillbjhdoikaaChecked
import Derived.WalkKit
import Derived.ProofKit
import Derived.OpenShut
import Derived.ShutString
import Derived.ChangeOld
import Derived.Below
import Derived.SizedLaws
import Derived.Carry
import Derived.RowKit
set_option linter.unusedVariables false
set_option linter.unusedSimpArgs false

/- decimal numbers lie between what they are to below and to above -/
namespace Go.Proofs.Ytaiillbjhdoikaa.quotDecimals
open Go.ChangeShapes Go.WideShapes Go.ChangeAt Go.RowKit Go.Proofs.Ytaiillbjhdoikaa.Ev
set_option linter.unusedVariables false
theorem own : ownKnob Try.prog.godebug = none := by kernel_rfl
theorem laidOut : laidOutB Try.prog = true := by kernel_rfl
set_option maxRecDepth 100000 in
theorem lifted (os : Os) (started : os.Started) (H : Type) (enc : TypeId × Value → H) :
    ReturnsInHanded {} Try.checked os 10 .any (Rows.quotDecimalsSpec.pre6 enc Try.prog Try.f10 Rows.quotDecimalsRow.domain false) (Rows.quotDecimalsSpec.post enc Try.prog Try.f10 false true false false) := by
  refine returnsInHanded_of_change_sized (C := Try.checked) own started (by kernel_rfl) Try.func10
    (ChangeSpec.witness6 (enc := enc) (C := Try.checked) false ⟨#[], #[.agg #[.bool false, .slice none 0 0, .int .i64 0], .agg #[.bool false, .slice none 0 0, .int .i64 0]], []⟩ 8 (by kernel_rfl) (by kernel_rfl) (by kernel_rfl) (by kernel_rfl)) ?_
  intro W base args ds gs before hval0 hW hcnd hsz0 _
  have hval : ∀ (j : Nat) t v, Try.f10.params[j]? = some t → args[j]? = some v → Value.okWide Try.prog W .any base t v := hval0
  have hW' := hW
  obtain ⟨p, q, hA0, hV, rfl, hfz, hnd⟩ := hW
  have hA : DataW.TrodAll enc Try.prog W 0 (fun _ => true) true Try.f10.params.toList args.toList ds p := hA0
  rw [Try.params10] at hA hval
  obtain ⟨v0, vs0, d0, ds0, p0, q0, hargs, rfl, rfl, h0, r0⟩ := trodAll_cons hA
  obtain ⟨v1, vs1, d1, ds1, p1, q1, rfl, rfl, rfl, h1, r1⟩ := trodAll_cons r0
  obtain ⟨rfl, rfl, rfl⟩ := trodAll_nil r1
  obtain rfl : args = #[v0, v1] := by cases args; simp_all
  obtain ⟨rfl, rfl⟩ := trodVars_none hV
  have lt0 : ∀ x ∈ p0, x.block < W.heap.size := by obtain ⟨m, hm⟩ := h0; exact DataW.trod_lt m _ _ _ hm
  obtain ⟨n_a, a, t_a, w_a, l_a, t2_a, ro0⟩ := arg_dec (hval 0 46 v0 rfl rfl) h0
  have lt1 : ∀ x ∈ p1, x.block < W.heap.size := by obtain ⟨m, hm⟩ := h1; exact DataW.trod_lt m _ _ _ hm
  obtain ⟨n_b, b, t_b, w_b, l_b, t2_b, ro1⟩ := arg_dec (hval 1 46 v1 rfl rfl) h1
  clear hA0 hval0 hsz0
  obtain ⟨t, ht, hC⟩ := c_QuotDecimals n_a a t_a n_b b t_b w_a w_b l_a l_b t2_a.1 t2_a.2 t2_b.1 t2_b.2
  refine (Goes.calls (P := Try.prog) ⟨_, Try.func10, by kernel_rfl, by kernel_rfl⟩ (hC (fun k => k < W.heap.size) W #[v0, v1] (fun _ h => h) (by intro p hp; simp [globs] at hp) rfl ?_)).mono fun e W' ⟨val, he, hv, bel⟩ => ?_
  · intro j c hj
    match j, hj with
    | 0, hj => simp at hj; subst hj; exact ro0
    | 1, hj => simp at hj; subst hj; exact ro1
    | j + 2, hj => simp at hj
  · obtain ⟨b, v, hb⟩ : ∃ b v, b = t ∧ val = .bool b := by cases hv; rename_i h; exact ⟨_, trivial, h.symm, rfl⟩
    obtain ⟨rfl, rfl⟩ := hb
    subst ht
    subst he
    exact ⟨_, rfl, _, _, _, [], _, [], hW', trodAll_mk1 (shut_bool Try.underlying4 _), (trodAll_cons_mk (Below.trod laidOut (by kernel_rfl) (of_decide_eq_true (by kernel_rfl)) h0 bel lt0) (trodAll_cons_mk (Below.trod laidOut (by kernel_rfl) (of_decide_eq_true (by kernel_rfl)) h1 bel lt1) trodAll_mk0)), rfl, bel.frame _, fun h => by cases h⟩
theorem over : Rows.quotDecimalsRow.holds Try.pinned (OpenSpec.ofChange Rows.quotDecimalsSpec) :=
  OpenClaim.holds_of_wide 10 Try.f10 rfl rfl rfl rfl rfl rfl rfl ⟨rfl, rfl, rfl, rfl, rfl⟩ rfl rfl rfl rfl rfl (by kernel_rfl) Try.func10 (by kernel_rfl)
    (of_decide_eq_true (by kernel_rfl)) (by unfold Func.isWrapper; first | (rw [if_pos (by decide +kernel)]; kernel_rfl) | (rw [if_neg (by decide +kernel)]; exact ⟨rfl, rfl⟩))
    (fun os started H enc _ => lifted os started H enc)
theorem proved : Rows.QuotDecimalsSaid := over
end Go.Proofs.Ytaiillbjhdoikaa.quotDecimals
namespace Go.Proofs.Ytaiillbjhdoikaa
/-- The row, under a short name, for the claim. -/
theorem quotDecimals_holds : Rows.QuotDecimalsSaid := quotDecimals.proved
#print axioms quotDecimals_holds
end Go.Proofs.Ytaiillbjhdoikaa
