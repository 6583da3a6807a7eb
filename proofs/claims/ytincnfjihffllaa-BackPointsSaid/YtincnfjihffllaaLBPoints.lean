/- Proved: of points of whole numbers nothing is left but where the operation makes just the result. -/
import Derived.Test.YtincnfjihffllaaBk4
import Derived.Test.YtincnfjihffllaaRows
import Derived.Test.YtincnfjihffllaaChecked
import Derived.WalkKit
import Derived.ProofKit
import Derived.OpenShut
import Derived.ShutString
import Derived.ChangeOld
import Derived.Below
import Derived.SizedLaws
import Derived.Carry
import Derived.RowKit
set_option linter.unusedVariables false
set_option linter.unusedSimpArgs false

/- Proved: of points of whole numbers nothing is left but where the operation makes just the result. -/
namespace Go.Proofs.Ytincnfjihffllaa.backPoints
open Go.ChangeShapes Go.WideShapes Go.ChangeAt Go.RowKit Go.Proofs.Ytincnfjihffllaa.Ev
set_option linter.unusedVariables false
theorem own : ownKnob Try.prog.godebug = none := by kernel_rfl
theorem laidOut : laidOutB Try.prog = true := by kernel_rfl
set_option maxRecDepth 100000 in
theorem lifted (os : Os) (started : os.Started) (H : Type) (enc : TypeId × Value → H) :
    ReturnsInHanded {} Try.checked os 15 .any (Rows.backPointsSpec.pre6 enc Try.prog Try.f15 Rows.backPointsRow.domain false) (Rows.backPointsSpec.post enc Try.prog Try.f15 false true false false) := by
  refine returnsInHanded_of_change_sized (C := Try.checked) own started (by kernel_rfl) Try.func15
    (ChangeSpec.witness6 (enc := enc) (C := Try.checked) false ⟨#[], #[.int .i64 0, .int .i64 0, .int .i64 0], []⟩ 8 (by kernel_rfl) (by kernel_rfl) (by kernel_rfl) (by kernel_rfl)) ?_
  intro W base args ds gs before hval0 hW hcnd hsz0 _
  have hval : ∀ (j : Nat) t v, Try.f15.params[j]? = some t → args[j]? = some v → Value.okWide Try.prog W .any base t v := hval0
  have hW' := hW
  obtain ⟨p, q, hA0, hV, rfl, hfz, hnd⟩ := hW
  have hA : DataW.TrodAll enc Try.prog W 0 (fun _ => true) true Try.f15.params.toList args.toList ds p := hA0
  rw [Try.params15] at hA hval
  obtain ⟨v0, vs0, d0, ds0, p0, q0, hargs, rfl, rfl, h0, r0⟩ := trodAll_cons hA
  obtain ⟨v1, vs1, d1, ds1, p1, q1, rfl, rfl, rfl, h1, r1⟩ := trodAll_cons r0
  obtain ⟨v2, vs2, d2, ds2, p2, q2, rfl, rfl, rfl, h2, r2⟩ := trodAll_cons r1
  obtain ⟨rfl, rfl, rfl⟩ := trodAll_nil r2
  obtain rfl : args = #[v0, v1, v2] := by cases args; simp_all
  obtain ⟨rfl, rfl⟩ := trodVars_none hV
  have lt0 : ∀ x ∈ p0, x.block < W.heap.size := by obtain ⟨m, hm⟩ := h0; exact DataW.trod_lt m _ _ _ hm
  obtain ⟨a, e0, _, _, wf_a⟩ := open_int Try.underlying3 (hval 0 3 v0 rfl rfl) h0
  have w_a := wf_i64 wf_a
  have ro0 : ∀ O w', RoV O w' (.int .i64 (.s a)) v0 := fun O w' => by rw [e0]; exact .int _ _ _ rfl
  have lt1 : ∀ x ∈ p1, x.block < W.heap.size := by obtain ⟨m, hm⟩ := h1; exact DataW.trod_lt m _ _ _ hm
  obtain ⟨b, e1, _, _, wf_b⟩ := open_int Try.underlying3 (hval 1 3 v1 rfl rfl) h1
  have w_b := wf_i64 wf_b
  have ro1 : ∀ O w', RoV O w' (.int .i64 (.s b)) v1 := fun O w' => by rw [e1]; exact .int _ _ _ rfl
  have lt2 : ∀ x ∈ p2, x.block < W.heap.size := by obtain ⟨m, hm⟩ := h2; exact DataW.trod_lt m _ _ _ hm
  obtain ⟨o, e2, _, _, wf_o⟩ := open_int Try.underlying3 (hval 2 3 v2 rfl rfl) h2
  have w_o := wf_i64 wf_o
  have ro2 : ∀ O w', RoV O w' (.int .i64 (.s o)) v2 := fun O w' => by rw [e2]; exact .int _ _ _ rfl
  clear hA0 hval0 hsz0
  obtain ⟨t, ht, hC⟩ := c_BackPoints a b o w_a.1 w_a.2 w_b.1 w_b.2 w_o.1 w_o.2
  refine (Goes.calls (P := Try.prog) ⟨_, Try.func15, by kernel_rfl, by kernel_rfl⟩ (hC (fun k => k < W.heap.size) W #[v0, v1, v2] (fun _ h => h) rfl ?_)).mono fun e W' ⟨val, he, hv, bel⟩ => ?_
  · intro j c hj
    match j, hj with
    | 0, hj => simp at hj; subst hj; exact ro0 _ _
    | 1, hj => simp at hj; subst hj; exact ro1 _ _
    | 2, hj => simp at hj; subst hj; exact ro2 _ _
    | j + 3, hj => simp at hj
  · obtain ⟨b, v, hb⟩ : ∃ b v, b = t ∧ val = .bool b := by cases hv; rename_i h; exact ⟨_, trivial, h.symm, rfl⟩
    obtain ⟨rfl, rfl⟩ := hb
    subst ht
    subst he
    exact ⟨_, rfl, _, _, _, [], _, [], hW', trodAll_mk1 (shut_bool Try.underlying4 _), (trodAll_cons_mk (Below.trod laidOut (by kernel_rfl) (of_decide_eq_true (by kernel_rfl)) h0 bel lt0) (trodAll_cons_mk (Below.trod laidOut (by kernel_rfl) (of_decide_eq_true (by kernel_rfl)) h1 bel lt1) (trodAll_cons_mk (Below.trod laidOut (by kernel_rfl) (of_decide_eq_true (by kernel_rfl)) h2 bel lt2) trodAll_mk0))), rfl, bel.frame _, fun h => by cases h⟩
theorem over : Rows.backPointsRow.holds Try.pinned (OpenSpec.ofChange Rows.backPointsSpec) :=
  OpenClaim.holds_of_wide 15 Try.f15 rfl rfl rfl rfl rfl rfl rfl ⟨rfl, rfl, rfl, rfl, rfl⟩ rfl rfl rfl rfl rfl (by kernel_rfl) Try.func15 (by kernel_rfl)
    (of_decide_eq_true (by kernel_rfl)) (by unfold Func.isWrapper; first | (rw [if_pos (by decide +kernel)]; kernel_rfl) | (rw [if_neg (by decide +kernel)]; exact ⟨rfl, rfl⟩))
    (fun os started H enc _ => lifted os started H enc)
theorem proved : Rows.BackPointsSaid := over
end Go.Proofs.Ytincnfjihffllaa.backPoints
namespace Go.Proofs.Ytincnfjihffllaa
/-- The row, under a short name, for the claim. -/
theorem backPoints_holds : Rows.BackPointsSaid := backPoints.proved
#print axioms backPoints_holds
end Go.Proofs.Ytincnfjihffllaa
