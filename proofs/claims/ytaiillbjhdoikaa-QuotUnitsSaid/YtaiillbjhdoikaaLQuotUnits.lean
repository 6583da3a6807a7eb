/- Proved: a number divided by one is itself; a finite one that is not nought, divided by itself, is one; the root of a square of a whole number is that number. -/
import Derived.Test.YtaiillbjhdoikaaB7
import Derived.Test.YtaiillbjhdoikaaRows
import Derived.Test.YtaiillbjhdoikaaChecked
import Derived.WalkKit
import Derived.ProofKit
import Derived.OpenShut
import Derived.ShutString
import Derived.ChangeOld
import Derived.Below
import Derived.SizedLaws
import Derived.Carry
import Derived.RowKit
set_option linter.unusedVariables false
set_option linter.unusedSimpArgs false

/- Proved: a number divided by one is itself; a finite one that is not nought, divided by itself, is one; the root of a square of a whole number is that number. -/
namespace Go.Proofs.Ytaiillbjhdoikaa.quotUnits
open Go.ChangeShapes Go.WideShapes Go.ChangeAt Go.RowKit Go.Proofs.Ytaiillbjhdoikaa.Ev
set_option linter.unusedVariables false
theorem own : ownKnob Try.prog.godebug = none := by kernel_rfl
theorem laidOut : laidOutB Try.prog = true := by kernel_rfl
set_option maxRecDepth 100000 in
theorem lifted (os : Os) (started : os.Started) (H : Type) (enc : TypeId × Value → H) :
    ReturnsInHanded {} Try.checked os 8 .any (Rows.quotUnitsSpec.pre6 enc Try.prog Try.f8 Rows.quotUnitsRow.domain false) (Rows.quotUnitsSpec.post enc Try.prog Try.f8 false true false false) := by
  refine returnsInHanded_of_change_sized (C := Try.checked) own started (by kernel_rfl) Try.func8
    (ChangeSpec.witness6 (enc := enc) (C := Try.checked) false ⟨#[], #[.agg #[.int .i64 0, .bool false, .int .u64 0, .int .i64 0], .int .i64 0, .bool false], []⟩ 8 (by kernel_rfl) (by kernel_rfl) (by kernel_rfl) (by kernel_rfl)) ?_
  intro W base args ds gs before hval0 hW hcnd hsz0 _
  have hval : ∀ (j : Nat) t v, Try.f8.params[j]? = some t → args[j]? = some v → Value.okWide Try.prog W .any base t v := hval0
  have hW' := hW
  obtain ⟨p, q, hA0, hV, rfl, hfz, hnd⟩ := hW
  have hA : DataW.TrodAll enc Try.prog W 0 (fun _ => true) true Try.f8.params.toList args.toList ds p := hA0
  rw [Try.params8] at hA hval
  obtain ⟨v0, vs0, d0, ds0, p0, q0, hargs, rfl, rfl, h0, r0⟩ := trodAll_cons hA
  obtain ⟨v1, vs1, d1, ds1, p1, q1, rfl, rfl, rfl, h1, r1⟩ := trodAll_cons r0
  obtain ⟨v2, vs2, d2, ds2, p2, q2, rfl, rfl, rfl, h2, r2⟩ := trodAll_cons r1
  obtain ⟨rfl, rfl, rfl⟩ := trodAll_nil r2
  obtain rfl : args = #[v0, v1, v2] := by cases args; simp_all
  obtain ⟨rfl, rfl⟩ := trodVars_none hV
  have lt0 : ∀ x ∈ p0, x.block < W.heap.size := by obtain ⟨m, hm⟩ := h0; exact DataW.trod_lt m _ _ _ hm
  obtain ⟨a, w_a, ro0⟩ := arg_num (hval 0 38 v0 rfl rfl) h0
  have lt1 : ∀ x ∈ p1, x.block < W.heap.size := by obtain ⟨m, hm⟩ := h1; exact DataW.trod_lt m _ _ _ hm
  obtain ⟨n, e1, _, _, wf_n⟩ := open_int Try.underlying3 (hval 1 3 v1 rfl rfl) h1
  have w_n := wf_i64 wf_n
  have ro1 : ∀ O w', RoV O w' (.int .i64 (.s n)) v1 := fun O w' => by rw [e1]; exact .int _ _ _ rfl
  have lt2 : ∀ x ∈ p2, x.block < W.heap.size := by obtain ⟨m, hm⟩ := h2; exact DataW.trod_lt m _ _ _ hm
  obtain ⟨up, e2, _, _⟩ := open_bool Try.underlying4 (hval 2 4 v2 rfl rfl) h2
  have ro2 : ∀ O w', RoV O w' (.bool (.s up)) v2 := fun O w' => by rw [e2]; exact .bool _ _ rfl
  clear hA0 hval0 hsz0
  obtain ⟨t, ht, hC⟩ := c_QuotUnits a n up w_a.1 w_n.1 w_n.2
  refine (Goes.calls (P := Try.prog) ⟨_, Try.func8, by kernel_rfl, by kernel_rfl⟩ (hC (fun k => k < W.heap.size) W #[v0, v1, v2] (fun _ h => h) (by intro p hp; simp [globs] at hp) rfl ?_)).mono fun e W' ⟨val, he, hv, bel⟩ => ?_
  · intro j c hj
    match j, hj with
    | 0, hj => simp at hj; subst hj; exact ro0 _ _
    | 1, hj => simp at hj; subst hj; exact ro1 _ _
    | 2, hj => simp at hj; subst hj; exact ro2 _ _
    | j + 3, hj => simp at hj
  · obtain ⟨b, v, hb⟩ : ∃ b v, b = t ∧ val = .bool b := by cases hv; rename_i h; exact ⟨_, trivial, h.symm, rfl⟩
    obtain ⟨rfl, rfl⟩ := hb
    subst ht
    subst he
    exact ⟨_, rfl, _, _, _, [], _, [], hW', trodAll_mk1 (shut_bool Try.underlying4 _), (trodAll_cons_mk (Below.trod laidOut (by kernel_rfl) (of_decide_eq_true (by kernel_rfl)) h0 bel lt0) (trodAll_cons_mk (Below.trod laidOut (by kernel_rfl) (of_decide_eq_true (by kernel_rfl)) h1 bel lt1) (trodAll_cons_mk (Below.trod laidOut (by kernel_rfl) (of_decide_eq_true (by kernel_rfl)) h2 bel lt2) trodAll_mk0))), rfl, bel.frame _, fun h => by cases h⟩
theorem over : Rows.quotUnitsRow.holds Try.pinned (OpenSpec.ofChange Rows.quotUnitsSpec) :=
  OpenClaim.holds_of_wide 8 Try.f8 rfl rfl rfl rfl rfl rfl rfl ⟨rfl, rfl, rfl, rfl, rfl⟩ rfl rfl rfl rfl rfl (by kernel_rfl) Try.func8 (by kernel_rfl)
    (of_decide_eq_true (by kernel_rfl)) (by unfold Func.isWrapper; first | (rw [if_pos (by decide +kernel)]; kernel_rfl) | (rw [if_neg (by decide +kernel)]; exact ⟨rfl, rfl⟩))
    (fun os started H enc _ => lifted os started H enc)
theorem proved : Rows.QuotUnitsSaid := over
end Go.Proofs.Ytaiillbjhdoikaa.quotUnits
namespace Go.Proofs.Ytaiillbjhdoikaa
/-- The row, under a short name, for the claim. -/
theorem quotUnits_holds : Rows.QuotUnitsSaid := quotUnits.proved
#print axioms quotUnits_holds
end Go.Proofs.Ytaiillbjhdoikaa
