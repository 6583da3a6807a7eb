/- Proved: the angles whose tangents are 1/2 and 1/3, and twice that of 1/3 and that of 1/7, are a quarter of pi together, by the bounds of all. -/
import Derived.Test.YtaiillbjhdoikaaB5
import Derived.Test.YtaiillbjhdoikaaRows
import Derived.Test.YtaiillbjhdoikaaChecked
import Derived.WalkKit
import Derived.ProofKit
import Derived.OpenShut
import Derived.ShutString
import Derived.ChangeOld
import Derived.Below
import Derived.SizedLaws
import Derived.Carry
import Derived.RowKit
set_option linter.unusedVariables false
set_option linter.unusedSimpArgs false

/- Proved: the angles whose tangents are 1/2 and 1/3, and twice that of 1/3 and that of 1/7, are a quarter of pi together, by the bounds of all. -/
namespace Go.Proofs.Ytaiillbjhdoikaa.piDoubles
open Go.ChangeShapes Go.WideShapes Go.ChangeAt Go.RowKit Go.Proofs.Ytaiillbjhdoikaa.Ev
set_option linter.unusedVariables false
theorem own : ownKnob Try.prog.godebug = none := by kernel_rfl
theorem laidOut : laidOutB Try.prog = true := by kernel_rfl
set_option maxRecDepth 100000 in
theorem lifted (os : Os) (started : os.Started) (H : Type) (enc : TypeId × Value → H) :
    ReturnsInHanded {} Try.checked os 4 .any (Rows.piDoublesSpec.pre6 enc Try.prog Try.f4 Rows.piDoublesRow.domain false) (Rows.piDoublesSpec.post enc Try.prog Try.f4 false true false false) := by
  refine returnsInHanded_of_change_sized (C := Try.checked) own started (by kernel_rfl) Try.func4
    (ChangeSpec.witness6 (enc := enc) (C := Try.checked) false ⟨#[], #[.bool false], []⟩ 8 (by kernel_rfl) (by kernel_rfl) (by kernel_rfl) (by kernel_rfl)) ?_
  intro W base args ds gs before hval0 hW hcnd hsz0 _
  have hval : ∀ (j : Nat) t v, Try.f4.params[j]? = some t → args[j]? = some v → Value.okWide Try.prog W .any base t v := hval0
  have hW' := hW
  obtain ⟨p, q, hA0, hV, rfl, hfz, hnd⟩ := hW
  have hA : DataW.TrodAll enc Try.prog W 0 (fun _ => true) true Try.f4.params.toList args.toList ds p := hA0
  rw [Try.params4] at hA hval
  obtain ⟨v0, vs0, d0, ds0, p0, q0, hargs, rfl, rfl, h0, r0⟩ := trodAll_cons hA
  obtain ⟨rfl, rfl, rfl⟩ := trodAll_nil r0
  obtain rfl : args = #[v0] := by cases args; simp_all
  obtain ⟨rfl, rfl⟩ := trodVars_none hV
  have lt0 : ∀ x ∈ p0, x.block < W.heap.size := by obtain ⟨m, hm⟩ := h0; exact DataW.trod_lt m _ _ _ hm
  obtain ⟨n, e0, _, _⟩ := open_bool Try.underlying4 (hval 0 4 v0 rfl rfl) h0
  have ro0 : ∀ O w', RoV O w' (.bool (.s n)) v0 := fun O w' => by rw [e0]; exact .bool _ _ rfl
  clear hA0 hval0 hsz0
  obtain ⟨t, ht, hC⟩ := c_PiDoubles n
  refine (Goes.calls (P := Try.prog) ⟨_, Try.func4, by kernel_rfl, by kernel_rfl⟩ (hC (fun k => k < W.heap.size) W #[v0] (fun _ h => h) rfl ?_)).mono fun e W' ⟨val, he, hv, bel⟩ => ?_
  · intro j c hj
    match j, hj with
    | 0, hj => simp at hj; subst hj; exact ro0 _ _
    | j + 1, hj => simp at hj
  · obtain ⟨b, v, hb⟩ : ∃ b v, b = t ∧ val = .bool b := by cases hv; rename_i h; exact ⟨_, trivial, h.symm, rfl⟩
    obtain ⟨rfl, rfl⟩ := hb
    subst ht
    subst he
    exact ⟨_, rfl, _, _, _, [], _, [], hW', trodAll_mk1 (shut_bool Try.underlying4 _), (trodAll_cons_mk (Below.trod laidOut (by kernel_rfl) (of_decide_eq_true (by kernel_rfl)) h0 bel lt0) trodAll_mk0), rfl, bel.frame _, fun h => by cases h⟩
theorem over : Rows.piDoublesRow.holds Try.pinned (OpenSpec.ofChange Rows.piDoublesSpec) :=
  OpenClaim.holds_of_wide 4 Try.f4 rfl rfl rfl rfl rfl rfl rfl ⟨rfl, rfl, rfl, rfl, rfl⟩ rfl rfl rfl rfl rfl (by kernel_rfl) Try.func4 (by kernel_rfl)
    (of_decide_eq_true (by kernel_rfl)) (by unfold Func.isWrapper; first | (rw [if_pos (by decide +kernel)]; kernel_rfl) | (rw [if_neg (by decide +kernel)]; exact ⟨rfl, rfl⟩))
    (fun os started H enc _ => lifted os started H enc)
theorem proved : Rows.PiDoublesSaid := over
end Go.Proofs.Ytaiillbjhdoikaa.piDoubles
namespace Go.Proofs.Ytaiillbjhdoikaa
/-- The row, under a short name, for the claim. -/
theorem piDoubles_holds : Rows.PiDoublesSaid := piDoubles.proved
#print axioms piDoubles_holds
end Go.Proofs.Ytaiillbjhdoikaa
