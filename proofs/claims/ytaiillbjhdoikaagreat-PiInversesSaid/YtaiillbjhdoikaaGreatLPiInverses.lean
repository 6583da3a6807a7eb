/- Proved: the two fixed numbers for any number, and those for pi, are what the document says; so is the interval of pi. -/
import Derived.Test.YtaiillbjhdoikaaGreatB6
import Derived.Test.YtaiillbjhdoikaaGreatRows
import Derived.Test.YtaiillbjhdoikaaGreatChecked
import Derived.WalkKit
import Derived.ProofKit
import Derived.OpenShut
import Derived.ShutString
import Derived.ChangeOld
import Derived.Below
import Derived.SizedLaws
import Derived.Carry
import Derived.RowKit
set_option linter.unusedVariables false
set_option linter.unusedSimpArgs false

/- Proved: the two fixed numbers for any number, and those for pi, are what the document says; so is the interval of pi. -/
namespace Go.Proofs.YtaiillbjhdoikaaGreat.piInverses
open Go.ChangeShapes Go.WideShapes Go.ChangeAt Go.RowKit Go.Proofs.YtaiillbjhdoikaaGreat.Ev
set_option linter.unusedVariables false
theorem own : ownKnob Tryz.prog.godebug = none := by kernel_rfl
theorem laidOut : laidOutB Tryz.prog = true := by kernel_rfl
set_option maxRecDepth 100000 in
theorem lifted (os : Os) (started : os.Started) (H : Type) (enc : TypeId × Value → H) :
    ReturnsInHanded {} Tryz.checked os 3 .any (Rows.piInversesSpec.pre6 enc Tryz.prog Tryz.f3 Rows.piInversesRow.domain false) (Rows.piInversesSpec.post enc Tryz.prog Tryz.f3 false true false false) := by
  refine returnsInHanded_of_change_sized (C := Tryz.checked) own started (by kernel_rfl) Tryz.func3
    (ChangeSpec.witness6 (enc := enc) (C := Tryz.checked) false ⟨#[], #[.int .i64 0], []⟩ 8 (by kernel_rfl) (by kernel_rfl) (by kernel_rfl) (by kernel_rfl)) ?_
  intro W base args ds gs before hval0 hW hcnd hsz0 _
  have hval : ∀ (j : Nat) t v, Tryz.f3.params[j]? = some t → args[j]? = some v → Value.okWide Tryz.prog W .any base t v := hval0
  have hW' := hW
  obtain ⟨p, q, hA0, hV, rfl, hfz, hnd⟩ := hW
  have hA : DataW.TrodAll enc Tryz.prog W 0 (fun _ => true) true Tryz.f3.params.toList args.toList ds p := hA0
  rw [Tryz.params3] at hA hval
  obtain ⟨v0, vs0, d0, ds0, p0, q0, hargs, rfl, rfl, h0, r0⟩ := trodAll_cons hA
  obtain ⟨rfl, rfl, rfl⟩ := trodAll_nil r0
  obtain rfl : args = #[v0] := by cases args; simp_all
  obtain ⟨rfl, rfl⟩ := trodVars_none hV
  have lt0 : ∀ x ∈ p0, x.block < W.heap.size := by obtain ⟨m, hm⟩ := h0; exact DataW.trod_lt m _ _ _ hm
  obtain ⟨n, e0, _, _, wf_n⟩ := open_int Tryz.underlying3 (hval 0 3 v0 rfl rfl) h0
  have w_n := wf_i64 wf_n
  have ro0 : ∀ O w', RoV O w' (.int .i64 (.s n)) v0 := fun O w' => by rw [e0]; exact .int _ _ _ rfl
  clear hA0 hval0 hsz0
  obtain ⟨t, ht, hC⟩ := c_PiInverses n
  refine (Goes.calls (P := Tryz.prog) ⟨_, Tryz.func3, by kernel_rfl, by kernel_rfl⟩ (hC (fun k => k < W.heap.size) W #[v0] (fun _ h => h) rfl ?_)).mono fun e W' ⟨val, he, hv, bel⟩ => ?_
  · intro j c hj
    match j, hj with
    | 0, hj => simp at hj; subst hj; exact ro0 _ _
    | j + 1, hj => simp at hj
  · obtain ⟨b, v, hb⟩ : ∃ b v, b = t ∧ val = .bool b := by cases hv; rename_i h; exact ⟨_, trivial, h.symm, rfl⟩
    obtain ⟨rfl, rfl⟩ := hb
    subst ht
    subst he
    exact ⟨_, rfl, _, _, _, [], _, [], hW', trodAll_mk1 (shut_bool Tryz.underlying4 _), (trodAll_cons_mk (Below.trod laidOut (by kernel_rfl) (of_decide_eq_true (by kernel_rfl)) h0 bel lt0) trodAll_mk0), rfl, bel.frame _, fun h => by cases h⟩
theorem over : Rows.piInversesRow.holds Tryz.pinned (OpenSpec.ofChange Rows.piInversesSpec) :=
  OpenClaim.holds_of_wide 3 Tryz.f3 rfl rfl rfl rfl rfl rfl rfl ⟨rfl, rfl, rfl, rfl, rfl⟩ rfl rfl rfl rfl rfl (by kernel_rfl) Tryz.func3 (by kernel_rfl)
    (of_decide_eq_true (by kernel_rfl)) (by unfold Func.isWrapper; first | (rw [if_pos (by decide +kernel)]; kernel_rfl) | (rw [if_neg (by decide +kernel)]; exact ⟨rfl, rfl⟩))
    (fun os started H enc _ => lifted os started H enc)
theorem proved : Rows.PiInversesSaid := over
end Go.Proofs.YtaiillbjhdoikaaGreat.piInverses
namespace Go.Proofs.YtaiillbjhdoikaaGreat
/-- The row, under a short name, for the claim. -/
theorem piInverses_holds : Rows.PiInversesSaid := piInverses.proved
#print axioms piInverses_holds
end Go.Proofs.YtaiillbjhdoikaaGreat
