/- squares of roots: not above, not below, one or neighbours -/
import Derived.Test.YtmdgeaagaljheaaDoorB6
import Derived.Test.YtmdgeaagaljheaaDoorRows
import Derived.Test.YtmdgeaagaljheaaDoorTie
import Derived.Test.YtmdgeaagaljheaaDoorCards
import Derived.Test.YtmdgeaagaljheaaDoorChecked
import Derived.WalkKit
import Derived.ProofKit
import Derived.OpenShut
import Derived.ShutString
import Derived.ChangeOld
import Derived.Below
import Derived.SizedLaws
import Derived.Carry
import Derived.RowKit
import Derived.LaidMore
import Derived.Lib.LaidTab
import Derived.SevenTiedAt
import Derived.Stop.Joined
set_option linter.unusedVariables false
set_option linter.unusedSimpArgs false

/- squares of roots: not above, not below, one or neighbours -/
namespace Go.Proofs.YtmdgeaagaljheaaDoor.quotSquares
open Go.ChangeShapes Go.WideShapes Go.ChangeAt Go.RowKit Go.Proofs.YtmdgeaagaljheaaDoor.Ev
set_option linter.unusedVariables false
theorem own : ownKnob Tryd.prog.godebug = none := by kernel_rfl
theorem laidOut : laidOutB Tryd.prog = true := by kernel_rfl
/-- The door's own heap meets the condition. -/
theorem door_met (os : Os) (args : Array Value) : laidMetH Tryd.prog [("math/bits.deBruijn32tab", Rows.laid_math_bits_deBruijn32tab)] ((World.doorLaid Tryd.prog 14 os).forCall (fun _ _ => 0) ⟨#[], args, []⟩).memory :=
  laidMetH_of_parts3 (fuel := 8) (laidMet_of_run' 8 (by kernel_rfl) (by kernel_rfl)) (by kernel_rfl) (by kernel_rfl)
theorem named : Tryd.prog.globalNamed "math/bits.deBruijn32tab" = some 2 := by kernel_rfl
/-- The table, as the contracts ask for it. -/
theorem glob_met {W : World} (h : laidMetH Tryd.prog [("math/bits.deBruijn32tab", Rows.laid_math_bits_deBruijn32tab)] W) : GlobR (fun k => k < W.heap.size) W := by
  rw [MakeChecks.laidMetH_plain _ _ _ (by kernel_rfl)] at h
  have hT : Lib.TabIs Tryd.prog W "math/bits.deBruijn32tab" .u8 tzT := Lib.tabIs_of_head (rest := []) named (by kernel_rfl) Tryd.underlying101 Tryd.underlying5 (by kernel_rfl) (by kernel_rfl) h
  have hc := hT.cell named
  intro p hp
  simp only [globs, List.mem_singleton] at hp
  subst hp
  refine ⟨cell_lt (hc 0 (by decide)), fun i n hi => ?_⟩
  have hi' : tzT[i]? = some n := hi
  have hl := (List.getElem?_eq_some_iff.1 hi').1
  rw [hc i hl]
  simp [List.getD, hi']
set_option maxRecDepth 100000 in
theorem lifted (os : Os) (started : os.Started) (H : Type) (enc : TypeId × Value → H) :
    ReturnsInHanded {} Tryd.checked os 4 .any (fun w args => (Rows.quotSquaresSpec.pre enc Tryd.prog Tryd.f4 [] false w args ∧ laidMetH Tryd.prog [("math/bits.deBruijn32tab", Rows.laid_math_bits_deBruijn32tab)] w) ∧ sizedMet enc Tryd.prog Tryd.f4 (OpenSpec.ofChange Rows.quotSquaresSpec) false w args)
      (Rows.quotSquaresSpec.post enc Tryd.prog Tryd.f4 false true false false) := by
  refine returnsInHanded_of_change_and (C := Tryd.checked) (X := fun w _ => laidMetH Tryd.prog [("math/bits.deBruijn32tab", Rows.laid_math_bits_deBruijn32tab)] w) (fun _ _ _ hh h => h.of_heap hh) own started (by kernel_rfl) Tryd.func4
    (ChangeSpec.witness_shaped (enc := enc) (C := Tryd.checked) (os := os) (X := fun w _ => laidMetH Tryd.prog [("math/bits.deBruijn32tab", Rows.laid_math_bits_deBruijn32tab)] w) false (World.doorLaid Tryd.prog 14 os) #[.agg #[.int .i64 0, .bool false, .int .u64 0, .int .i64 0]] 8 rfl (World.shaped_of_RefB (by kernel_rfl) (by kernel_rfl)) (by kernel_rfl) (by kernel_rfl) (by kernel_rfl) (door_met os _)) ?_
  intro W base args ds gs before hval0 hW _ _ hL _
  have hG := glob_met hL
  have hval : ∀ (j : Nat) t v, Tryd.f4.params[j]? = some t → args[j]? = some v → Value.okWide Tryd.prog W .any base t v := hval0
  have hW' := hW
  obtain ⟨p, q, hA0, hV, rfl, hfz, hnd⟩ := hW
  have hA : DataW.TrodAll enc Tryd.prog W 0 (fun _ => true) true Tryd.f4.params.toList args.toList ds p := hA0
  rw [Tryd.params4] at hA hval
  obtain ⟨v0, vs0, d0, ds0, p0, q0, hargs, rfl, rfl, h0, r0⟩ := trodAll_cons hA
  obtain ⟨rfl, rfl, rfl⟩ := trodAll_nil r0
  obtain rfl : args = #[v0] := by cases args; simp_all
  obtain ⟨rfl, rfl⟩ := trodVars_none hV
  have lt0 : ∀ x ∈ p0, x.block < W.heap.size := by obtain ⟨m, hm⟩ := h0; exact DataW.trod_lt m _ _ _ hm
  obtain ⟨a, w_a, ro0⟩ := arg_num (hval 0 24 v0 rfl rfl) h0
  clear hA0 hval0
  obtain ⟨t, ht, hC⟩ := c_QuotSquares a w_a.1
  refine (Goes.calls (P := Tryd.prog) ⟨_, Tryd.func4, by kernel_rfl, by kernel_rfl⟩ (hC (fun k => k < W.heap.size) W #[v0] (fun _ h => h) hG rfl ?_)).mono fun e W' ⟨val, he, hv, bel⟩ => ?_
  · intro j c hj
    match j, hj with
    | 0, hj => simp at hj; subst hj; exact ro0 _ _
    | j + 1, hj => simp at hj
  · obtain ⟨b, v, hb⟩ : ∃ b v, b = t ∧ val = .bool b := by cases hv; rename_i h; exact ⟨_, trivial, h.symm, rfl⟩
    obtain ⟨rfl, rfl⟩ := hb
    subst ht
    subst he
    exact ⟨_, rfl, _, _, _, [], _, [], hW', trodAll_mk1 (shut_bool Tryd.underlying4 _), (trodAll_cons_mk (Below.trod laidOut (by kernel_rfl) (of_decide_eq_true (by kernel_rfl)) h0 bel lt0) trodAll_mk0), rfl, bel.frame _, fun h => by cases h⟩
theorem over : Rows.quotSquaresRow.holds Tryd.pinned (OpenSpec.ofChange Rows.quotSquaresSpec) :=
  OpenClaim.holds_of_wide 4 Tryd.f4 rfl rfl rfl rfl rfl rfl rfl ⟨rfl, rfl, rfl, rfl, rfl⟩ rfl rfl rfl rfl rfl (by kernel_rfl) Tryd.func4 (by kernel_rfl)
    (of_decide_eq_true (by kernel_rfl)) (by unfold Func.isWrapper; first | (rw [if_pos (by decide +kernel)]; kernel_rfl) | (rw [if_neg (by decide +kernel)]; exact ⟨rfl, rfl⟩))
    (fun os started H enc _ => lifted os started H enc)
/-- THE TIED CARD. -/
theorem proved : Rows.QuotSquaresCardSaid :=
  Claim7.holds_tied_plain_at .later [] [.data] true (true, "1a9e3b88e1653a39dcacfec7128381baea1121d60baa270117e4e2c8480a3bdd") false
    over (fun _ h => by cases h) (by kernel_rfl) (fun _ h => by cases h) quotSquares_row_tie rfl ⟨rfl, rfl⟩ (by kernel_rfl) rfl
    (fun f fn hf hfn => by
      obtain rfl : f = 4 := Option.some.inj ((show Tryd.prog.funcNamed "pelorus/peloruslaw07.QuotSquares" = some 4 by kernel_rfl).symm.trans hf) |>.symm
      obtain rfl : fn = Tryd.f4 := (Option.some.inj (Tryd.func4.symm.trans hfn)).symm
      exact ⟨by kernel_rfl, fun j t ht => by
        rw [Tryd.params4] at ht
        have hm : t ∈ [24] := by simpa using Array.mem_of_getElem? ht
        have hall : ([24].all fun u => !Tryd.prog.wantsStandIn u) = true := by kernel_rfl
        exact (show Tryd.prog.wantsStandIn t = false by simpa using List.all_eq_true.1 hall t hm)⟩)
    (by kernel_rfl)
end Go.Proofs.YtmdgeaagaljheaaDoor.quotSquares
namespace Go.Proofs.YtmdgeaagaljheaaDoor
/-- The row, under a short name, for the claim. -/
theorem quotSquares_holds : Rows.QuotSquaresCardSaid := quotSquares.proved
#print axioms quotSquares_holds
end Go.Proofs.YtmdgeaagaljheaaDoor
