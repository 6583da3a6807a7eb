/- Contracts: the product of intervals. -/
import Derived.Test.YtincnfjihffllaaC6
import Derived.Test.YtincnfjihffllaaPu9
namespace Go.Proofs.Ytincnfjihffllaa.Ev
open Go Go.Proofs
set_option linter.unusedVariables false

theorem iv_cells_self {x : Iv} : sleL sle0 x.cells x.cells :=
  ⟨rfl, ⟨rfl, rfl⟩, rfl, ⟨rfl, rfl⟩, ⟨rfl, rfl⟩, ⟨rfl, rfl⟩, rfl, ⟨rfl, rfl⟩, ⟨rfl, rfl⟩, trivial⟩
theorem slcO2 {P : Program} {E : Env} (hE : E = realE P) {a b z : Iv} {d : List AV} : sle2 (.slc 9 (.l 2) (E.rfun [a.cells, b.cells] 0 d)) (.slc 9 (.s 2) (fun i => Iv.cells ([a, b].getD i z))) := by
  subst hE
  refine ⟨rfl, rfl, fun i hi => ?_⟩
  match i, hi with
  | 0, _ => exact iv_cells_self
  | 1, _ => exact iv_cells_self
  | i + 2, hi => exact absurd hi (by simp [SI.val])

theorem c_opMul (a b : Iv) (h1 : a.lo.ok) (h2 : a.hi.ok) (h3 : b.lo.ok) (h4 : b.hi.ok) : ∃ t, t = Iv.mul a b ∧ CallsA Try.prog 37 [a.av, b.av] t.av := by
  refine ⟨_, rfl, ?_⟩
  generalize hr : Iv.mul a b = r
  refine callsA_of hG hm Try.func37 (by kernel_rfl) ?_
  intro E hE lp hl
  cbv
  (apply E_callX hE (c_none [a, b] 2 rfl (by decide)); (case hf => rfl); (case hc => (cbv <;> trivial)); (case hle => exact ⟨slcO2 hE, trivial⟩); intro t ht; cbv)
  refine E_br hE (fun h => ?_) (fun h => ?_) <;> cbv
  · (apply E_callX hE c_ivNone; (case hf => rfl); (case hc => (cbv <;> trivial)); (case hle => exact trivial); intro t' ht'; cbv)
    have e : t' = r := by
      rw [← hr, ht']; unfold Iv.mul; rw [if_pos (by rw [← ht]; exact h)]
    subst e
    exact ⟨rfl, rfl, rfl, rfl, rfl, rfl, rfl, rfl, rfl, trivial⟩
  · (apply E_callX hE (c_corners a b 106 Num.mul Num.ok (fun x y up hx hy => c_arMul x y up hx hy) h1 h2 h3 h4); (case hf => rfl); (case hc => (cbv <;> trivial)); (case hle => (repeat' (first | exact u_nil | apply u_cons | apply u2_agg | exact u2_int | exact u1_int | exact u2_bool | exact u1_bool | exact u2_sli | exact u1_sli | exact u2_s0 | exact u1_s0 | exact u2_fn))); intro t' ht'; cbv)
    have e : t' = r := by
      rw [← hr, ht']; unfold Iv.mul; rw [if_neg (by rw [← ht, h]; simp)]; rfl
    subst e
    exact ⟨rfl, rfl, rfl, rfl, rfl, rfl, rfl, rfl, rfl, trivial⟩
end Go.Proofs.Ytincnfjihffllaa.Ev
