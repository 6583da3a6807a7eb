/- What the contracts of intervals are told with. -/
import Derived.Test.YtincnfjihffllaaC9
namespace Go.Proofs.Ytincnfjihffllaa.Ev
open Go Go.Proofs
set_option linter.unusedVariables false
set_option linter.unusedSimpArgs false
theorem Iv.fin {t r : Iv} (h : t = r) : t.empty = r.empty ∧ t.lo.kind = r.lo.kind ∧ t.lo.neg = r.lo.neg ∧ t.lo.m = r.lo.m ∧ t.lo.e = r.lo.e ∧ t.hi.kind = r.hi.kind ∧ t.hi.neg = r.hi.neg ∧ t.hi.m = r.hi.m ∧ t.hi.e = r.hi.e ∧ True := by
  subst h; exact ⟨rfl, rfl, rfl, rfl, rfl, rfl, rfl, rfl, rfl, trivial⟩
theorem slcO1 {P : Program} {E : Env} (hE : E = realE P) {a z : Iv} {d : List AV} : sle2 (.slc 9 (.l 1) (E.rfun [a.cells] 0 d)) (.slc 9 (.s 1) (fun i => Iv.cells ([a].getD i z))) := by
  subst hE
  refine ⟨rfl, rfl, fun i hi => ?_⟩
  match i, hi with
  | 0, _ => exact iv_cells_self
  | i + 1, hi => exact absurd hi (by simp [SI.val])
theorem slc2 {a b : Num} {z : Num} : sle2 (.slc 4 (.l 2) (fun i => getRow [a.cells, b.cells] (Int.ofNat i))) (.slc 4 (.s 2) (fun i => Num.cells ([a, b].getD i z))) := by
  have r : ∀ {x : Num}, sleL sle0 x.cells x.cells := ⟨⟨rfl, rfl⟩, rfl, ⟨rfl, rfl⟩, ⟨rfl, rfl⟩, trivial⟩
  refine ⟨rfl, rfl, fun i hi => ?_⟩
  match i, hi with
  | 0, _ => exact r
  | 1, _ => exact r
  | i + 2, hi => exact absurd hi (by simp [SI.val])
end Go.Proofs.Ytincnfjihffllaa.Ev
