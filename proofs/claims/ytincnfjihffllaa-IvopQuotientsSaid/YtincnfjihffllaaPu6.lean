/- Is one of these intervals empty, or none at all? Plain Lean. -/
import Derived.Test.YtincnfjihffllaaPu5
namespace Go.Proofs.Ytincnfjihffllaa.Ev
open Go

def Iv.cells (x : Iv) : List AV := [.bool (.s x.empty), .int .i64 (.s x.lo.kind), .bool (.s x.lo.neg), .int .u64 (.s x.lo.m), .int .i64 (.s x.lo.e),
  .int .i64 (.s x.hi.kind), .bool (.s x.hi.neg), .int .u64 (.s x.hi.m), .int .i64 (.s x.hi.e)]
def Iv.bad (x : Iv) : Bool := x.empty || !x.may
def Iv.anyBad (l : List Iv) : Bool := l.any Iv.bad
def Iv.badTo (l : List Iv) (i : Int) : Bool := (l.take i.toNat).any Iv.bad
theorem Iv.badTo_zero (l : List Iv) : Iv.badTo l 0 = false := rfl
theorem Iv.badTo_all (l : List Iv) : Iv.badTo l l.length = Iv.anyBad l := by simp [Iv.badTo, Iv.anyBad]
theorem Iv.badTo_succ (l : List Iv) {i : Int} (h0 : 0 ≤ i) (h1 : i < l.length) : Iv.badTo l (i + 1) = (Iv.badTo l i || Iv.bad (l.getD i.toNat Iv.none)) := by
  unfold Iv.badTo
  have : i.toNat < l.length := by omega
  have e : l.getD i.toNat Iv.none = l[i.toNat] := by simp [List.getD, List.getElem?_eq_getElem this]
  rw [e, show (i + 1).toNat = i.toNat + 1 by omega, List.take_add_one, List.getElem?_eq_getElem this, Option.toList_some, List.any_append]
  simp
theorem Iv.anyBad_at (l : List Iv) {i : Int} (h0 : 0 ≤ i) (h1 : i < l.length) (h : Iv.bad (l.getD i.toNat Iv.none) = true) : Iv.anyBad l = true := by
  have : i.toNat < l.length := by omega
  have e : l.getD i.toNat Iv.none = l[i.toNat] := by simp [List.getD, List.getElem?_eq_getElem this]
  unfold Iv.anyBad
  rw [List.any_eq_true]
  exact ⟨l[i.toNat], List.getElem_mem this, by rw [← e]; exact h⟩
end Go.Proofs.Ytincnfjihffllaa.Ev
