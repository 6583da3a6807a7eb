/- The least and the greatest of some numbers: plain Lean. -/
import Derived.Test.YtincnfjihffllaaPu4
import Derived.Test.YtincnfjihffllaaEv22
namespace Go.Proofs.Ytincnfjihffllaa.Ev
open Go

theorem wi64_succ {i n : Int} (h0 : 0 ≤ i) (h1 : i < n) (h2 : n < 9223372036854775808) : IntKind.i64.wrap (i + 1) = i + 1 := by
  rw [wi64]; omega

def Num.lesser (o n : Num) : Num := if n.cmp o < 0 then n.fair else o
def Num.least (l : List Num) : Num := l.foldl Num.lesser (Num.inf false)
def Num.leastTo (l : List Num) (i : Int) : Num := (l.take i.toNat).foldl Num.lesser (Num.inf false)
theorem Num.leastTo_zero (l : List Num) : Num.leastTo l 0 = Num.inf false := rfl
theorem Num.leastTo_all (l : List Num) : Num.leastTo l l.length = Num.least l := by simp [Num.leastTo, Num.least]
theorem Num.leastTo_succ (l : List Num) {i : Int} (h0 : 0 ≤ i) (h1 : i < l.length) : Num.leastTo l (i + 1) = Num.lesser (Num.leastTo l i) (l.getD i.toNat Num.zero) := by
  unfold Num.leastTo
  have : i.toNat < l.length := by omega
  have e : l.getD i.toNat Num.zero = l[i.toNat] := by simp [List.getD, List.getElem?_eq_getElem this]
  rw [e, show (i + 1).toNat = i.toNat + 1 by omega, List.take_add_one, List.getElem?_eq_getElem this, Option.toList_some, List.foldl_append]
  rfl
def Num.greater (o n : Num) : Num := if 0 < n.cmp o then n.fair else o
def Num.most (l : List Num) : Num := l.foldl Num.greater (Num.inf true)
def Num.mostTo (l : List Num) (i : Int) : Num := (l.take i.toNat).foldl Num.greater (Num.inf true)
theorem Num.mostTo_zero (l : List Num) : Num.mostTo l 0 = Num.inf true := rfl
theorem Num.mostTo_all (l : List Num) : Num.mostTo l l.length = Num.most l := by simp [Num.mostTo, Num.most]
theorem Num.mostTo_succ (l : List Num) {i : Int} (h0 : 0 ≤ i) (h1 : i < l.length) : Num.mostTo l (i + 1) = Num.greater (Num.mostTo l i) (l.getD i.toNat Num.zero) := by
  unfold Num.mostTo
  have : i.toNat < l.length := by omega
  have e : l.getD i.toNat Num.zero = l[i.toNat] := by simp [List.getD, List.getElem?_eq_getElem this]
  rw [e, show (i + 1).toNat = i.toNat + 1 by omega, List.take_add_one, List.getElem?_eq_getElem this, Option.toList_some, List.foldl_append]
  rfl
end Go.Proofs.Ytincnfjihffllaa.Ev
