/- Intervals: plain Lean. -/
import Derived.Test.YtincnfjihffllaaPu1
namespace Go.Proofs.Ytincnfjihffllaa.Ev
open Go

def Iv.none : Iv := ⟨true, Num.zero, Num.zero⟩
def Iv.all : Iv := ⟨false, Num.inf true, Num.inf false⟩
def Iv.may (x : Iv) : Bool :=
  if x.empty then decide (x = Iv.none) else x.lo.may && x.hi.may && decide (x.lo.cmp x.hi ≤ 0) && decide (x.lo ≠ Num.inf false) && decide (x.hi ≠ Num.inf true)
def Iv.fair (x : Iv) : Iv := if x.may then x else Iv.none
def Iv.make (lo hi : Num) : Iv := Iv.fair ⟨false, lo.opp.opp, hi.opp.opp⟩
def Iv.point (n : Num) : Iv := Iv.make n n
def Iv.within (a b : Iv) : Bool := a.fair.empty || (!b.fair.empty && decide (b.fair.lo.cmp a.fair.lo ≤ 0) && decide (a.fair.hi.cmp b.fair.hi ≤ 0))
def Iv.has (x : Iv) (n : Num) : Bool := !(Iv.point n).empty && (Iv.point n).within x
end Go.Proofs.Ytincnfjihffllaa.Ev
