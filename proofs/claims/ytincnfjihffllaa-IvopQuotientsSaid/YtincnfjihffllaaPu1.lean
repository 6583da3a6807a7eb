/- Numbers and intervals, and what the program's functions make of them: plain Lean. -/
import Derived.Test.YtincnfjihffllaaEv21
namespace Go.Proofs.Ytincnfjihffllaa.Ev
open Go

structure Num where
  kind : Int
  neg : Bool
  m : Int
  e : Int
  deriving DecidableEq

structure Iv where
  empty : Bool
  lo : Num
  hi : Num
  deriving DecidableEq

theorem Num.eq_iff (a b : Num) : a = b ↔ a.kind = b.kind ∧ a.neg = b.neg ∧ a.m = b.m ∧ a.e = b.e := by
  cases a; cases b; simp
theorem Iv.eq_iff (a b : Iv) : a = b ↔ a.empty = b.empty ∧ a.lo = b.lo ∧ a.hi = b.hi := by
  cases a; cases b; simp

theorem Num.eta (n : Num) : (⟨n.kind, n.neg, n.m, n.e⟩ : Num) = n := rfl
theorem Iv.eta (x : Iv) : (⟨x.empty, x.lo, x.hi⟩ : Iv) = x := rfl

def Num.cells (n : Num) : List AV := [.int .i64 (.s n.kind), .bool (.s n.neg), .int .u64 (.s n.m), .int .i64 (.s n.e)]
def Num.av (n : Num) : AV := .agg [.int .i64 (.s n.kind), .bool (.s n.neg), .int .u64 (.s n.m), .int .i64 (.s n.e)]
def Iv.av (x : Iv) : AV := .agg [.bool (.s x.empty), .int .i64 (.s x.lo.kind), .bool (.s x.lo.neg), .int .u64 (.s x.lo.m), .int .i64 (.s x.lo.e),
  .int .i64 (.s x.hi.kind), .bool (.s x.hi.neg), .int .u64 (.s x.hi.m), .int .i64 (.s x.hi.e)]

def Num.zero : Num := ⟨0, false, 0, 0⟩
def Num.top : Int := 9223372036854775808
def Num.may (n : Num) : Bool :=
  if n.kind = 0 then decide (n = Num.zero) else if n.kind = 1 then decide (9223372036854775808 ≤ n.m) && decide (-1048576 ≤ n.e) && decide (n.e ≤ 1048576) else if n.kind = 2 then decide (n.m = 0) && decide (n.e = 0) else false
def Num.fair (n : Num) : Num := if n.may then n else Num.zero
def Num.inf (b : Bool) : Num := ⟨2, b, 0, 0⟩
def Num.huge (b : Bool) : Num := ⟨1, b, 18446744073709551615, 1048576⟩
def Num.tiny (b : Bool) : Num := ⟨1, b, Num.top, -1048576⟩
def Num.bound (neg : Bool) (m e : Int) (away : Bool) : Num :=
  if 1048576 < e then (if away then Num.inf neg else Num.huge neg) else if e < -1048576 then (if away then Num.tiny neg else Num.zero) else ⟨1, neg, m, e⟩
def Num.grow (neg : Bool) (m e : Int) (cut away : Bool) : Num :=
  if cut && away then (if IntKind.u64.wrap (m + 1) = 0 then Num.bound neg Num.top (IntKind.i64.wrap (e + 1)) away else Num.bound neg (IntKind.u64.wrap (m + 1)) e away) else Num.bound neg m e away
def Num.sign (n : Num) : Int := if n.fair.kind = 0 then 0 else if n.fair.neg then -1 else 1
def Num.farther (a b : Num) : Bool := if a.kind ≠ b.kind then decide (b.kind < a.kind) else if a.e ≠ b.e then decide (b.e < a.e) else decide (b.m < a.m)
def Num.cmp (a b : Num) : Int :=
  if a.fair.sign < b.fair.sign then -1 else if b.fair.sign < a.fair.sign then 1 else if a.fair.farther b.fair then a.fair.sign else if b.fair.farther a.fair then IntKind.i64.wrap (0 - a.fair.sign) else 0
def Num.opp (n : Num) : Num := ⟨n.fair.kind, decide (n.fair.kind ≠ 0) && !n.fair.neg, n.fair.m, n.fair.e⟩
end Go.Proofs.Ytincnfjihffllaa.Ev
