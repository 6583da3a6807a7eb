/- Whole numbers as numbers, the opposite, how far from nought, the square: plain Lean. -/
import Derived.Test.YtincnfjihffllaaPu9
namespace Go.Proofs.Ytincnfjihffllaa.Ev
open Go

theorem E_br_t {P : Program} {E : Env} (hE : E = realE P) {c : Bool} {t f : Unit → Prop} (h : c = true) (ht : t ()) : E.br c t f := by
  subst hE; exact ⟨fun _ => ht, fun h' => (by rw [h] at h'; cases h')⟩
theorem E_br_f {P : Program} {E : Env} (hE : E = realE P) {c : Bool} {t f : Unit → Prop} (h : c = false) (hf : f ()) : E.br c t f := by
  subst hE; exact ⟨fun h' => (by rw [h] at h'; cases h'), fun _ => hf⟩

def Num.ofInt (n : Int) : Num :=
  if n = 0 then Num.zero else ⟨1, decide (n < 0), IntKind.u64.wrap ((n.natAbs : Int) * 2 ^ min (Int.toNat (64 - blen n.natAbs)) IntKind.u64.bits), IntKind.i64.wrap (0 - (64 - blen n.natAbs))⟩
def Iv.ofInts (a b : Int) : Iv := Iv.make (Num.ofInt a) (Num.ofInt b)
def Iv.neg (a : Iv) : Iv := if Iv.anyBad [a] then Iv.none else Iv.make a.hi.opp a.lo.opp
def Iv.abs (a : Iv) : Iv :=
  if Iv.anyBad [a] then Iv.none else if 0 ≤ a.lo.sign then a else if a.hi.sign ≤ 0 then Iv.neg a else Iv.make Num.zero (Num.most [a.hi, a.lo.opp])
def Iv.sqr (a : Iv) : Iv := if (Iv.abs a).empty then Iv.abs a else Iv.make (Num.mul (Iv.abs a).lo (Iv.abs a).lo false) (Num.mul (Iv.abs a).hi (Iv.abs a).hi true)

def awakeP : Bool :=
  decide (Iv.mul (Iv.ofInts (-1) 2) (Iv.ofInts 3 4) = Iv.ofInts (-4) 8) && !(Iv.mul (Iv.ofInts (-1) 2) (Iv.ofInts 3 4)).empty && decide ((Iv.mul (Iv.ofInts (-1) 2) (Iv.ofInts 3 4)).lo.kind = 1) &&
    decide ((Iv.div (Iv.ofInts 1 2) (Iv.ofInts 0 4)).hi = Num.inf false) && decide (0 < Num.cmp (Iv.div (Iv.ofInts 1 2) (Iv.ofInts 0 4)).lo (Num.ofInt 0)) && decide (Iv.sqr (Iv.ofInts (-1) 2) = Iv.ofInts 0 4)
theorem awake_true : awakeP = true := by decide +kernel

theorem aw1 : Iv.mul (Iv.ofInts (-1) 2) (Iv.ofInts 3 4) = ⟨false, ⟨1, true, 9223372036854775808, -61⟩, ⟨1, false, 9223372036854775808, -60⟩⟩ := by decide +kernel
theorem aw2 : Iv.ofInts (-4) 8 = ⟨false, ⟨1, true, 9223372036854775808, -61⟩, ⟨1, false, 9223372036854775808, -60⟩⟩ := by decide +kernel
theorem aw3 : Iv.div (Iv.ofInts 1 2) (Iv.ofInts 0 4) = ⟨false, ⟨1, false, 9223372036854775808, -65⟩, ⟨2, false, 0, 0⟩⟩ := by decide +kernel
theorem aw4 : Num.cmp ⟨1, false, 9223372036854775808, -65⟩ (Num.ofInt 0) = 1 := by decide +kernel
theorem aw5 : Iv.sqr (Iv.ofInts (-1) 2) = ⟨false, ⟨0, false, 0, 0⟩, ⟨1, false, 9223372036854775808, -61⟩⟩ := by decide +kernel
theorem aw6 : Iv.ofInts 0 4 = ⟨false, ⟨0, false, 0, 0⟩, ⟨1, false, 9223372036854775808, -61⟩⟩ := by decide +kernel
theorem wabs_neg {n : Int} (h0 : -9223372036854775808 ≤ n) (h : n < 0) : IntKind.u64.wrap (0 - IntKind.u64.wrap n) = (n.natAbs : Int) := by
  simp only [wu64]; omega
theorem wabs_pos {n : Int} (h0 : 0 ≤ n) (h : n < 9223372036854775808) : IntKind.u64.wrap n = (n.natAbs : Int) := by
  simp only [wu64]; omega
theorem Num.ofInt_ok (n : Int) : (Num.ofInt n).ok := by
  unfold Num.ofInt
  split
  · exact Num.zero_ok
  · constructor <;> (simp only [wu64]; omega)

theorem Num.grow_ok {neg cut away : Bool} {m e : Int} (h0 : 0 ≤ m) (h1 : m < 18446744073709551616) : (Num.grow neg m e cut away).ok := by
  have b : ∀ (m e : Int), 0 ≤ m → m < 18446744073709551616 → (Num.bound neg m e away).ok := by
    intro m e h0 h1
    unfold Num.bound
    repeat' split
    all_goals first | exact Num.inf_ok _ | exact Num.zero_ok | exact ⟨h0, h1⟩ | (constructor <;> simp [Num.huge, Num.tiny, Num.top])
  unfold Num.grow
  repeat' split
  all_goals (refine b _ _ ?_ ?_) <;> first | (simp only [wu64]; omega) | (simp [Num.top]) | assumption
theorem Iv.make_ok {lo hi : Num} (h1 : lo.ok) (h2 : hi.ok) : (Iv.make lo hi).lo.ok ∧ (Iv.make lo hi).hi.ok := by
  rcases Iv.make_cases h1 h2 with ⟨e, _⟩ | ⟨e, R⟩
  · rw [e]; exact ⟨Num.zero_ok, Num.zero_ok⟩
  · rw [e]; exact ⟨R.loo, R.hio⟩
theorem Iv.corners_ok {F : Num → Num → Bool → Num} {a b : Iv} (h : ∀ x ∈ [a.lo, a.hi], ∀ y ∈ [b.lo, b.hi], ∀ up, (F x y up).ok) : (Iv.corners F a b).lo.ok ∧ (Iv.corners F a b).hi.ok := by
  refine Iv.make_ok (Num.least_spec _ ?_).2.1 (Num.most_spec _ ?_).2.1 <;>
  · intro x hx
    simp only [List.mem_cons, List.not_mem_nil, or_false] at hx
    rcases hx with rfl | rfl | rfl | rfl <;> exact h _ (by simp) _ (by simp) _
theorem Num.mul_ok {a b : Num} (ha : a.ok) (hb : b.ok) (up : Bool) : (Num.mul a b up).ok := by
  unfold Num.mul
  split
  · exact Num.zero_ok
  · split
    · exact Num.inf_ok _
    · have fa := Num.fin_of (n := a) (by omega) (by omega)
      have fb := Num.fin_of (n := b) (by omega) (by omega)
      have oa := Num.fair_ok ha
      have ob := Num.fair_ok hb
      exact (mulF_side ⟨fa.1, fa.2.1, oa.2, fa.2.2.1, fa.2.2.2⟩ ⟨fb.1, fb.2.1, ob.2, fb.2.2.1, fb.2.2.2⟩ up).ok
theorem Num.div_ok {a b : Num} (ha : a.ok) (hb : b.ok) (up : Bool) : (Num.div a b up).ok := by
  unfold Num.div
  split
  · exact Num.inf_ok _
  · split
    · exact Num.zero_ok
    · split
      · exact Num.inf_ok _
      · have fa := Num.fin_of (n := a) (by omega) (by omega)
        have fb := Num.fin_of (n := b) (by omega) (by omega)
        have oa := Num.fair_ok ha
        have ob := Num.fair_ok hb
        exact (divF_side ⟨fa.1, fa.2.1, oa.2, fa.2.2.1, fa.2.2.2⟩ ⟨fb.1, fb.2.1, ob.2, fb.2.2.1, fb.2.2.2⟩ up).ok
theorem Iv.mul_ok {a b : Iv} (h1 : a.lo.ok) (h2 : a.hi.ok) (h3 : b.lo.ok) (h4 : b.hi.ok) : (Iv.mul a b).lo.ok ∧ (Iv.mul a b).hi.ok := by
  unfold Iv.mul
  split
  · exact ⟨Num.zero_ok, Num.zero_ok⟩
  · refine Iv.corners_ok ?_
    intro x hx y hy up
    simp only [List.mem_cons, List.not_mem_nil, or_false] at hx hy
    rcases hx with rfl | rfl <;> rcases hy with rfl | rfl <;> exact Num.mul_ok (by assumption) (by assumption) up

theorem Iv.neg_ok {a : Iv} (h1 : a.lo.ok) (h2 : a.hi.ok) : (Iv.neg a).lo.ok ∧ (Iv.neg a).hi.ok := by
  unfold Iv.neg
  split
  · exact ⟨Num.zero_ok, Num.zero_ok⟩
  · exact Iv.make_ok (Num.opp_ok h2) (Num.opp_ok h1)
theorem Iv.abs_ok {a : Iv} (h1 : a.lo.ok) (h2 : a.hi.ok) : (Iv.abs a).lo.ok ∧ (Iv.abs a).hi.ok := by
  unfold Iv.abs
  repeat' split
  · exact ⟨Num.zero_ok, Num.zero_ok⟩
  · exact ⟨h1, h2⟩
  · exact Iv.neg_ok h1 h2
  · refine Iv.make_ok Num.zero_ok (Num.most_spec _ ?_).2.1
    intro x hx
    simp only [List.mem_cons, List.not_mem_nil, or_false] at hx
    rcases hx with rfl | rfl
    · exact h2
    · exact Num.opp_ok h1
theorem Iv.ofInts_ok (a b : Int) : (Iv.ofInts a b).lo.ok ∧ (Iv.ofInts a b).hi.ok := Iv.make_ok (Num.ofInt_ok a) (Num.ofInt_ok b)

theorem Iv.point_ok {n : Num} (h : n.ok) : (Iv.point n).lo.ok ∧ (Iv.point n).hi.ok := Iv.make_ok h h
theorem Num.div_lo {A B : Num} {up : Bool} (hA : A.ok) (fA : -1048576 ≤ A.e ∧ A.e ≤ 1048576) (fB : -1048576 ≤ B.e ∧ B.e ≤ 1048576) (h : ¬ B.m ≤ A.m) :
    Num.grow (A.neg != B.neg) ((A.m * 18446744073709551616 + 0) / B.m) (IntKind.i64.wrap (IntKind.i64.wrap (A.e - B.e) - 64)) (decide ((A.m * 18446744073709551616 + 0) % B.m ≠ 0)) (up != (A.neg != B.neg)) = Num.divF A B up := by
  unfold Num.divF
  rw [if_neg h, Int.add_zero, show IntKind.i64.wrap (IntKind.i64.wrap (A.e - B.e) - 64) = A.e - B.e - 64 by simp only [wi64]; omega]
theorem Num.div_hi {A B : Num} {up : Bool} (hA : A.ok) (fA : -1048576 ≤ A.e ∧ A.e ≤ 1048576) (fB : -1048576 ≤ B.e ∧ B.e ≤ 1048576) (h : B.m ≤ A.m) :
    Num.grow (A.neg != B.neg) ((A.m / 2 * 18446744073709551616 + IntKind.u64.wrap (A.m * 9223372036854775808)) / B.m) (IntKind.i64.wrap (IntKind.i64.wrap (IntKind.i64.wrap (A.e - B.e) - 64) + 1))
      (decide ((A.m / 2 * 18446744073709551616 + IntKind.u64.wrap (A.m * 9223372036854775808)) % B.m ≠ 0)) (up != (A.neg != B.neg)) = Num.divF A B up := by
  unfold Num.divF
  have := hA.1
  have := hA.2
  rw [if_pos h, show A.m / 2 * 18446744073709551616 + IntKind.u64.wrap (A.m * 9223372036854775808) = A.m * 9223372036854775808 by rw [wu64]; omega,
    show IntKind.i64.wrap (IntKind.i64.wrap (IntKind.i64.wrap (A.e - B.e) - 64) + 1) = A.e - B.e - 63 by simp only [wi64]; omega]
end Go.Proofs.Ytincnfjihffllaa.Ev
