/- Texts of the proof, joined: Pu32 Pu33 Pu35 Pu36 Br13 R28 C24a C25 Pu37 C26a C32 Br14 R29 R30 C33 -/
import Derived.Test.YtoghalnnmhpfmaaGreatB6
set_option linter.unusedVariables false
set_option linter.unusedSimpArgs false

/- Squares and roots of parts are parts: plain Lean. -/
namespace Go.Proofs.YtoghalnnmhpfmaaGreat.Ev
open Go

theorem Iv.abs_ends {a : Iv} (r : a.Real) : (Iv.abs a).Real ∧ 0 ≤ (Iv.abs a).lo.val ∧ a.lo.val ≤ (Iv.abs a).lo.val ∧ -a.hi.val ≤ (Iv.abs a).lo.val ∧
    ((Iv.abs a).lo.val = 0 ∨ (Iv.abs a).lo.val = a.lo.val ∨ (Iv.abs a).lo.val = -a.hi.val) ∧
    a.hi.val ≤ (Iv.abs a).hi.val ∧ -a.lo.val ≤ (Iv.abs a).hi.val ∧ ((Iv.abs a).hi.val = a.hi.val ∨ (Iv.abs a).hi.val = -a.lo.val) := by
  have le := r.le
  have ol : a.lo.opp.val = -a.lo.val := by rw [Num.opp_val, Num.may_fair r.lom]
  have oh : a.hi.opp.val = -a.hi.val := by rw [Num.opp_val, Num.may_fair r.him]
  rcases Iv.abs_cases r with ⟨h, e⟩ | ⟨h1, h2, e⟩ | ⟨h1, h2, e, h4, h5, h6⟩
  · rw [e]; exact ⟨r, h, by omega, by omega, by omega, by omega, by omega, by omega⟩
  · rw [e]
    refine ⟨r.neg, ?_⟩
    show 0 ≤ a.hi.opp.val ∧ a.lo.val ≤ a.hi.opp.val ∧ -a.hi.val ≤ a.hi.opp.val ∧ (a.hi.opp.val = 0 ∨ a.hi.opp.val = a.lo.val ∨ a.hi.opp.val = -a.hi.val) ∧
      a.hi.val ≤ a.lo.opp.val ∧ -a.lo.val ≤ a.lo.opp.val ∧ (a.lo.opp.val = a.hi.val ∨ a.lo.opp.val = -a.lo.val)
    rw [ol, oh]; omega
  · rw [e]
    have p := pw_pos 1048640
    have mo : (Num.most [a.hi, a.lo.opp]).may = true ∧ (Num.most [a.hi, a.lo.opp]).ok ∧ ((Num.most [a.hi, a.lo.opp]).val = a.hi.val ∨ (Num.most [a.hi, a.lo.opp]).val = -a.lo.val) := by
      rcases h4 with h4 | h4 <;> rw [h4]
      · exact ⟨r.him, r.hio, .inl rfl⟩
      · exact ⟨Num.opp_may _, Num.opp_ok r.loo, .inr ol⟩
    have z : Num.zero.val = 0 := Num.val_zero
    refine ⟨⟨rfl, Num.zero_may, mo.1, Num.zero_ok, mo.2.1, ?_, ?_, ?_⟩, ?_⟩
    · show Num.zero.val ≤ (Num.most [a.hi, a.lo.opp]).val; omega
    · show Num.zero.val < _; omega
    · show -pw 1048640 < (Num.most [a.hi, a.lo.opp]).val; omega
    · show 0 ≤ Num.zero.val ∧ a.lo.val ≤ Num.zero.val ∧ -a.hi.val ≤ Num.zero.val ∧ (Num.zero.val = 0 ∨ Num.zero.val = a.lo.val ∨ Num.zero.val = -a.hi.val) ∧
        a.hi.val ≤ (Num.most [a.hi, a.lo.opp]).val ∧ -a.lo.val ≤ (Num.most [a.hi, a.lo.opp]).val ∧ ((Num.most [a.hi, a.lo.opp]).val = a.hi.val ∨ (Num.most [a.hi, a.lo.opp]).val = -a.lo.val)
      exact ⟨by omega, by omega, by omega, .inl z, h5, h6, mo.2.2⟩
theorem Iv.Part.abs {a c : Iv} (P : Iv.Part a c) : Iv.Part (Iv.abs a) (Iv.abs c) := by
  obtain ⟨r1, a1, a2, a3, a4, a5, a6, a7⟩ := Iv.abs_ends P.ra
  obtain ⟨r2, c1, c2, c3, c4, c5, c6, c7⟩ := Iv.abs_ends P.rc
  have := P.lo
  have := P.hi
  exact ⟨r1, r2, by omega, by omega⟩
end Go.Proofs.YtoghalnnmhpfmaaGreat.Ev

/- Quotients of parts are parts: plain Lean. -/
namespace Go.Proofs.YtoghalnnmhpfmaaGreat.Ev
open Go

theorem Iv.bad_or_real {a : Iv} (h : a.lo.ok ∧ a.hi.ok) : a.bad = true ∨ a.Real := by
  cases e : a.bad with
  | true => exact .inl rfl
  | false => exact .inr (Iv.real_of_good e h.1 h.2)

end Go.Proofs.YtoghalnnmhpfmaaGreat.Ev

/- What two intervals have together, and their hull, by values: plain Lean. -/
namespace Go.Proofs.YtoghalnnmhpfmaaGreat.Ev
open Go

/-- empty, or a part -/
def Iv.In (a c : Iv) : Prop := a.bad = true ∨ Iv.Part a c
theorem Iv.In.within {a c : Iv} (h : Iv.In a c) : a.within c = true := by
  rcases h with h | h
  · unfold Iv.within; rw [Iv.fair_empty, h]; rfl
  · exact h.within
theorem Iv.In.trans {a b c : Iv} (h : Iv.In a b) (g : Iv.In b c) : Iv.In a c := by
  rcases h with h | h
  · exact .inl h
  · rcases g with g | g
    · rw [h.rc.good] at g; cases g
    · have := h.lo
      have := h.hi
      have := g.lo
      have := g.hi
      exact .inr ⟨h.ra, g.rc, by omega, by omega⟩
theorem Iv.In.none {c : Iv} : Iv.In Iv.none c := .inl Iv.none_bad
theorem Iv.Real.self {a : Iv} (r : a.Real) : Iv.Part a a := ⟨r, r, Int.le_refl _, Int.le_refl _⟩
theorem Iv.goods_two {x y : Iv} (rx : x.Real) (ry : y.Real) : Iv.goods [x, y] = [x, y] := by
  simp only [Iv.goods, rx.fair, ry.fair, rx.some, ry.some]
  rw [if_neg (by decide), if_neg (by decide)]
theorem Iv.most_two {a b : Num} (ma : a.may = true) (mb : b.may = true) (oa : a.ok) (ob : b.ok) : (Num.most [a, b]).may = true ∧ (Num.most [a, b]).ok ∧ a.val ≤ (Num.most [a, b]).val ∧ b.val ≤ (Num.most [a, b]).val ∧ (Num.most [a, b] = a ∨ Num.most [a, b] = b) := by
  have s := Num.most_spec [a, b] (by simp; exact ⟨oa, ob⟩)
  have k1 := s.2.2.1 a (by simp)
  have k2 := s.2.2.1 b (by simp)
  rw [Num.may_fair ma] at k1
  rw [Num.may_fair mb] at k2
  refine ⟨s.1, s.2.1, k1, k2, ?_⟩
  rcases s.2.2.2 with e | ⟨x, hx, e⟩
  · left
    refine Num.val_inj s.1 ma s.2.1 oa ?_
    have := (Num.val_le ma oa).1
    rw [e, Num.val_inf] at k1 ⊢; simp at k1 ⊢; omega
  · simp only [List.mem_cons, List.not_mem_nil, or_false] at hx
    rcases hx with rfl | rfl
    · left; rw [e, Num.may_fair ma]
    · right; rw [e, Num.may_fair mb]
theorem Iv.least_two {a b : Num} (ma : a.may = true) (mb : b.may = true) (oa : a.ok) (ob : b.ok) : (Num.least [a, b]).may = true ∧ (Num.least [a, b]).ok ∧ (Num.least [a, b]).val ≤ a.val ∧ (Num.least [a, b]).val ≤ b.val ∧ (Num.least [a, b] = a ∨ Num.least [a, b] = b) := by
  have s := Num.least_spec [a, b] (by simp; exact ⟨oa, ob⟩)
  have k1 := s.2.2.1 a (by simp)
  have k2 := s.2.2.1 b (by simp)
  rw [Num.may_fair ma] at k1
  rw [Num.may_fair mb] at k2
  refine ⟨s.1, s.2.1, k1, k2, ?_⟩
  rcases s.2.2.2 with e | ⟨x, hx, e⟩
  · left
    refine Num.val_inj s.1 ma s.2.1 oa ?_
    have := (Num.val_le ma oa).2
    rw [e, Num.val_inf] at k1 ⊢; simp at k1 ⊢; omega
  · simp only [List.mem_cons, List.not_mem_nil, or_false] at hx
    rcases hx with rfl | rfl
    · left; rw [e, Num.may_fair ma]
    · right; rw [e, Num.may_fair mb]
theorem Iv.meet_real {x y : Iv} (rx : x.Real) (ry : y.Real) : Iv.meet [x, y] = Iv.make (Num.most [x.lo, y.lo]) (Num.least [x.hi, y.hi]) := by
  have ag : Iv.allGood [x, y] = true := by
    simp only [Iv.allGood, List.all_cons, List.all_nil, Iv.fair_empty, rx.good, ry.good]; decide
  unfold Iv.meet Iv.los Iv.his
  rw [if_pos ag, Iv.goods_two rx ry]; rfl
theorem Iv.meet_one {x : Iv} (h : x.lo.ok ∧ x.hi.ok) : Iv.meet [x] = x.fair := by
  rcases Iv.bad_or_real h with b | r
  · have ag : Iv.allGood [x] = false := by
      simp only [Iv.allGood, List.all_cons, List.all_nil, Iv.fair_empty, b]; decide
    unfold Iv.meet
    rw [if_neg (by rw [ag]; decide)]
    unfold Iv.bad at b
    unfold Iv.fair
    cases hm : x.may with
    | false => rfl
    | true =>
      rw [hm] at b
      simp at b
      rw [if_pos rfl]; exact (Iv.empty_may hm b).symm
  · have ag : Iv.allGood [x] = true := by
      simp only [Iv.allGood, List.all_cons, List.all_nil, Iv.fair_empty, r.good]; decide
    have g : Iv.goods [x] = [x] := by simp only [Iv.goods, r.fair, r.some]; rw [if_neg (by decide)]
    have e1 : Num.most [x.lo] = x.lo := by
      have s := Num.most_spec [x.lo] (by simp; exact r.loo)
      have k1 := s.2.2.1 x.lo (by simp)
      rw [Num.may_fair r.lom] at k1
      refine Num.val_inj s.1 r.lom s.2.1 r.loo ?_
      rcases s.2.2.2 with e | ⟨z, hz, e⟩
      · have := (Num.val_le r.lom r.loo).1
        rw [e, Num.val_inf] at k1 ⊢; simp at k1 ⊢; omega
      · simp at hz; subst hz; rw [e, Num.may_fair r.lom]
    have e2 : Num.least [x.hi] = x.hi := by
      have s := Num.least_spec [x.hi] (by simp; exact r.hio)
      have k1 := s.2.2.1 x.hi (by simp)
      rw [Num.may_fair r.him] at k1
      refine Num.val_inj s.1 r.him s.2.1 r.hio ?_
      rcases s.2.2.2 with e | ⟨z, hz, e⟩
      · have := (Num.val_le r.him r.hio).2
        rw [e, Num.val_inf] at k1 ⊢; simp at k1 ⊢; omega
      · simp at hz; subst hz; rw [e, Num.may_fair r.him]
    have : Iv.meet [x] = Iv.make (Num.most [x.lo]) (Num.least [x.hi]) := by
      unfold Iv.meet Iv.los Iv.his
      rw [if_pos ag, g]; rfl
    rw [this, e1, e2, r.fair, Iv.make_real (by rw [Num.may_fair r.lom, Num.may_fair r.him]; exact ⟨rfl, r.lom, r.him, r.loo, r.hio, r.le, r.lt, r.gt⟩), Num.may_fair r.lom, Num.may_fair r.him]
    have := r.some
    cases x; simp_all
theorem Iv.meet_one_real {x : Iv} (r : x.Real) : Iv.meet [x] = x := by rw [Iv.meet_one ⟨r.loo, r.hio⟩, r.fair]
end Go.Proofs.YtoghalnnmhpfmaaGreat.Ev

/- What is left of operands, as functions of values; what is left is within what was there, and of an empty result nothing is left: plain Lean. -/
namespace Go.Proofs.YtoghalnnmhpfmaaGreat.Ev
open Go

/-- an interval, and whether it has nought -/
structure Opd where
  iv : Iv
  nought : Bool
def Opd.of (x : Iv) : Opd := ⟨Iv.meet [x], Iv.has x Num.zero⟩
def Opd.part (x z y : Opd) : Opd := if (z.nought && y.nought) = true then x else Opd.of (Iv.meet [x.iv, Iv.div z.iv y.iv])
def bkPlus (z x y : Iv) : Iv × Iv := (Iv.meet [x, Iv.sub z y], Iv.meet [y, Iv.sub z (Iv.meet [x, Iv.sub z y])])
/-- the divisor, but for the point nought -/
def Opd.by (y : Iv) : Opd := if (Opd.of y).iv = Iv.point Num.zero then Opd.of Iv.none else Opd.of y
def Opd.top (z x y : Iv) : Opd := Opd.of (Iv.meet [x, Iv.mul (Opd.of z).iv (Opd.by y).iv])
def bkSqr (z x : Iv) : Iv := Iv.hull [Iv.meet [x, Iv.root z], Iv.meet [x, Iv.neg (Iv.root z)]]
def bkRoot (z x : Iv) : Iv := Iv.meet [x, Iv.sqr (Iv.meet [z, Iv.positive])]
def bkNeg (z x : Iv) : Iv := Iv.meet [x, Iv.neg z]

abbrev Iv.fit (x : Iv) : Prop := x.lo.ok ∧ x.hi.ok
theorem Iv.meet2_ok {x y : Iv} (hx : x.fit) (hy : y.fit) : (Iv.meet [x, y]).fit := Iv.meet_ok (all2 hx hy)
theorem Iv.sub_fit {x y : Iv} (hx : x.fit) (hy : y.fit) : (Iv.sub x y).fit := Iv.sub_ok hx hy
theorem Iv.none_fit : Iv.none.fit := ⟨Num.zero_ok, Num.zero_ok⟩
end Go.Proofs.YtoghalnnmhpfmaaGreat.Ev

/- The reference's ways back are the program's: plain Lean. -/
namespace Go.Proofs.YtoghalnnmhpfmaaGreat.Ev
open Go

end Go.Proofs.YtoghalnnmhpfmaaGreat.Ev

/- Contracts of the reference: what is left of operands, but for sums. Printed by gen.py. -/
namespace Go.Proofs.YtoghalnnmhpfmaaGreat.Ev
open Go Go.Proofs
set_option linter.unusedVariables false
set_option linter.unusedSimpArgs false

theorem c_r10Sqr (z : Iv) (hz : z.fit) (x : Iv) (hx : x.fit) : ∃ t : Iv, t = bkSqr z x ∧ CallsA Tryz.prog 14 [z.av, x.av] t.av := by
  refine ⟨_, rfl, ?_⟩
  unfold bkSqr
  generalize hr : Iv.hull [Iv.meet [x, Iv.root z], Iv.meet [x, Iv.neg (Iv.root z)]] = r
  have f1 : (Iv.root z).fit := Iv.root_ok hz
  have f2 : (Iv.neg (Iv.root z)).fit := Iv.neg_ok f1.1 f1.2
  have f3 : (Iv.meet [x, Iv.root z]).fit := Iv.meet2_ok hx f1
  have f4 : (Iv.meet [x, Iv.neg (Iv.root z)]).fit := Iv.meet2_ok hx f2
  refine callsA_of hG hm Tryz.func14 (by kernel_rfl) ?_
  intro E hE lp hl'
  cbv
  (apply E_callX hE (c_r9Root ⟨_, ⟨_, _, _, _⟩, ⟨_, _, _, _⟩⟩ ?_); (case hf => rfl); (case hc => (cbv <;> trivial)); (case hle => exact u_up); all_goals (first | (intro a ha; cbv) | (exact hz)))
  replace ha : a = Iv.root z := ha
  rw [← ha] at f1 f2 f3 f4 hr
  (apply E_pcallX hE (c_r8Two ⟨_, ⟨_, _, _, _⟩, ⟨_, _, _, _⟩⟩ ⟨_, ⟨_, _, _, _⟩, ⟨_, _, _, _⟩⟩ ?_ ?_); (case hm => rfl); (case hle => exact u_up); all_goals (first | (intro p hp; cbv) | (first | exact hx | exact f1)))
  replace hp : p = Iv.meet [x, a] := hp
  rw [← hp] at f3 hr
  (apply E_pcallX hE (c_r9Neg ⟨_, ⟨_, _, _, _⟩, ⟨_, _, _, _⟩⟩ ?_); (case hm => rfl); (case hle => exact u_up); all_goals (first | (intro n hn; cbv) | (exact f1)))
  replace hn : n = Iv.neg a := hn
  rw [← hn] at f2 f4 hr
  (apply E_pcallX hE (c_r8Two ⟨_, ⟨_, _, _, _⟩, ⟨_, _, _, _⟩⟩ ⟨_, ⟨_, _, _, _⟩, ⟨_, _, _, _⟩⟩ ?_ ?_); (case hm => rfl); (case hle => exact u_up); all_goals (first | (intro q hq; cbv) | (first | exact hx | exact f2)))
  replace hq : q = Iv.meet [x, n] := hq
  rw [← hq] at f4 hr
  (apply E_pcallX hE (c_r8Both ⟨_, ⟨_, _, _, _⟩, ⟨_, _, _, _⟩⟩ ⟨_, ⟨_, _, _, _⟩, ⟨_, _, _, _⟩⟩ ?_ ?_); (case hm => rfl); (case hle => exact u_up); all_goals (first | (intro t ht; cbv) | (first | exact f3 | exact f4)))
  have T : t = r := by rw [← hr]; exact ht
  rw [T]; exact ⟨rfl, rfl, rfl, rfl, rfl, rfl, rfl, rfl, rfl, trivial⟩

theorem c_r10Root (z : Iv) (hz : z.fit) (x : Iv) (hx : x.fit) : ∃ t : Iv, t = bkRoot z x ∧ CallsA Tryz.prog 16 [z.av, x.av] t.av := by
  refine ⟨_, rfl, ?_⟩
  unfold bkRoot
  rw [Iv.positive_is]
  generalize hr : Iv.meet [x, Iv.sqr (Iv.meet [z, ⟨false, Num.zero, Num.inf false⟩])] = r
  have f1 : (Iv.meet [z, ⟨false, Num.zero, Num.inf false⟩]).fit := Iv.meet2_ok hz ⟨Num.zero_ok, Num.inf_ok _⟩
  have f2 : (Iv.sqr (Iv.meet [z, ⟨false, Num.zero, Num.inf false⟩])).fit := Iv.sqr_ok f1
  refine callsA_of hG hm Tryz.func16 (by kernel_rfl) ?_
  intro E hE lp hl'
  cbv
  (apply E_pcallX hE (c_rInf _); (case hm => rfl); (case hle => exact u_up); all_goals (first | (intro f hf; cbv) | (assumption)))
  replace hf : f = Num.inf false := hf
  rw [← hf] at f1 f2 hr
  have fo : f.ok := by rw [hf]; exact Num.inf_ok _
  (apply E_pcallX hE (c_r8Two ⟨_, ⟨_, _, _, _⟩, ⟨_, _, _, _⟩⟩ ⟨false, ⟨0, false, 0, 0⟩, ⟨_, _, _, _⟩⟩ ?_ ?_); (case hm => rfl); (case hle => exact u_up); all_goals (first | (intro a ha; cbv) | (first | exact hz | exact ⟨Num.zero_ok, fo⟩)))
  replace ha : a = Iv.meet [z, ⟨false, Num.zero, f⟩] := ha
  rw [← ha] at f1 f2 hr
  clear hf ha
  (apply E_pcallX hE (c_r9Sqr ⟨_, ⟨_, _, _, _⟩, ⟨_, _, _, _⟩⟩ ?_); (case hm => rfl); (case hle => exact u_up); all_goals (first | (intro s hs; cbv) | (exact f1)))
  replace hs : s = Iv.sqr a := hs
  rw [← hs] at f2 hr
  (apply E_pcallX hE (c_r8Two ⟨_, ⟨_, _, _, _⟩, ⟨_, _, _, _⟩⟩ ⟨_, ⟨_, _, _, _⟩, ⟨_, _, _, _⟩⟩ ?_ ?_); (case hm => rfl); (case hle => exact u_up); all_goals (first | (intro t ht; cbv) | (first | exact hx | exact f2)))
  have T : t = r := by rw [← hr]; exact ht
  rw [T]; exact ⟨rfl, rfl, rfl, rfl, rfl, rfl, rfl, rfl, rfl, trivial⟩

theorem c_r10Neg (z : Iv) (hz : z.fit) (x : Iv) (hx : x.fit) : ∃ t : Iv, t = bkNeg z x ∧ CallsA Tryz.prog 18 [z.av, x.av] t.av := by
  refine ⟨_, rfl, ?_⟩
  unfold bkNeg
  generalize hr : Iv.meet [x, Iv.neg z] = r
  have f1 : (Iv.neg z).fit := Iv.neg_ok hz.1 hz.2
  refine callsA_of hG hm Tryz.func18 (by kernel_rfl) ?_
  intro E hE lp hl'
  cbv
  (apply E_pcallX hE (c_r9Neg ⟨_, ⟨_, _, _, _⟩, ⟨_, _, _, _⟩⟩ ?_); (case hm => rfl); (case hle => exact u_up); all_goals (first | (intro n hn; cbv) | (exact hz)))
  replace hn : n = Iv.neg z := hn
  rw [← hn] at f1 hr
  (apply E_pcallX hE (c_r8Two ⟨_, ⟨_, _, _, _⟩, ⟨_, _, _, _⟩⟩ ⟨_, ⟨_, _, _, _⟩, ⟨_, _, _, _⟩⟩ ?_ ?_); (case hm => rfl); (case hle => exact u_up); all_goals (first | (intro t ht; cbv) | (first | exact hx | exact f1)))
  have T : t = r := by rw [← hr]; exact ht
  rw [T]; exact ⟨rfl, rfl, rfl, rfl, rfl, rfl, rfl, rfl, rfl, trivial⟩

end Go.Proofs.YtoghalnnmhpfmaaGreat.Ev

/- What the laws of rules and of parts ask for; two intervals cell by cell. -/
namespace Go.Proofs.YtoghalnnmhpfmaaGreat.Ev
open Go Go.Proofs
set_option linter.unusedVariables false
set_option linter.unusedSimpArgs false
end Go.Proofs.YtoghalnnmhpfmaaGreat.Ev

/- Contracts: what is left of operands. Printed by gen.py out of C25.spec. -/
namespace Go.Proofs.YtoghalnnmhpfmaaGreat.Ev
open Go Go.Proofs
set_option linter.unusedVariables false
set_option linter.unusedSimpArgs false
def Opd.av (x : Opd) : AV := .agg [.bool (.s x.iv.empty), .int .i64 (.s x.iv.lo.kind), .bool (.s x.iv.lo.neg), .int .u64 (.s x.iv.lo.m), .int .i64 (.s x.iv.lo.e),
  .int .i64 (.s x.iv.hi.kind), .bool (.s x.iv.hi.neg), .int .u64 (.s x.iv.hi.m), .int .i64 (.s x.iv.hi.e), .bool (.s x.nought)]
set_option maxHeartbeats 4000000
set_option maxRecDepth 10000

theorem c_bkNeg (z : Iv) (hz : z.lo.ok ∧ z.hi.ok) (x : Iv) (hx : x.lo.ok ∧ x.hi.ok) : ∃ t : Iv, t = bkNeg z x ∧ CallsA Tryz.prog 17 [z.av, x.av] t.av := by
  refine ⟨_, rfl, ?_⟩
  generalize hr : bkNeg z x = r
  refine callsA_of hG hm Tryz.func17 (by kernel_rfl) ?_
  intro E hE lp hl
  cbv
  repeat' (first
    | (apply E_br_t hE; assumption; cbv)
    | (apply E_br_f hE; assumption; cbv)
    | (refine E_br hE (fun h => ?_) (fun h => ?_) <;> cbv)
    | (refine E_nm hE (fun v hv => ?_); cbv)
    | (apply E_pcallX hE (k_opNeg ⟨_, ⟨_, _, _, _⟩, ⟨_, _, _, _⟩⟩ ?_); (case hm => rfl); (case hle => exact u_up); all_goals (first | (rintro t ⟨ht, ho⟩; cbv) | (first | assumption | exact Num.zero_ok | exact Iv.none_fit | exact Iv.positive_ok)))
    | (apply E_pcallX hE (k_meet2 ⟨_, ⟨_, _, _, _⟩, ⟨_, _, _, _⟩⟩ ?_ ⟨_, ⟨_, _, _, _⟩, ⟨_, _, _, _⟩⟩ ?_); (case hm => rfl); (case hle => exact ⟨slcG2, trivial⟩); all_goals (first | (rintro t ⟨ht, ho⟩; cbv) | (first | assumption | exact Num.zero_ok | exact Iv.none_fit | exact Iv.positive_ok)))
    | fail)
  subst_vars
  exact ⟨rfl, rfl, rfl, rfl, rfl, rfl, rfl, rfl, rfl, trivial⟩

theorem k_bkNeg (z : Iv) (hz : z.lo.ok ∧ z.hi.ok) (x : Iv) (hx : x.lo.ok ∧ x.hi.ok) : ∃ t : Iv, (t = bkNeg z x ∧ (t.lo.ok ∧ t.hi.ok)) ∧ CallsA Tryz.prog 17 [z.av, x.av] t.av :=
  withQ (p := fun t : Iv => t.lo.ok ∧ t.hi.ok) (c_bkNeg z hz x hx) (Iv.meet2_ok hx (Iv.neg_ok hz.1 hz.2))

theorem c_bkRoot (z : Iv) (hz : z.lo.ok ∧ z.hi.ok) (x : Iv) (hx : x.lo.ok ∧ x.hi.ok) : ∃ t : Iv, t = bkRoot z x ∧ CallsA Tryz.prog 15 [z.av, x.av] t.av := by
  refine ⟨_, rfl, ?_⟩
  generalize hr : bkRoot z x = r
  refine callsA_of hG hm Tryz.func15 (by kernel_rfl) ?_
  intro E hE lp hl
  cbv
  repeat' (first
    | (apply E_br_t hE; assumption; cbv)
    | (apply E_br_f hE; assumption; cbv)
    | (refine E_br hE (fun h => ?_) (fun h => ?_) <;> cbv)
    | (refine E_nm hE (fun v hv => ?_); cbv)
    | (apply E_callX hE (c_Inf _); (case hf => rfl); (case hc => (cbv <;> trivial)); (case hle => exact u_up); all_goals (first | (intro t ht; cbv) | (assumption)))
    | (apply E_callX hE (k_ivMake ⟨_, _, _, _⟩ ?_ ⟨_, _, _, _⟩ ?_); (case hf => rfl); (case hc => (cbv <;> trivial)); (case hle => exact u_up); all_goals (first | (rintro t ⟨ht, ho⟩; cbv) | (first | exact Num.zero_ok | (subst_vars; exact Num.inf_ok _))))
    | (apply E_pcallX hE (k_opSqr ⟨_, ⟨_, _, _, _⟩, ⟨_, _, _, _⟩⟩ ?_); (case hm => rfl); (case hle => exact u_up); all_goals (first | (rintro t ⟨ht, ho⟩; cbv) | (first | assumption | exact Num.zero_ok | exact Iv.none_fit | exact Iv.positive_ok)))
    | (apply E_pcallX hE (k_meet2 ⟨_, ⟨_, _, _, _⟩, ⟨_, _, _, _⟩⟩ ?_ ⟨_, ⟨_, _, _, _⟩, ⟨_, _, _, _⟩⟩ ?_); (case hm => rfl); (case hle => exact ⟨slcG2, trivial⟩); all_goals (first | (rintro t ⟨ht, ho⟩; cbv) | (first | assumption | exact Num.zero_ok | exact Iv.none_fit | exact Iv.positive_ok)))
    | fail)
  subst_vars
  exact ⟨rfl, rfl, rfl, rfl, rfl, rfl, rfl, rfl, rfl, trivial⟩

theorem k_bkRoot (z : Iv) (hz : z.lo.ok ∧ z.hi.ok) (x : Iv) (hx : x.lo.ok ∧ x.hi.ok) : ∃ t : Iv, (t = bkRoot z x ∧ (t.lo.ok ∧ t.hi.ok)) ∧ CallsA Tryz.prog 15 [z.av, x.av] t.av :=
  withQ (p := fun t : Iv => t.lo.ok ∧ t.hi.ok) (c_bkRoot z hz x hx) (Iv.meet2_ok hx (Iv.sqr_ok (Iv.meet2_ok hz Iv.positive_ok)))

theorem c_bkSqr (z : Iv) (hz : z.lo.ok ∧ z.hi.ok) (x : Iv) (hx : x.lo.ok ∧ x.hi.ok) : ∃ t : Iv, t = bkSqr z x ∧ CallsA Tryz.prog 13 [z.av, x.av] t.av := by
  refine ⟨_, rfl, ?_⟩
  generalize hr : bkSqr z x = r
  refine callsA_of hG hm Tryz.func13 (by kernel_rfl) ?_
  intro E hE lp hl
  cbv
  repeat' (first
    | (apply E_br_t hE; assumption; cbv)
    | (apply E_br_f hE; assumption; cbv)
    | (refine E_br hE (fun h => ?_) (fun h => ?_) <;> cbv)
    | (refine E_nm hE (fun v hv => ?_); cbv)
    | (apply E_callX hE (k_opRoot ⟨_, ⟨_, _, _, _⟩, ⟨_, _, _, _⟩⟩ ?_); (case hf => rfl); (case hc => (cbv <;> trivial)); (case hle => exact u_up); all_goals (first | (rintro t ⟨ht, ho⟩; cbv) | (first | assumption | exact Num.zero_ok | exact Iv.none_fit | exact Iv.positive_ok)))
    | (apply E_pcallX hE (k_opNeg ⟨_, ⟨_, _, _, _⟩, ⟨_, _, _, _⟩⟩ ?_); (case hm => rfl); (case hle => exact u_up); all_goals (first | (rintro t ⟨ht, ho⟩; cbv) | (first | assumption | exact Num.zero_ok | exact Iv.none_fit | exact Iv.positive_ok)))
    | (apply E_pcallX hE (k_meet2 ⟨_, ⟨_, _, _, _⟩, ⟨_, _, _, _⟩⟩ ?_ ⟨_, ⟨_, _, _, _⟩, ⟨_, _, _, _⟩⟩ ?_); (case hm => rfl); (case hle => exact ⟨slcG2, trivial⟩); all_goals (first | (rintro t ⟨ht, ho⟩; cbv) | (first | assumption | exact Num.zero_ok | exact Iv.none_fit | exact Iv.positive_ok)))
    | (apply E_pcallX hE (k_hull2 ⟨_, ⟨_, _, _, _⟩, ⟨_, _, _, _⟩⟩ ?_ ⟨_, ⟨_, _, _, _⟩, ⟨_, _, _, _⟩⟩ ?_); (case hm => rfl); (case hle => exact ⟨slcG2, trivial⟩); all_goals (first | (rintro t ⟨ht, ho⟩; cbv) | (first | assumption | exact Num.zero_ok | exact Iv.none_fit | exact Iv.positive_ok)))
    | fail)
  subst_vars
  exact ⟨rfl, rfl, rfl, rfl, rfl, rfl, rfl, rfl, rfl, trivial⟩

theorem k_bkSqr (z : Iv) (hz : z.lo.ok ∧ z.hi.ok) (x : Iv) (hx : x.lo.ok ∧ x.hi.ok) : ∃ t : Iv, (t = bkSqr z x ∧ (t.lo.ok ∧ t.hi.ok)) ∧ CallsA Tryz.prog 13 [z.av, x.av] t.av :=
  withQ (p := fun t : Iv => t.lo.ok ∧ t.hi.ok) (c_bkSqr z hz x hx) (Iv.hull_ok (all2 (Iv.meet2_ok hx (Iv.root_ok hz)) (Iv.meet2_ok hx (Iv.neg_ok (Iv.root_ok hz).1 (Iv.root_ok hz).2))))

theorem c_bkPlus (z : Iv) (hz : z.lo.ok ∧ z.hi.ok) (x : Iv) (hx : x.lo.ok ∧ x.hi.ok) (y : Iv) (hy : y.lo.ok ∧ y.hi.ok) : ∃ t : Iv × Iv, t = bkPlus z x y ∧ CallsA Tryz.prog 9 [z.av, x.av, y.av] (.tup [t.1.av, t.2.av]) := by
  refine ⟨_, rfl, ?_⟩
  generalize hr : bkPlus z x y = r
  refine callsA_of hG hm Tryz.func9 (by kernel_rfl) ?_
  intro E hE lp hl
  cbv
  repeat' (first
    | (apply E_br_t hE; assumption; cbv)
    | (apply E_br_f hE; assumption; cbv)
    | (refine E_br hE (fun h => ?_) (fun h => ?_) <;> cbv)
    | (refine E_nm hE (fun v hv => ?_); cbv)
    | (apply E_pcallX hE (k_opSub ⟨_, ⟨_, _, _, _⟩, ⟨_, _, _, _⟩⟩ ?_ ⟨_, ⟨_, _, _, _⟩, ⟨_, _, _, _⟩⟩ ?_); (case hm => rfl); (case hle => exact u_up); all_goals (first | (rintro t ⟨ht, ho⟩; cbv) | (first | assumption | exact Num.zero_ok | exact Iv.none_fit | exact Iv.positive_ok)))
    | (apply E_pcallX hE (k_meet2 ⟨_, ⟨_, _, _, _⟩, ⟨_, _, _, _⟩⟩ ?_ ⟨_, ⟨_, _, _, _⟩, ⟨_, _, _, _⟩⟩ ?_); (case hm => rfl); (case hle => exact ⟨slcG2, trivial⟩); all_goals (first | (rintro t ⟨ht, ho⟩; cbv) | (first | assumption | exact Num.zero_ok | exact Iv.none_fit | exact Iv.positive_ok)))
    | fail)
  all_goals simp only [Num.eta, Iv.eta] at *
  subst_vars
  exact ⟨⟨rfl, rfl, rfl, rfl, rfl, rfl, rfl, rfl, rfl, trivial⟩, ⟨rfl, rfl, rfl, rfl, rfl, rfl, rfl, rfl, rfl, trivial⟩, trivial⟩

theorem k_bkPlus (z : Iv) (hz : z.lo.ok ∧ z.hi.ok) (x : Iv) (hx : x.lo.ok ∧ x.hi.ok) (y : Iv) (hy : y.lo.ok ∧ y.hi.ok) : ∃ t : Iv × Iv, (t = bkPlus z x y ∧ ((t.1.lo.ok ∧ t.1.hi.ok) ∧ (t.2.lo.ok ∧ t.2.hi.ok))) ∧ CallsA Tryz.prog 9 [z.av, x.av, y.av] (.tup [t.1.av, t.2.av]) :=
  withQ (p := fun t : Iv × Iv => (t.1.lo.ok ∧ t.1.hi.ok) ∧ (t.2.lo.ok ∧ t.2.hi.ok)) (c_bkPlus z hz x hx y hy) (⟨Iv.meet2_ok hx (Iv.sub_fit hz hy), Iv.meet2_ok hy (Iv.sub_fit hz (Iv.meet2_ok hx (Iv.sub_fit hz hy)))⟩)

end Go.Proofs.YtoghalnnmhpfmaaGreat.Ev

/- What an operation makes just of a number of a result is left: plain Lean. -/
namespace Go.Proofs.YtoghalnnmhpfmaaGreat.Ev
open Go

/-- an interval holds a value -/
structure Holds (x : Iv) (v : Int) : Prop where
  r : x.Real
  lo : x.lo.val ≤ v
  hi : v ≤ x.hi.val
/-- ... of any size, scaled -/
structure Spans (x : Iv) (t : Int) : Prop where
  r : x.Real
  lo : x.lo.below t
  hi : x.hi.above t
abbrev Small (v : Int) : Prop := -pw 1048640 < v ∧ v < pw 1048640
theorem Num.below_of {n : Num} {t : Int} (m : n.may = true) (o : n.ok) (h : n.val < pw 1048640) (g : n.val * pw 0 ≤ t) : n.below t := by
  by_cases k : n.kind = 2
  · rcases Num.inf_val m o k with j | j
    · exact .inl (by rw [Num.inf_of m o k, j.1])
    · omega
  · exact .inr ⟨k, g⟩
theorem Num.above_of {n : Num} {t : Int} (m : n.may = true) (o : n.ok) (h : -pw 1048640 < n.val) (g : t ≤ n.val * pw 0) : n.above t := by
  by_cases k : n.kind = 2
  · rcases Num.inf_val m o k with j | j
    · omega
    · exact .inl (by rw [Num.inf_of m o k, j.1])
  · exact .inr ⟨k, g⟩
theorem Holds.spans {x : Iv} {v : Int} (h : Holds x v) : Spans x (v * pw 0) :=
  ⟨h.r, Num.below_of h.r.lom h.r.loo h.r.lt (Int.mul_le_mul_of_nonneg_right h.lo (Int.le_of_lt (pw_pos 0))), Num.above_of h.r.him h.r.hio h.r.gt (Int.mul_le_mul_of_nonneg_right h.hi (Int.le_of_lt (pw_pos 0)))⟩
theorem Spans.part {a c : Iv} {t : Int} (h : Spans a t) (P : Iv.Part a c) : Spans c t := by
  have p0 := pw_pos 0
  have l := P.lo
  have g := P.hi
  refine ⟨P.rc, ?_, ?_⟩
  · rcases h.lo with e | ⟨-, e⟩
    · left
      refine Num.val_inj P.rc.lom (Num.inf_may _) P.rc.loo (Num.inf_ok _) ?_
      have := (Num.val_le P.rc.lom P.rc.loo).1
      rw [e, Num.val_inf] at l
      rw [Num.val_inf]; simp at l ⊢; omega
    · have := Int.mul_le_mul_of_nonneg_right l (Int.le_of_lt p0)
      exact Num.below_of P.rc.lom P.rc.loo P.rc.lt (by omega)
  · rcases h.hi with e | ⟨-, e⟩
    · left
      refine Num.val_inj P.rc.him (Num.inf_may _) P.rc.hio (Num.inf_ok _) ?_
      have := (Num.val_le P.rc.him P.rc.hio).2
      rw [e, Num.val_inf] at g
      rw [Num.val_inf]; simp at g ⊢; omega
    · have := Int.mul_le_mul_of_nonneg_right g (Int.le_of_lt p0)
      exact Num.above_of P.rc.him P.rc.hio P.rc.gt (by omega)
theorem Spans.within {a c : Iv} {t : Int} (h : Spans a t) (hc : c.fit) (w : a.within c = true) : Spans c t := by
  rcases Iv.within_part ⟨h.r.loo, h.r.hio⟩ hc w with b | P
  · rw [h.r.good] at b; cases b
  · exact h.part P
theorem Spans.neg {x : Iv} {t : Int} (h : Spans x t) : Spans (Iv.neg x) (-t) := by
  rw [Iv.neg_real h.r]
  have r := h.r.neg
  have vh : x.hi.opp.val = -x.hi.val := by rw [Num.opp_val, Num.may_fair h.r.him]
  have vl : x.lo.opp.val = -x.lo.val := by rw [Num.opp_val, Num.may_fair h.r.lom]
  refine ⟨r, ?_, ?_⟩
  · show x.hi.opp.below (-t)
    rcases h.hi with e | ⟨-, e⟩
    · left; rw [e]; exact Num.opp_inf _
    · exact Num.below_of r.lom r.loo r.lt (by show x.hi.opp.val * pw 0 ≤ _; rw [vh, Int.neg_mul]; omega)
  · show x.lo.opp.above (-t)
    rcases h.lo with e | ⟨-, e⟩
    · left; rw [e]; exact Num.opp_inf _
    · exact Num.above_of r.him r.hio r.gt (by show _ ≤ x.lo.opp.val * pw 0; rw [vl, Int.neg_mul]; omega)
theorem Holds.neg {x : Iv} {v : Int} (h : Holds x v) : Holds (Iv.neg x) (-v) := by
  rw [Iv.neg_real h.r]
  have l := h.lo
  have g := h.hi
  exact ⟨h.r.neg, by show x.hi.opp.val ≤ -v; rw [Num.opp_val, Num.may_fair h.r.him]; omega, by show -v ≤ x.lo.opp.val; rw [Num.opp_val, Num.may_fair h.r.lom]; omega⟩
theorem make_holds {l u : Num} {v : Int} (ml : l.may = true) (mu : u.may = true) (ol : l.ok) (ou : u.ok) (h1 : l.val ≤ v) (h2 : v ≤ u.val) (s : Small v) : Holds (Iv.make l u) v := by
  have R : (Iv.mk false l u).Real := ⟨rfl, ml, mu, ol, ou, by show l.val ≤ u.val; omega, by show l.val < _; have := s.2; omega, by show _ < u.val; have := s.1; omega⟩
  rw [Iv.make_real (by rw [Num.may_fair ml, Num.may_fair mu]; exact R), Num.may_fair ml, Num.may_fair mu]
  exact ⟨R, h1, h2⟩
theorem Num.add_lo {a b : Num} {t : Int} (ma : a.may = true) (mb : b.may = true) (oa : a.ok) (ob : b.ok) (na : a.val < pw 1048640) (nb : b.val < pw 1048640) (ht : -pw 1048640 < t) (h : a = Num.inf true ∨ a.val + b.val ≤ t) : (Num.add a b false).val ≤ t := by
  by_cases ka : a.kind = 2
  · have e : a = Num.inf true := by
      rcases Num.inf_val ma oa ka with j | j
      · rw [Num.inf_of ma oa ka, j.1]
      · omega
    rw [Num.add_inf false (by rw [Num.may_fair ma]; exact ka), Num.may_fair ma, Num.may_fair mb]
    have n : ¬ (b.kind = 2 ∧ a.neg ≠ b.neg) := by
      rintro ⟨k, d⟩
      rcases Num.inf_val mb ob k with j | j
      · rw [e, j.1] at d; exact d rfl
      · omega
    rw [if_neg n, e, Num.val_inf]; simp; omega
  · by_cases kb : b.kind = 2
    · have e : b = Num.inf true := by
        rcases Num.inf_val mb ob kb with j | j
        · rw [Num.inf_of mb ob kb, j.1]
        · omega
      rw [Num.add_inf2 oa ob false (by rw [Num.may_fair mb]; exact kb), Num.may_fair ma, Num.may_fair mb, if_neg (fun k => ka k.1), e, Num.val_inf]; simp; omega
    · have B := add_best oa ob (by rw [Num.may_fair ma]; exact ka) (by rw [Num.may_fair mb]; exact kb) false
      rw [Num.may_fair ma, Num.may_fair mb] at B
      rcases (B.down rfl).2 with e | e
      · rw [e, Num.val_inf]; simp; omega
      · rcases h with h | h
        · rw [h] at ka; exact absurd rfl ka
        · omega
theorem Num.add_hi {a b : Num} {t : Int} (ma : a.may = true) (mb : b.may = true) (oa : a.ok) (ob : b.ok) (na : -pw 1048640 < a.val) (nb : -pw 1048640 < b.val) (ht : t < pw 1048640) (h : a = Num.inf false ∨ t ≤ a.val + b.val) : t ≤ (Num.add a b true).val := by
  have va : a.opp.val = -a.val := by rw [Num.opp_val, Num.may_fair ma]
  have vb : b.opp.val = -b.val := by rw [Num.opp_val, Num.may_fair mb]
  have k := Num.add_lo (t := -t) (Num.opp_may a) (Num.opp_may b) (Num.opp_ok oa) (Num.opp_ok ob) (by omega) (by omega) (by omega) (h.imp (fun e => by rw [e]; exact Num.opp_inf _) (fun e => by omega))
  have e := Num.add_opp oa ob true
  rw [show (!true) = false from rfl] at e
  rw [e, Num.opp_val, Num.may_fair (Num.add_may oa ob true)] at k
  omega
/-- What spans one and what holds another one: their sum holds both together. -/
theorem Spans.add {x y : Iv} {s v w : Int} (h : Spans x (s * pw 0)) (g : Holds y w) (e : v = s + w) (k : Small v) : Holds (Iv.add [x, y]) v := by
  have p0 := pw_pos 0
  rw [Iv.add2_eq, h.r.good, g.r.good]
  simp only [Bool.or_self, Bool.false_eq_true, if_false]
  have l := g.lo
  have u := g.hi
  refine make_holds (Num.add_may h.r.loo g.r.loo _) (Num.add_may h.r.hio g.r.hio _) (Num.add_ok h.r.loo g.r.loo _) (Num.add_ok h.r.hio g.r.hio _) ?_ ?_ k
  · refine Num.add_lo h.r.lom g.r.lom h.r.loo g.r.loo h.r.lt g.r.lt k.1 ?_
    rcases h.lo with q | ⟨-, q⟩
    · exact .inl q
    · right
      have := Int.le_of_mul_le_mul_right q p0
      omega
  · refine Num.add_hi h.r.him g.r.him h.r.hio g.r.hio h.r.gt g.r.gt k.2 ?_
    rcases h.hi with q | ⟨-, q⟩
    · exact .inl q
    · right
      have := Int.le_of_mul_le_mul_right q p0
      omega
theorem Spans.sub {x y : Iv} {s v w : Int} (h : Spans x (s * pw 0)) (g : Holds y w) (e : v = s - w) (k : Small v) : Holds (Iv.sub x y) v := h.add g.neg (by omega) k
/-- ... and the other way round -/
theorem Spans.from {x y : Iv} {s v w : Int} (h : Spans x (s * pw 0)) (g : Holds y w) (e : v = w - s) (k : Small v) : Holds (Iv.sub y x) v := by
  have n := h.neg
  rw [← Int.neg_mul] at n
  have a := n.add g (by omega) k
  unfold Iv.sub
  rwa [Iv.add2_comm ⟨g.r.loo, g.r.hio⟩ (Iv.neg_ok h.r.loo h.r.hio)]
theorem Holds.meet {x y : Iv} {v : Int} (h : Holds x v) (g : Holds y v) (k : Small v) : Holds (Iv.meet [x, y]) v := by
  obtain ⟨m1, m2, -, -, m5⟩ := Iv.most_two h.r.lom g.r.lom h.r.loo g.r.loo
  obtain ⟨l1, l2, -, -, l5⟩ := Iv.least_two h.r.him g.r.him h.r.hio g.r.hio
  rw [Iv.meet_real h.r g.r]
  refine make_holds m1 l1 m2 l2 ?_ ?_ k
  · rcases m5 with e | e <;> rw [e]
    · exact h.lo
    · exact g.lo
  · rcases l5 with e | e <;> rw [e]
    · exact h.hi
    · exact g.hi

theorem Holds.of {x : Iv} {v : Int} (h : Holds x v) : Holds (Opd.of x).iv v := by
  show Holds (Iv.meet [x]) v
  rw [Iv.meet_one_real h.r]; exact h
theorem Spans.of {x : Iv} {t : Int} (h : Spans x t) : Spans (Opd.of x).iv t := by
  show Spans (Iv.meet [x]) t
  rw [Iv.meet_one_real h.r]; exact h
end Go.Proofs.YtoghalnnmhpfmaaGreat.Ev

/- Contracts: the chapter's examples of what is left of operands. Printed by gen.py out of C26a.spec. -/
namespace Go.Proofs.YtoghalnnmhpfmaaGreat.Ev
open Go Go.Proofs
set_option linter.unusedVariables false
set_option linter.unusedSimpArgs false
theorem awk1 : bkPlus (Iv.ofInts 3 3) (Iv.ofInts 0 5) (Iv.ofInts 1 1) = (Iv.ofInts 2 2, Iv.ofInts 1 1) := by decide +kernel
theorem rt4 : (Num.root ⟨1, false, 9223372036854775808, -61⟩ false).1 = ⟨1, false, 9223372036854775808, -62⟩ := by
  have n : nsqrt (9223372036854775808 * 2 ^ 63) = 9223372036854775808 := nsqrt_eq (by decide +kernel) (by decide +kernel)
  have f : (⟨1, false, 9223372036854775808, -61⟩ : Num).fair = ⟨1, false, 9223372036854775808, -61⟩ := by decide
  unfold Num.root
  rw [f]
  simp only [ne_eq, not_true, Bool.false_eq_true, and_false, if_false]
  unfold Num.rootF
  simp only [show ¬ ((-61 : Int) % 2 = 0) by decide, if_false, show (9223372036854775808 : Int).toNat = 9223372036854775808 from rfl, n]
  decide +kernel
theorem rt9 : (Num.root ⟨1, false, 10376293541461622784, -60⟩ true).1 = ⟨1, false, 13835058055282163712, -62⟩ := by
  have n : nsqrt (10376293541461622784 * 2 ^ 64) = 13835058055282163712 := nsqrt_eq (by decide +kernel) (by decide +kernel)
  have f : (⟨1, false, 10376293541461622784, -60⟩ : Num).fair = ⟨1, false, 10376293541461622784, -60⟩ := by decide
  unfold Num.root
  rw [f]
  simp only [ne_eq, not_true, Bool.false_eq_true, and_false, if_false]
  unfold Num.rootF
  simp only [show ((-60 : Int) % 2 = 0) by decide, if_true, show (10376293541461622784 : Int).toNat = 10376293541461622784 from rfl, n]
  decide +kernel
theorem rt49 : Iv.root (Iv.ofInts 4 9) = Iv.ofInts 2 3 := by
  have e : Iv.meet [Iv.ofInts 4 9, Iv.positive] = ⟨false, ⟨1, false, 9223372036854775808, -61⟩, ⟨1, false, 10376293541461622784, -60⟩⟩ := by decide +kernel
  unfold Iv.root
  rw [e]
  simp only [Bool.false_eq_true, if_false, rt4, rt9]; decide +kernel
theorem awk2 : bkSqr (Iv.ofInts 4 9) (Iv.ofInts (-5) 0) = Iv.ofInts (-3) (-2) := by
  unfold bkSqr; rw [rt49]; decide +kernel
theorem awk3 : (Iv.ofInts (-3) (-2)).empty = false ∧ (Iv.ofInts (-3) (-2)).lo = Num.ofInt (-3) ∧ (Num.ofInt (-3)).kind = 1 := by decide +kernel

set_option maxRecDepth 10000 in
set_option maxHeartbeats 16000000 in
theorem c_awakeB  : ∃ t, t = true ∧ CallsA Tryz.prog 7 [] (.bool (.s t)) := by
  refine ⟨_, rfl, ?_⟩
  generalize hr : true = r
  refine callsA_of hG hm Tryz.func7 (by kernel_rfl) ?_
  intro E hE lp hl
  cbv
  repeat' (first
    | (apply E_br_t hE; assumption; cbv)
    | (apply E_br_f hE; assumption; cbv)
    | (refine E_br hE (fun h => ?_) (fun h => ?_) <;> cbv)
    | (refine E_nm hE (fun v hv => ?_); cbv)
    | (apply E_callX hE (k_ivOf _ ?_ ?_ _ ?_ ?_); (case hf => rfl); (case hc => (cbv <;> trivial)); (case hle => exact u_up); all_goals (first | (rintro t ⟨ht, ho⟩; cbv) | (decide)))
    | (apply E_pcallX hE (k_ivOf _ ?_ ?_ _ ?_ ?_); (case hm => rfl); (case hle => exact u_up); all_goals (first | (rintro t ⟨ht, ho⟩; cbv) | (decide)))
    | (apply E_callX hE (k_bkPlus ⟨_, ⟨_, _, _, _⟩, ⟨_, _, _, _⟩⟩ ?_ ⟨_, ⟨_, _, _, _⟩, ⟨_, _, _, _⟩⟩ ?_ ⟨_, ⟨_, _, _, _⟩, ⟨_, _, _, _⟩⟩ ?_); (case hf => rfl); (case hc => (cbv <;> trivial)); (case hle => exact u_up); all_goals (first | (rintro t ⟨ht, ⟨hp, hq⟩⟩; cbv) | (first | assumption | exact Iv.none_fit | (exact And.left (by assumption)) | (exact And.right (by assumption)))))
    | (apply E_callX hE (k_bkSqr ⟨_, ⟨_, _, _, _⟩, ⟨_, _, _, _⟩⟩ ?_ ⟨_, ⟨_, _, _, _⟩, ⟨_, _, _, _⟩⟩ ?_); (case hf => rfl); (case hc => (cbv <;> trivial)); (case hle => exact u_up); all_goals (first | (rintro t ⟨ht, ho⟩; cbv) | (first | assumption | exact Iv.none_fit | (exact And.left (by assumption)) | (exact And.right (by assumption)))))
    | (apply E_pcallX hE (k_Of _ ?_ ?_); (case hm => rfl); (case hle => exact u_up); all_goals (first | (rintro t ⟨ht, ho⟩; cbv) | (first | decide | assumption | omega)))
    | fail)
  all_goals subst hE
  all_goals (try simp only [NatCast.natCast, Int.ofNat_eq_natCast, realE, cmp_eql, cmp_neq, cmp_lss, cmp_leq, cmp_gtr, cmp_geq, intBinR, SI.val, SB.val, Num.eta, Iv.eta] at *)
  all_goals subst hr
  all_goals (simp_all only [awk1, awk2, awk3, decide_true, Bool.not_false, beq_self_eq_true, Bool.and_self, Bool.true_and, Bool.and_true, reduceCtorEq])

end Go.Proofs.YtoghalnnmhpfmaaGreat.Ev

/- Contracts: the laws of what is left of the operands of squares, roots and opposites, and of products and quotients. Printed by gen.py. -/
namespace Go.Proofs.YtoghalnnmhpfmaaGreat.Ev
open Go Go.Proofs
set_option linter.unusedVariables false
set_option linter.unusedSimpArgs false

set_option maxRecDepth 10000 in
theorem c_BackRoots (z : Iv) (hz : z.fit) (x : Iv) (hx : x.fit) : ∃ t : Bool, t = true ∧ CallsA Tryz.prog 4 [z.av, x.av] (.bool (.s t)) := by
  refine ⟨_, rfl, ?_⟩
  refine callsA_of hG hm Tryz.func4 (by kernel_rfl) ?_
  intro E hE lp hl'
  cbv
  (apply E_callX hE (c_awakeB); (case hf => rfl); (case hc => (cbv <;> trivial)); (case hle => exact u_up); all_goals (first | (intro u hu; cbv) | (assumption)))
  refine E_br_t hE hu ?_
  cbv
  (apply E_pcallX hE (k_bkSqr ⟨_, ⟨_, _, _, _⟩, ⟨_, _, _, _⟩⟩ ?_ ⟨_, ⟨_, _, _, _⟩, ⟨_, _, _, _⟩⟩ ?_); (case hm => rfl); (case hle => exact u_up); all_goals (first | (rintro m1 ⟨hm1, om1⟩; cbv) | (first | exact hz | exact hx)))
  (apply E_pcallX hE (c_r10Sqr ⟨_, ⟨_, _, _, _⟩, ⟨_, _, _, _⟩⟩ ?_ ⟨_, ⟨_, _, _, _⟩, ⟨_, _, _, _⟩⟩ ?_); (case hm => rfl); (case hle => exact u_up); all_goals (first | (intro n1 hn1; cbv) | (first | exact hz | exact hx)))
  refine E_br_t hE ((ivEq_of hE m1 n1).trans (decide_eq_true (hm1.trans hn1.symm))) ?_
  cbv
  clear hm1 hn1
  (apply E_pcallX hE (k_bkRoot ⟨_, ⟨_, _, _, _⟩, ⟨_, _, _, _⟩⟩ ?_ ⟨_, ⟨_, _, _, _⟩, ⟨_, _, _, _⟩⟩ ?_); (case hm => rfl); (case hle => exact u_up); all_goals (first | (rintro m2 ⟨hm2, om2⟩; cbv) | (first | exact hz | exact hx)))
  (apply E_pcallX hE (c_r10Root ⟨_, ⟨_, _, _, _⟩, ⟨_, _, _, _⟩⟩ ?_ ⟨_, ⟨_, _, _, _⟩, ⟨_, _, _, _⟩⟩ ?_); (case hm => rfl); (case hle => exact u_up); all_goals (first | (intro n2 hn2; cbv) | (first | exact hz | exact hx)))
  refine E_br_t hE ((ivEq_of hE m2 n2).trans (decide_eq_true (hm2.trans hn2.symm))) ?_
  cbv
  clear hm2 hn2
  (apply E_pcallX hE (k_bkNeg ⟨_, ⟨_, _, _, _⟩, ⟨_, _, _, _⟩⟩ ?_ ⟨_, ⟨_, _, _, _⟩, ⟨_, _, _, _⟩⟩ ?_); (case hm => rfl); (case hle => exact u_up); all_goals (first | (rintro m3 ⟨hm3, om3⟩; cbv) | (first | exact hz | exact hx)))
  (apply E_pcallX hE (c_r10Neg ⟨_, ⟨_, _, _, _⟩, ⟨_, _, _, _⟩⟩ ?_ ⟨_, ⟨_, _, _, _⟩, ⟨_, _, _, _⟩⟩ ?_); (case hm => rfl); (case hle => exact u_up); all_goals (first | (intro n3 hn3; cbv) | (first | exact hz | exact hx)))
  exact (ivEq_of hE m3 n3).trans (decide_eq_true (hm3.trans hn3.symm))

end Go.Proofs.YtoghalnnmhpfmaaGreat.Ev

/- How far from nought the exponents of sums are: plain Lean. -/
namespace Go.Proofs.YtoghalnnmhpfmaaGreat.Ev
open Go

/-- of an exponent that is not farther than that from nought, if any -/
def Num.nearB (B : Int) (n : Num) : Prop := n.kind = 1 → -B ≤ n.e ∧ n.e ≤ B
theorem Num.nearB.mono {B C : Int} {n : Num} (h : n.nearB B) (hc : B ≤ C) : n.nearB C := fun k => by have := h k; omega
def Iv.nearB (B : Int) (x : Iv) : Prop := x.lo.nearB B ∧ x.hi.nearB B
theorem Iv.nearB.mono {B C : Int} {x : Iv} (h : x.nearB B) (hc : B ≤ C) : x.nearB C := ⟨h.1.mono hc, h.2.mono hc⟩
def Num.few (n : Num) : Bool := decide (n.kind ≠ 1) || (decide (-1500 ≤ n.e) && decide (n.e ≤ 1500))
def Iv.few (x : Iv) : Bool := x.lo.few && x.hi.few
end Go.Proofs.YtoghalnnmhpfmaaGreat.Ev

/- Contracts of the reference: what is left of the operands of sums. Printed by gen.py. -/
namespace Go.Proofs.YtoghalnnmhpfmaaGreat.Ev
open Go Go.Proofs
set_option linter.unusedVariables false
set_option linter.unusedSimpArgs false

end Go.Proofs.YtoghalnnmhpfmaaGreat.Ev

/- Contracts: are exponents near nought? Printed by gen.py. -/
namespace Go.Proofs.YtoghalnnmhpfmaaGreat.Ev
open Go Go.Proofs
set_option linter.unusedVariables false
set_option linter.unusedSimpArgs false

end Go.Proofs.YtoghalnnmhpfmaaGreat.Ev

/- Contracts: the law of what is left of the operands of sums and differences. Printed by gen.py. -/
namespace Go.Proofs.YtoghalnnmhpfmaaGreat.Ev
open Go Go.Proofs
set_option linter.unusedVariables false
set_option linter.unusedSimpArgs false

end Go.Proofs.YtoghalnnmhpfmaaGreat.Ev
