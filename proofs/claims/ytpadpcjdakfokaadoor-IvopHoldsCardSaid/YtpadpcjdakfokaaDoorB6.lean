/- Texts of the proof, joined: Pu33 Pu35 Pu36 Pu37 Br9 Br10 Br12 Br6 Br14 Pu44 D8 R30 D9 Rd -/
import Derived.Test.YtpadpcjdakfokaaDoorB5
import Derived.ChangeArms
import Derived.ProofKit
import Derived.RowKit
import Derived.Carry
set_option linter.unusedVariables false
set_option linter.unusedSimpArgs false

/- Quotients of parts are parts: plain Lean. -/
namespace Go.Proofs.YtpadpcjdakfokaaDoor.Ev
open Go

theorem Iv.bad_or_real {a : Iv} (h : a.lo.ok ∧ a.hi.ok) : a.bad = true ∨ a.Real := by
  cases e : a.bad with
  | true => exact .inl rfl
  | false => exact .inr (Iv.real_of_good e h.1 h.2)

end Go.Proofs.YtpadpcjdakfokaaDoor.Ev

/- What two intervals have together, and their hull, by values: plain Lean. -/
namespace Go.Proofs.YtpadpcjdakfokaaDoor.Ev
open Go

/-- empty, or a part -/
def Iv.In (a c : Iv) : Prop := a.bad = true ∨ Iv.Part a c
theorem Iv.In.within {a c : Iv} (h : Iv.In a c) : a.within c = true := by
  rcases h with h | h
  · unfold Iv.within; rw [Iv.fair_empty, h]; rfl
  · exact h.within
theorem Iv.In.trans {a b c : Iv} (h : Iv.In a b) (g : Iv.In b c) : Iv.In a c := by
  rcases h with h | h
  · exact .inl h
  · rcases g with g | g
    · rw [h.rc.good] at g; cases g
    · have := h.lo
      have := h.hi
      have := g.lo
      have := g.hi
      exact .inr ⟨h.ra, g.rc, by omega, by omega⟩
theorem Iv.In.none {c : Iv} : Iv.In Iv.none c := .inl Iv.none_bad
theorem Iv.Real.self {a : Iv} (r : a.Real) : Iv.Part a a := ⟨r, r, Int.le_refl _, Int.le_refl _⟩
theorem Iv.goods_two {x y : Iv} (rx : x.Real) (ry : y.Real) : Iv.goods [x, y] = [x, y] := by
  simp only [Iv.goods, rx.fair, ry.fair, rx.some, ry.some]
  rw [if_neg (by decide), if_neg (by decide)]
theorem Iv.most_two {a b : Num} (ma : a.may = true) (mb : b.may = true) (oa : a.ok) (ob : b.ok) : (Num.most [a, b]).may = true ∧ (Num.most [a, b]).ok ∧ a.val ≤ (Num.most [a, b]).val ∧ b.val ≤ (Num.most [a, b]).val ∧ (Num.most [a, b] = a ∨ Num.most [a, b] = b) := by
  have s := Num.most_spec [a, b] (by simp; exact ⟨oa, ob⟩)
  have k1 := s.2.2.1 a (by simp)
  have k2 := s.2.2.1 b (by simp)
  rw [Num.may_fair ma] at k1
  rw [Num.may_fair mb] at k2
  refine ⟨s.1, s.2.1, k1, k2, ?_⟩
  rcases s.2.2.2 with e | ⟨x, hx, e⟩
  · left
    refine Num.val_inj s.1 ma s.2.1 oa ?_
    have := (Num.val_le ma oa).1
    rw [e, Num.val_inf] at k1 ⊢; simp at k1 ⊢; omega
  · simp only [List.mem_cons, List.not_mem_nil, or_false] at hx
    rcases hx with rfl | rfl
    · left; rw [e, Num.may_fair ma]
    · right; rw [e, Num.may_fair mb]
theorem Iv.least_two {a b : Num} (ma : a.may = true) (mb : b.may = true) (oa : a.ok) (ob : b.ok) : (Num.least [a, b]).may = true ∧ (Num.least [a, b]).ok ∧ (Num.least [a, b]).val ≤ a.val ∧ (Num.least [a, b]).val ≤ b.val ∧ (Num.least [a, b] = a ∨ Num.least [a, b] = b) := by
  have s := Num.least_spec [a, b] (by simp; exact ⟨oa, ob⟩)
  have k1 := s.2.2.1 a (by simp)
  have k2 := s.2.2.1 b (by simp)
  rw [Num.may_fair ma] at k1
  rw [Num.may_fair mb] at k2
  refine ⟨s.1, s.2.1, k1, k2, ?_⟩
  rcases s.2.2.2 with e | ⟨x, hx, e⟩
  · left
    refine Num.val_inj s.1 ma s.2.1 oa ?_
    have := (Num.val_le ma oa).2
    rw [e, Num.val_inf] at k1 ⊢; simp at k1 ⊢; omega
  · simp only [List.mem_cons, List.not_mem_nil, or_false] at hx
    rcases hx with rfl | rfl
    · left; rw [e, Num.may_fair ma]
    · right; rw [e, Num.may_fair mb]
theorem Iv.meet_real {x y : Iv} (rx : x.Real) (ry : y.Real) : Iv.meet [x, y] = Iv.make (Num.most [x.lo, y.lo]) (Num.least [x.hi, y.hi]) := by
  have ag : Iv.allGood [x, y] = true := by
    simp only [Iv.allGood, List.all_cons, List.all_nil, Iv.fair_empty, rx.good, ry.good]; decide
  unfold Iv.meet Iv.los Iv.his
  rw [if_pos ag, Iv.goods_two rx ry]; rfl
theorem Iv.meet_one {x : Iv} (h : x.lo.ok ∧ x.hi.ok) : Iv.meet [x] = x.fair := by
  rcases Iv.bad_or_real h with b | r
  · have ag : Iv.allGood [x] = false := by
      simp only [Iv.allGood, List.all_cons, List.all_nil, Iv.fair_empty, b]; decide
    unfold Iv.meet
    rw [if_neg (by rw [ag]; decide)]
    unfold Iv.bad at b
    unfold Iv.fair
    cases hm : x.may with
    | false => rfl
    | true =>
      rw [hm] at b
      simp at b
      rw [if_pos rfl]; exact (Iv.empty_may hm b).symm
  · have ag : Iv.allGood [x] = true := by
      simp only [Iv.allGood, List.all_cons, List.all_nil, Iv.fair_empty, r.good]; decide
    have g : Iv.goods [x] = [x] := by simp only [Iv.goods, r.fair, r.some]; rw [if_neg (by decide)]
    have e1 : Num.most [x.lo] = x.lo := by
      have s := Num.most_spec [x.lo] (by simp; exact r.loo)
      have k1 := s.2.2.1 x.lo (by simp)
      rw [Num.may_fair r.lom] at k1
      refine Num.val_inj s.1 r.lom s.2.1 r.loo ?_
      rcases s.2.2.2 with e | ⟨z, hz, e⟩
      · have := (Num.val_le r.lom r.loo).1
        rw [e, Num.val_inf] at k1 ⊢; simp at k1 ⊢; omega
      · simp at hz; subst hz; rw [e, Num.may_fair r.lom]
    have e2 : Num.least [x.hi] = x.hi := by
      have s := Num.least_spec [x.hi] (by simp; exact r.hio)
      have k1 := s.2.2.1 x.hi (by simp)
      rw [Num.may_fair r.him] at k1
      refine Num.val_inj s.1 r.him s.2.1 r.hio ?_
      rcases s.2.2.2 with e | ⟨z, hz, e⟩
      · have := (Num.val_le r.him r.hio).2
        rw [e, Num.val_inf] at k1 ⊢; simp at k1 ⊢; omega
      · simp at hz; subst hz; rw [e, Num.may_fair r.him]
    have : Iv.meet [x] = Iv.make (Num.most [x.lo]) (Num.least [x.hi]) := by
      unfold Iv.meet Iv.los Iv.his
      rw [if_pos ag, g]; rfl
    rw [this, e1, e2, r.fair, Iv.make_real (by rw [Num.may_fair r.lom, Num.may_fair r.him]; exact ⟨rfl, r.lom, r.him, r.loo, r.hio, r.le, r.lt, r.gt⟩), Num.may_fair r.lom, Num.may_fair r.him]
    have := r.some
    cases x; simp_all
theorem Iv.meet_one_real {x : Iv} (r : x.Real) : Iv.meet [x] = x := by rw [Iv.meet_one ⟨r.loo, r.hio⟩, r.fair]
end Go.Proofs.YtpadpcjdakfokaaDoor.Ev

/- What is left of operands, as functions of values; what is left is within what was there, and of an empty result nothing is left: plain Lean. -/
namespace Go.Proofs.YtpadpcjdakfokaaDoor.Ev
open Go

/-- an interval, and whether it has nought -/
structure Opd where
  iv : Iv
  nought : Bool
def Opd.of (x : Iv) : Opd := ⟨Iv.meet [x], Iv.has x Num.zero⟩
def Opd.part (x z y : Opd) : Opd := if (z.nought && y.nought) = true then x else Opd.of (Iv.meet [x.iv, Iv.div z.iv y.iv])
/-- the divisor, but for the point nought -/
def Opd.by (y : Iv) : Opd := if (Opd.of y).iv = Iv.point Num.zero then Opd.of Iv.none else Opd.of y
def Opd.top (z x y : Iv) : Opd := Opd.of (Iv.meet [x, Iv.mul (Opd.of z).iv (Opd.by y).iv])
abbrev Iv.fit (x : Iv) : Prop := x.lo.ok ∧ x.hi.ok
end Go.Proofs.YtpadpcjdakfokaaDoor.Ev

/- What an operation makes just of a number of a result is left: plain Lean. -/
namespace Go.Proofs.YtpadpcjdakfokaaDoor.Ev
open Go

/-- an interval holds a value -/
structure Holds (x : Iv) (v : Int) : Prop where
  r : x.Real
  lo : x.lo.val ≤ v
  hi : v ≤ x.hi.val
/-- ... of any size, scaled -/
structure Spans (x : Iv) (t : Int) : Prop where
  r : x.Real
  lo : x.lo.below t
  hi : x.hi.above t
abbrev Small (v : Int) : Prop := -pw 1048640 < v ∧ v < pw 1048640
theorem holds_of_has {x : Iv} {m : Num} (hm : m.ok) (h : x.fit) (k : Iv.has x m = true) : Holds x m.fair.val ∧ Small m.fair.val ∧ m.fair.kind ≠ 2 := by
  obtain ⟨k1, k2, k3, k4⟩ := (Iv.has_iff hm h.1 h.2).1 k
  exact ⟨⟨k2, k3, k4⟩, (Num.fin_val m.fair_may (Num.fair_ok hm)).1 k1, k1⟩
theorem Num.below_of {n : Num} {t : Int} (m : n.may = true) (o : n.ok) (h : n.val < pw 1048640) (g : n.val * pw 0 ≤ t) : n.below t := by
  by_cases k : n.kind = 2
  · rcases Num.inf_val m o k with j | j
    · exact .inl (by rw [Num.inf_of m o k, j.1])
    · omega
  · exact .inr ⟨k, g⟩
theorem Num.above_of {n : Num} {t : Int} (m : n.may = true) (o : n.ok) (h : -pw 1048640 < n.val) (g : t ≤ n.val * pw 0) : n.above t := by
  by_cases k : n.kind = 2
  · rcases Num.inf_val m o k with j | j
    · omega
    · exact .inl (by rw [Num.inf_of m o k, j.1])
  · exact .inr ⟨k, g⟩
theorem Holds.spans {x : Iv} {v : Int} (h : Holds x v) : Spans x (v * pw 0) :=
  ⟨h.r, Num.below_of h.r.lom h.r.loo h.r.lt (Int.mul_le_mul_of_nonneg_right h.lo (Int.le_of_lt (pw_pos 0))), Num.above_of h.r.him h.r.hio h.r.gt (Int.mul_le_mul_of_nonneg_right h.hi (Int.le_of_lt (pw_pos 0)))⟩
theorem Spans.part {a c : Iv} {t : Int} (h : Spans a t) (P : Iv.Part a c) : Spans c t := by
  have p0 := pw_pos 0
  have l := P.lo
  have g := P.hi
  refine ⟨P.rc, ?_, ?_⟩
  · rcases h.lo with e | ⟨-, e⟩
    · left
      refine Num.val_inj P.rc.lom (Num.inf_may _) P.rc.loo (Num.inf_ok _) ?_
      have := (Num.val_le P.rc.lom P.rc.loo).1
      rw [e, Num.val_inf] at l
      rw [Num.val_inf]; simp at l ⊢; omega
    · have := Int.mul_le_mul_of_nonneg_right l (Int.le_of_lt p0)
      exact Num.below_of P.rc.lom P.rc.loo P.rc.lt (by omega)
  · rcases h.hi with e | ⟨-, e⟩
    · left
      refine Num.val_inj P.rc.him (Num.inf_may _) P.rc.hio (Num.inf_ok _) ?_
      have := (Num.val_le P.rc.him P.rc.hio).2
      rw [e, Num.val_inf] at g
      rw [Num.val_inf]; simp at g ⊢; omega
    · have := Int.mul_le_mul_of_nonneg_right g (Int.le_of_lt p0)
      exact Num.above_of P.rc.him P.rc.hio P.rc.gt (by omega)
theorem Spans.within {a c : Iv} {t : Int} (h : Spans a t) (hc : c.fit) (w : a.within c = true) : Spans c t := by
  rcases Iv.within_part ⟨h.r.loo, h.r.hio⟩ hc w with b | P
  · rw [h.r.good] at b; cases b
  · exact h.part P
theorem Spans.neg {x : Iv} {t : Int} (h : Spans x t) : Spans (Iv.neg x) (-t) := by
  rw [Iv.neg_real h.r]
  have r := h.r.neg
  have vh : x.hi.opp.val = -x.hi.val := by rw [Num.opp_val, Num.may_fair h.r.him]
  have vl : x.lo.opp.val = -x.lo.val := by rw [Num.opp_val, Num.may_fair h.r.lom]
  refine ⟨r, ?_, ?_⟩
  · show x.hi.opp.below (-t)
    rcases h.hi with e | ⟨-, e⟩
    · left; rw [e]; exact Num.opp_inf _
    · exact Num.below_of r.lom r.loo r.lt (by show x.hi.opp.val * pw 0 ≤ _; rw [vh, Int.neg_mul]; omega)
  · show x.lo.opp.above (-t)
    rcases h.lo with e | ⟨-, e⟩
    · left; rw [e]; exact Num.opp_inf _
    · exact Num.above_of r.him r.hio r.gt (by show _ ≤ x.lo.opp.val * pw 0; rw [vl, Int.neg_mul]; omega)
theorem Holds.neg {x : Iv} {v : Int} (h : Holds x v) : Holds (Iv.neg x) (-v) := by
  rw [Iv.neg_real h.r]
  have l := h.lo
  have g := h.hi
  exact ⟨h.r.neg, by show x.hi.opp.val ≤ -v; rw [Num.opp_val, Num.may_fair h.r.him]; omega, by show -v ≤ x.lo.opp.val; rw [Num.opp_val, Num.may_fair h.r.lom]; omega⟩
theorem make_holds {l u : Num} {v : Int} (ml : l.may = true) (mu : u.may = true) (ol : l.ok) (ou : u.ok) (h1 : l.val ≤ v) (h2 : v ≤ u.val) (s : Small v) : Holds (Iv.make l u) v := by
  have R : (Iv.mk false l u).Real := ⟨rfl, ml, mu, ol, ou, by show l.val ≤ u.val; omega, by show l.val < _; have := s.2; omega, by show _ < u.val; have := s.1; omega⟩
  rw [Iv.make_real (by rw [Num.may_fair ml, Num.may_fair mu]; exact R), Num.may_fair ml, Num.may_fair mu]
  exact ⟨R, h1, h2⟩
theorem Num.add_lo {a b : Num} {t : Int} (ma : a.may = true) (mb : b.may = true) (oa : a.ok) (ob : b.ok) (na : a.val < pw 1048640) (nb : b.val < pw 1048640) (ht : -pw 1048640 < t) (h : a = Num.inf true ∨ a.val + b.val ≤ t) : (Num.add a b false).val ≤ t := by
  by_cases ka : a.kind = 2
  · have e : a = Num.inf true := by
      rcases Num.inf_val ma oa ka with j | j
      · rw [Num.inf_of ma oa ka, j.1]
      · omega
    rw [Num.add_inf false (by rw [Num.may_fair ma]; exact ka), Num.may_fair ma, Num.may_fair mb]
    have n : ¬ (b.kind = 2 ∧ a.neg ≠ b.neg) := by
      rintro ⟨k, d⟩
      rcases Num.inf_val mb ob k with j | j
      · rw [e, j.1] at d; exact d rfl
      · omega
    rw [if_neg n, e, Num.val_inf]; simp; omega
  · by_cases kb : b.kind = 2
    · have e : b = Num.inf true := by
        rcases Num.inf_val mb ob kb with j | j
        · rw [Num.inf_of mb ob kb, j.1]
        · omega
      rw [Num.add_inf2 oa ob false (by rw [Num.may_fair mb]; exact kb), Num.may_fair ma, Num.may_fair mb, if_neg (fun k => ka k.1), e, Num.val_inf]; simp; omega
    · have B := add_best oa ob (by rw [Num.may_fair ma]; exact ka) (by rw [Num.may_fair mb]; exact kb) false
      rw [Num.may_fair ma, Num.may_fair mb] at B
      rcases (B.down rfl).2 with e | e
      · rw [e, Num.val_inf]; simp; omega
      · rcases h with h | h
        · rw [h] at ka; exact absurd rfl ka
        · omega
theorem Num.add_hi {a b : Num} {t : Int} (ma : a.may = true) (mb : b.may = true) (oa : a.ok) (ob : b.ok) (na : -pw 1048640 < a.val) (nb : -pw 1048640 < b.val) (ht : t < pw 1048640) (h : a = Num.inf false ∨ t ≤ a.val + b.val) : t ≤ (Num.add a b true).val := by
  have va : a.opp.val = -a.val := by rw [Num.opp_val, Num.may_fair ma]
  have vb : b.opp.val = -b.val := by rw [Num.opp_val, Num.may_fair mb]
  have k := Num.add_lo (t := -t) (Num.opp_may a) (Num.opp_may b) (Num.opp_ok oa) (Num.opp_ok ob) (by omega) (by omega) (by omega) (h.imp (fun e => by rw [e]; exact Num.opp_inf _) (fun e => by omega))
  have e := Num.add_opp oa ob true
  rw [show (!true) = false from rfl] at e
  rw [e, Num.opp_val, Num.may_fair (Num.add_may oa ob true)] at k
  omega
/-- What spans one and what holds another one: their sum holds both together. -/
theorem Spans.add {x y : Iv} {s v w : Int} (h : Spans x (s * pw 0)) (g : Holds y w) (e : v = s + w) (k : Small v) : Holds (Iv.add [x, y]) v := by
  have p0 := pw_pos 0
  rw [Iv.add2_eq, h.r.good, g.r.good]
  simp only [Bool.or_self, Bool.false_eq_true, if_false]
  have l := g.lo
  have u := g.hi
  refine make_holds (Num.add_may h.r.loo g.r.loo _) (Num.add_may h.r.hio g.r.hio _) (Num.add_ok h.r.loo g.r.loo _) (Num.add_ok h.r.hio g.r.hio _) ?_ ?_ k
  · refine Num.add_lo h.r.lom g.r.lom h.r.loo g.r.loo h.r.lt g.r.lt k.1 ?_
    rcases h.lo with q | ⟨-, q⟩
    · exact .inl q
    · right
      have := Int.le_of_mul_le_mul_right q p0
      omega
  · refine Num.add_hi h.r.him g.r.him h.r.hio g.r.hio h.r.gt g.r.gt k.2 ?_
    rcases h.hi with q | ⟨-, q⟩
    · exact .inl q
    · right
      have := Int.le_of_mul_le_mul_right q p0
      omega
theorem Spans.sub {x y : Iv} {s v w : Int} (h : Spans x (s * pw 0)) (g : Holds y w) (e : v = s - w) (k : Small v) : Holds (Iv.sub x y) v := h.add g.neg (by omega) k
/-- ... and the other way round -/
theorem Spans.from {x y : Iv} {s v w : Int} (h : Spans x (s * pw 0)) (g : Holds y w) (e : v = w - s) (k : Small v) : Holds (Iv.sub y x) v := by
  have n := h.neg
  rw [← Int.neg_mul] at n
  have a := n.add g (by omega) k
  unfold Iv.sub
  rwa [Iv.add2_comm ⟨g.r.loo, g.r.hio⟩ (Iv.neg_ok h.r.loo h.r.hio)]
theorem Holds.meet {x y : Iv} {v : Int} (h : Holds x v) (g : Holds y v) (k : Small v) : Holds (Iv.meet [x, y]) v := by
  obtain ⟨m1, m2, -, -, m5⟩ := Iv.most_two h.r.lom g.r.lom h.r.loo g.r.loo
  obtain ⟨l1, l2, -, -, l5⟩ := Iv.least_two h.r.him g.r.him h.r.hio g.r.hio
  rw [Iv.meet_real h.r g.r]
  refine make_holds m1 l1 m2 l2 ?_ ?_ k
  · rcases m5 with e | e <;> rw [e]
    · exact h.lo
    · exact g.lo
  · rcases l5 with e | e <;> rw [e]
    · exact h.hi
    · exact g.hi

theorem Holds.of {x : Iv} {v : Int} (h : Holds x v) : Holds (Opd.of x).iv v := by
  show Holds (Iv.meet [x]) v
  rw [Iv.meet_one_real h.r]; exact h
theorem Spans.of {x : Iv} {t : Int} (h : Spans x t) : Spans (Opd.of x).iv t := by
  show Spans (Iv.meet [x]) t
  rw [Iv.meet_one_real h.r]; exact h
theorem best_spans0 {d u : Num} {t : Int} (D : Best d false t (pw 0)) (U : Best u true t (pw 0)) : Spans (Iv.make d u) t := by
  have p0 := pw_pos 0
  have le := D.le U p0
  obtain ⟨d1, d2⟩ := D.down rfl
  obtain ⟨u1, u2⟩ := U.hi rfl
  have dv := (Num.ne_inf D.may D.ok).1.1 d1
  have uv := (Num.ne_inf U.may U.ok).2.1 u1
  have R : (Iv.mk false d u).Real := ⟨rfl, D.may, U.may, D.ok, U.ok, le, dv, uv⟩
  rw [Iv.make_real (by rw [Num.may_fair D.may, Num.may_fair U.may]; exact R), Num.may_fair D.may, Num.may_fair U.may]
  refine ⟨R, ?_, ?_⟩
  · rcases d2 with e | e
    · exact .inl e
    · exact Num.below_of D.may D.ok dv e
  · rcases u2 with e | e
    · exact .inl e
    · exact Num.above_of U.may U.ok uv e

end Go.Proofs.YtpadpcjdakfokaaDoor.Ev

/- The reference's order of numbers is the program's: plain Lean. -/
namespace Go.Proofs.YtpadpcjdakfokaaDoor.Ev
open Go

end Go.Proofs.YtpadpcjdakfokaaDoor.Ev

/- The reference's intervals are the program's: plain Lean. -/
namespace Go.Proofs.YtpadpcjdakfokaaDoor.Ev
open Go

end Go.Proofs.YtpadpcjdakfokaaDoor.Ev

/- The reference's sums, roots and what two intervals have are the program's: plain Lean. -/
namespace Go.Proofs.YtpadpcjdakfokaaDoor.Ev
open Go

end Go.Proofs.YtpadpcjdakfokaaDoor.Ev

/- The reference's quotients are the program's: plain Lean. -/
namespace Go.Proofs.YtpadpcjdakfokaaDoor.Ev
open Go

end Go.Proofs.YtpadpcjdakfokaaDoor.Ev

/- How far from nought the exponents of sums are: plain Lean. -/
namespace Go.Proofs.YtpadpcjdakfokaaDoor.Ev
open Go

/-- of an exponent that is not farther than that from nought, if any -/
def Num.nearB (B : Int) (n : Num) : Prop := n.kind = 1 → -B ≤ n.e ∧ n.e ≤ B
theorem Num.nearB.mono {B C : Int} {n : Num} (h : n.nearB B) (hc : B ≤ C) : n.nearB C := fun k => by have := h k; omega
def Iv.nearB (B : Int) (x : Iv) : Prop := x.lo.nearB B ∧ x.hi.nearB B
theorem Iv.nearB.mono {B C : Int} {x : Iv} (h : x.nearB B) (hc : B ≤ C) : x.nearB C := ⟨h.1.mono hc, h.2.mono hc⟩
def Num.few (n : Num) : Bool := decide (n.kind ≠ 1) || (decide (-1500 ≤ n.e) && decide (n.e ≤ 1500))
def Iv.few (x : Iv) : Bool := x.lo.few && x.hi.few
end Go.Proofs.YtpadpcjdakfokaaDoor.Ev

/- Exact sums, differences, products and squares of numbers of intervals are within what is made of these: plain Lean. -/
namespace Go.Proofs.YtpadpcjdakfokaaDoor.Ev
open Go
set_option linter.unusedVariables false
set_option linter.unusedSimpArgs false

theorem point_part {a : Iv} {x : Num} (m : x.may = true) (o : x.ok) (k : x.kind ≠ 2) (h : Holds a x.val) : Iv.Part (Iv.point x) a := by
  obtain ⟨e, r⟩ := Iv.point_real m o k
  rw [e]
  exact ⟨r, h.r, h.lo, h.hi⟩
theorem spans_mul {a b : Iv} {x y : Num} (mx : x.may = true) (ox : x.ok) (kx : x.kind ≠ 2) (my : y.may = true) (oy : y.ok) (ky : y.kind ≠ 2) (hx : Holds a x.val) (hy : Holds b y.val) : Spans (Iv.mul a b) (x.val * y.val) := by
  obtain ⟨r, l, u⟩ := Iv.mul_points mx my ox oy kx ky
  have fit : (Iv.mul a b).fit := Iv.mul_ok hx.r.loo hx.r.hio hy.r.loo hy.r.hio
  exact Spans.within ⟨r, l, u⟩ fit (Iv.mul_within (.inr (point_part mx ox kx hx)) (.inr (point_part my oy ky hy)))
theorem spans_sqr {a : Iv} {x : Num} (mx : x.may = true) (ox : x.ok) (kx : x.kind ≠ 2) (hx : Holds a x.val) : Spans (Iv.sqr a) (x.val * x.val) := by
  obtain ⟨e, r⟩ := Iv.point_real mx ox kx
  have fx := Num.fair_of_may mx
  have fit : (Iv.sqr a).fit := Iv.sqr_ok ⟨hx.r.loo, hx.r.hio⟩
  have w := Iv.part_sqr (.inr (point_part mx ox kx hx))
  refine Spans.within ?_ fit w
  rw [e, Iv.sqr_of r]
  have B := fun up => mul_best ox ox (by rw [fx]; exact kx) (by rw [fx]; exact kx) up
  have S : Spans (Iv.make (Num.mul x x false) (Num.mul x x true)) (x.val * x.val) := by
    have D := B false
    have U := B true
    rw [fx] at D U
    exact best_spans0 D U
  rcases Iv.abs_cases r with ⟨_, q⟩ | ⟨_, _, q⟩ | ⟨q1, q2, _⟩
  · rw [q]; exact S
  · rw [q]
    show Spans (Iv.make (Num.mul x.opp x.opp false) (Num.mul x.opp x.opp true)) _
    rw [Num.mul_opp_opp ox ox, Num.mul_opp_opp ox ox]
    exact S
  · exfalso
    have q1 : x.val < 0 := q1
    have q2 : 0 < x.val := q2
    omega
theorem few_val {x : Num} (mx : x.may = true) (ox : x.ok) (kx : x.kind ≠ 2) (h : x.few = true) : -pw 1564 < x.val ∧ x.val < pw 1564 := by
  have p := pw_pos 1564
  rcases Num.may3 mx ox with k | k | k
  · rw [k, Num.val_zero]; exact ⟨by omega, p⟩
  · unfold Num.few at h
    rw [k.kind] at h
    simp at h
    have e := pw_mono (e := x.e) (f := 1500) (by omega) h.2
    have pe := pw_pos x.e
    have e2 := pw_64 (e := 1500) (by decide)
    rw [show (1500 : Int) + 64 = 1564 by decide] at e2
    have hi := k.hi
    have lo := k.lo
    have w : x.W < pw 1564 := by
      rw [k.W, e2, Int.mul_comm (pw 1500)]
      exact Int.lt_of_lt_of_le (Int.mul_lt_mul_of_pos_right hi pe) (Int.mul_le_mul_of_nonneg_left e (by decide))
    have w0 : 0 < x.W := by rw [k.W]; exact Int.mul_pos (by omega) pe
    unfold Num.val
    split <;> omega
  · rw [k] at kx; exact absurd rfl kx
theorem small_sum {v w : Int} (h1 : -pw 1564 < v ∧ v < pw 1564) (h2 : -pw 1564 < w ∧ w < pw 1564) : Small (v + w) ∧ Small (v - w) := by
  have e := pw_lt (e := 1564) (f := 1048640) (by decide) (by decide)
  exact ⟨⟨by omega, by omega⟩, ⟨by omega, by omega⟩⟩
theorem spans_add {a b : Iv} {v w : Int} (hx : Holds a v) (hy : Holds b w) (k : Small (v + w)) : Spans (Iv.add [a, b]) ((v + w) * pw 0) := (hx.spans.add hy rfl k).spans
theorem spans_sub {a b : Iv} {v w : Int} (hx : Holds a v) (hy : Holds b w) (k : Small (v - w)) : Spans (Iv.sub a b) ((v - w) * pw 0) := (hx.spans.sub hy rfl k).spans
end Go.Proofs.YtpadpcjdakfokaaDoor.Ev

/- Contract of the ninth chapter's "in": is an exact number within an interval? Printed by gen.py. -/
namespace Go.Proofs.YtpadpcjdakfokaaDoor.Ev
open Go Go.Proofs
set_option linter.unusedVariables false
set_option linter.unusedSimpArgs false

attribute [local irreducible] Lb
theorem num_eq_t {E : Env} (hE : E = realE Tryd.prog) (a b : Num) (h : a = b) : E.band (E.cmp .eql a.kind b.kind) (E.band (E.beq a.neg b.neg) (E.band (E.cmp .eql a.m b.m) (E.cmp .eql a.e b.e))) = true := by
  subst hE; subst h
  simp [realE, cmpR]
theorem exact2 {n : Num} (m : n.may = true) : (n.exact.2 = true → n.kind ≠ 2) ∧ (n.exact.2 = false → n.kind = 2) := by
  unfold Num.exact
  constructor
  · intro h z
    rw [if_pos (.inr z)] at h; cases h
  · intro h
    split at h
    · rename_i k; rcases k with k | k
      · rw [m] at k; cases k
      · exact k
    · split at h <;> cases h
theorem exact_dv {n : Num} (m : n.may = true) (o : n.ok) (k : n.kind ≠ 2) : DyV 1048704 n.exact.1 n.val := by
  have d := exact_dy (x := n) o (by rw [Num.fair_of_may m]; exact k)
  rw [Num.fair_of_may m] at d
  exact DyV.of d
set_option maxHeartbeats 4000000 in
theorem c_in9 (q : Bool × Nat × Int) (v : Int) (D : DyV 2100000 q v) (d : DyT) (hd : d = dyL q) (x : Iv) (S : Spans x (v * pw 0)) : ∃ t : Bool, t = true ∧ CallsA Tryd.prog 17 [.agg [.bool (.s d.1), .sli .u32 d.2.1, .int .i64 (.s d.2.2)], x.av] (.bool (.s t)) := by
  refine ⟨_, rfl, ?_⟩
  have p0 := pw_pos 0
  have lo := S.r.loo
  have ho := S.r.hio
  have L1 : x.lo.exact.2 = true → DyV 2100000 x.lo.exact.1 x.lo.val ∧ x.lo.val ≤ v := by
    intro h
    have k := (exact2 S.r.lom).1 h
    refine ⟨(exact_dv S.r.lom lo k).mono (by decide), ?_⟩
    rcases S.lo with e | ⟨_, e⟩
    · rw [e] at k; exact absurd rfl k
    · exact Int.le_of_mul_le_mul_right e p0
  have L0 : x.lo.exact.2 = false → x.lo = Num.inf true := by
    intro h
    have k := (exact2 S.r.lom).2 h
    rcases S.lo with e | ⟨e, _⟩
    · exact e
    · exact absurd k e
  have H1 : x.hi.exact.2 = true → DyV 2100000 x.hi.exact.1 x.hi.val ∧ v ≤ x.hi.val := by
    intro h
    have k := (exact2 S.r.him).1 h
    refine ⟨(exact_dv S.r.him ho k).mono (by decide), ?_⟩
    rcases S.hi with e | ⟨_, e⟩
    · rw [e] at k; exact absurd rfl k
    · exact Int.le_of_mul_le_mul_right e p0
  have H0 : x.hi.exact.2 = false → x.hi = Num.inf false := by
    intro h
    have k := (exact2 S.r.him).2 h
    rcases S.hi with e | ⟨e, _⟩
    · exact e
    · exact absurd k e
  have se := S.r.some
  clear S
  refine callsA_of hG hm Tryd.func17 (by kernel_rfl) ?_
  intro E hE lp hl'
  cbv
  refine E_br_f hE se ?_; cbv
  (first | (apply E_pcallX hE (c_Exact ⟨_, _, _, _⟩ lo); (case hm => rfl); (case hle => (repeat' (first | exact u_nil | apply u_cons | apply u2_agg | exact u2_int | exact u1_int | exact u2_bool | exact u1_bool | exact u2_sli | exact u1_sli | exact u2_s0 | exact u1_s0))); all_goals (first | (intro a ha; cbv) | (assumption))) | (apply E_callX hE (c_Exact ⟨_, _, _, _⟩ lo); (case hf => rfl); (case hc => (cbv <;> trivial)); (case hle => (repeat' (first | exact u_nil | apply u_cons | apply u2_agg | exact u2_int | exact u1_int | exact u2_bool | exact u1_bool | exact u2_sli | exact u1_sli | exact u2_s0 | exact u1_s0))); all_goals (first | (intro a ha; cbv) | (assumption))))
  have ha1 : a.1 = dyL x.lo.exact.1 := by have k : a = (dyL x.lo.exact.1, x.lo.exact.2) := ha; rw [k]
  have ha2 : a.2 = x.lo.exact.2 := by have k : a = (dyL x.lo.exact.1, x.lo.exact.2) := ha; rw [k]
  (first | (apply E_pcallX hE (c_Exact ⟨_, _, _, _⟩ ho); (case hm => rfl); (case hle => (repeat' (first | exact u_nil | apply u_cons | apply u2_agg | exact u2_int | exact u1_int | exact u2_bool | exact u1_bool | exact u2_sli | exact u1_sli | exact u2_s0 | exact u1_s0))); all_goals (first | (intro b hb; cbv) | (assumption))) | (apply E_callX hE (c_Exact ⟨_, _, _, _⟩ ho); (case hf => rfl); (case hc => (cbv <;> trivial)); (case hle => (repeat' (first | exact u_nil | apply u_cons | apply u2_agg | exact u2_int | exact u1_int | exact u2_bool | exact u1_bool | exact u2_sli | exact u1_sli | exact u2_s0 | exact u1_s0))); all_goals (first | (intro b hb; cbv) | (assumption))))
  have hb1 : b.1 = dyL x.hi.exact.1 := by have k : b = (dyL x.hi.exact.1, x.hi.exact.2) := hb; rw [k]
  have hb2 : b.2 = x.hi.exact.2 := by have k : b = (dyL x.hi.exact.1, x.hi.exact.2) := hb; rw [k]
  clear ha hb
  refine E_br hE (fun g1 => ?_) (fun g1 => ?_) <;> cbv
  · have a2 : a.2 = false := by subst hE; cases k : a.2; rfl; rw [k] at g1; exact absurd g1 (by decide)
    refine E_br hE (fun g2 => ?_) (fun g2 => ?_) <;> cbv
    · have b2 : b.2 = false := by subst hE; cases k : b.2; rfl; rw [k] at g2; exact absurd g2 (by decide)
      refine E_br_f hE a2 ?_; cbv
      (first | (apply E_pcallX hE (c_Inf true); (case hm => rfl); (case hle => (repeat' (first | exact u_nil | apply u_cons | apply u2_agg | exact u2_int | exact u1_int | exact u2_bool | exact u1_bool | exact u2_sli | exact u1_sli | exact u2_s0 | exact u1_s0))); all_goals (first | (intro i1 hi1; cbv) | (assumption))) | (apply E_callX hE (c_Inf true); (case hf => rfl); (case hc => (cbv <;> trivial)); (case hle => (repeat' (first | exact u_nil | apply u_cons | apply u2_agg | exact u2_int | exact u1_int | exact u2_bool | exact u1_bool | exact u2_sli | exact u1_sli | exact u2_s0 | exact u1_s0))); all_goals (first | (intro i1 hi1; cbv) | (assumption))))
      have e1 : x.lo = i1 := by rw [hi1]; exact L0 (ha2.symm.trans a2)
      refine E_br_t hE (num_eq_t hE x.lo i1 e1) ?_; cbv
      refine E_br_f hE b2 ?_; cbv
      (first | (apply E_pcallX hE (c_Inf false); (case hm => rfl); (case hle => (repeat' (first | exact u_nil | apply u_cons | apply u2_agg | exact u2_int | exact u1_int | exact u2_bool | exact u1_bool | exact u2_sli | exact u1_sli | exact u2_s0 | exact u1_s0))); all_goals (first | (intro i2 hi2; cbv) | (assumption))) | (apply E_callX hE (c_Inf false); (case hf => rfl); (case hc => (cbv <;> trivial)); (case hle => (repeat' (first | exact u_nil | apply u_cons | apply u2_agg | exact u2_int | exact u1_int | exact u2_bool | exact u1_bool | exact u2_sli | exact u1_sli | exact u2_s0 | exact u1_s0))); all_goals (first | (intro i2 hi2; cbv) | (assumption))))
      have e2 : x.hi = i2 := by rw [hi2]; exact H0 (hb2.symm.trans b2)
      exact num_eq_t hE x.hi i2 e2
    · have b2 : b.2 = true := by subst hE; cases k : b.2; rw [k] at g2; exact absurd g2 (by decide); rfl
      have M := H1 (hb2.symm.trans b2)
      (first | (apply E_pcallX hE (c_dyCmp 2100000 (by decide) q x.hi.exact.1 _ _ D M.1 d b.1 hd hb1); (case hm => rfl); (case hle => (repeat' (first | exact u_nil | apply u_cons | apply u2_agg | exact u2_int | exact u1_int | exact u2_bool | exact u1_bool | exact u2_sli | exact u1_sli | exact u2_s0 | exact u1_s0))); all_goals (first | (intro c2 hc2; cbv) | (assumption))) | (apply E_callX hE (c_dyCmp 2100000 (by decide) q x.hi.exact.1 _ _ D M.1 d b.1 hd hb1); (case hf => rfl); (case hc => (cbv <;> trivial)); (case hle => (repeat' (first | exact u_nil | apply u_cons | apply u2_agg | exact u2_int | exact u1_int | exact u2_bool | exact u1_bool | exact u2_sli | exact u1_sli | exact u2_s0 | exact u1_s0))); all_goals (first | (intro c2 hc2; cbv) | (assumption))))
      have c2' : E.cmp .leq c2 0 = true := by
        have k : c2 ≤ 0 := by rw [hc2]; split; decide; rw [if_neg (by have := M.2; omega)]; exact Int.le_refl 0
        subst hE; exact decide_eq_true k
      refine E_br_t hE c2' ?_; cbv
      refine E_br_f hE a2 ?_; cbv
      (first | (apply E_pcallX hE (c_Inf true); (case hm => rfl); (case hle => (repeat' (first | exact u_nil | apply u_cons | apply u2_agg | exact u2_int | exact u1_int | exact u2_bool | exact u1_bool | exact u2_sli | exact u1_sli | exact u2_s0 | exact u1_s0))); all_goals (first | (intro i1 hi1; cbv) | (assumption))) | (apply E_callX hE (c_Inf true); (case hf => rfl); (case hc => (cbv <;> trivial)); (case hle => (repeat' (first | exact u_nil | apply u_cons | apply u2_agg | exact u2_int | exact u1_int | exact u2_bool | exact u1_bool | exact u2_sli | exact u1_sli | exact u2_s0 | exact u1_s0))); all_goals (first | (intro i1 hi1; cbv) | (assumption))))
      have e1 : x.lo = i1 := by rw [hi1]; exact L0 (ha2.symm.trans a2)
      refine E_br_t hE (num_eq_t hE x.lo i1 e1) ?_; cbv
      refine E_br_t hE b2 ?_; cbv
  · have a2 : a.2 = true := by subst hE; cases k : a.2; rw [k] at g1; exact absurd g1 (by decide); rfl
    have M1 := L1 (ha2.symm.trans a2)
    (first | (apply E_pcallX hE (c_dyCmp 2100000 (by decide) x.lo.exact.1 q _ _ M1.1 D a.1 d ha1 hd); (case hm => rfl); (case hle => (repeat' (first | exact u_nil | apply u_cons | apply u2_agg | exact u2_int | exact u1_int | exact u2_bool | exact u1_bool | exact u2_sli | exact u1_sli | exact u2_s0 | exact u1_s0))); all_goals (first | (intro c1 hc1; cbv) | (assumption))) | (apply E_callX hE (c_dyCmp 2100000 (by decide) x.lo.exact.1 q _ _ M1.1 D a.1 d ha1 hd); (case hf => rfl); (case hc => (cbv <;> trivial)); (case hle => (repeat' (first | exact u_nil | apply u_cons | apply u2_agg | exact u2_int | exact u1_int | exact u2_bool | exact u1_bool | exact u2_sli | exact u1_sli | exact u2_s0 | exact u1_s0))); all_goals (first | (intro c1 hc1; cbv) | (assumption))))
    have c1' : E.cmp .leq c1 0 = true := by
      have k : c1 ≤ 0 := by rw [hc1]; split; decide; rw [if_neg (by have := M1.2; omega)]; exact Int.le_refl 0
      subst hE; exact decide_eq_true k
    refine E_br_t hE c1' ?_; cbv
    refine E_br hE (fun g2 => ?_) (fun g2 => ?_) <;> cbv
    · have b2 : b.2 = false := by subst hE; cases k : b.2; rfl; rw [k] at g2; exact absurd g2 (by decide)
      refine E_br_t hE a2 ?_; cbv
      refine E_br_f hE b2 ?_; cbv
      (first | (apply E_pcallX hE (c_Inf false); (case hm => rfl); (case hle => (repeat' (first | exact u_nil | apply u_cons | apply u2_agg | exact u2_int | exact u1_int | exact u2_bool | exact u1_bool | exact u2_sli | exact u1_sli | exact u2_s0 | exact u1_s0))); all_goals (first | (intro i2 hi2; cbv) | (assumption))) | (apply E_callX hE (c_Inf false); (case hf => rfl); (case hc => (cbv <;> trivial)); (case hle => (repeat' (first | exact u_nil | apply u_cons | apply u2_agg | exact u2_int | exact u1_int | exact u2_bool | exact u1_bool | exact u2_sli | exact u1_sli | exact u2_s0 | exact u1_s0))); all_goals (first | (intro i2 hi2; cbv) | (assumption))))
      have e2 : x.hi = i2 := by rw [hi2]; exact H0 (hb2.symm.trans b2)
      exact num_eq_t hE x.hi i2 e2
    · have b2 : b.2 = true := by subst hE; cases k : b.2; rw [k] at g2; exact absurd g2 (by decide); rfl
      have M := H1 (hb2.symm.trans b2)
      (first | (apply E_pcallX hE (c_dyCmp 2100000 (by decide) q x.hi.exact.1 _ _ D M.1 d b.1 hd hb1); (case hm => rfl); (case hle => (repeat' (first | exact u_nil | apply u_cons | apply u2_agg | exact u2_int | exact u1_int | exact u2_bool | exact u1_bool | exact u2_sli | exact u1_sli | exact u2_s0 | exact u1_s0))); all_goals (first | (intro c2 hc2; cbv) | (assumption))) | (apply E_callX hE (c_dyCmp 2100000 (by decide) q x.hi.exact.1 _ _ D M.1 d b.1 hd hb1); (case hf => rfl); (case hc => (cbv <;> trivial)); (case hle => (repeat' (first | exact u_nil | apply u_cons | apply u2_agg | exact u2_int | exact u1_int | exact u2_bool | exact u1_bool | exact u2_sli | exact u1_sli | exact u2_s0 | exact u1_s0))); all_goals (first | (intro c2 hc2; cbv) | (assumption))))
      have c2' : E.cmp .leq c2 0 = true := by
        have k : c2 ≤ 0 := by rw [hc2]; split; decide; rw [if_neg (by have := M.2; omega)]; exact Int.le_refl 0
        subst hE; exact decide_eq_true k
      refine E_br_t hE c2' ?_; cbv
      refine E_br_t hE a2 ?_; cbv
      refine E_br_t hE b2 ?_; cbv

end Go.Proofs.YtpadpcjdakfokaaDoor.Ev

/- Contracts: are exponents near nought? Printed by gen.py. -/
namespace Go.Proofs.YtpadpcjdakfokaaDoor.Ev
open Go Go.Proofs
set_option linter.unusedVariables false
set_option linter.unusedSimpArgs false

theorem c_few6 (n : Num)  : ∃ t : Bool, t = n.few ∧ CallsA Tryd.prog 16 [n.av] (.bool (.s t)) := by
  refine ⟨_, rfl, ?_⟩
  generalize hr : n.few = r
  refine callsA_of hG hm Tryd.func16 (by kernel_rfl) ?_
  intro E hE lp hl
  cbv
  repeat' (first
    | (refine E_br hE (fun h => ?_) (fun h => ?_) <;> cbv)
    | (refine E_nm hE (fun v hv => ?_); cbv)
    | fail)
  all_goals (subst hE; subst hr)
  all_goals (try simp only [realE, cmp_eql, cmp_neq, cmp_lss, cmp_leq, cmp_gtr, cmp_geq, intBinR, decide_eq_true_eq, decide_eq_false_iff_not, SI.val, SB.val, Num.eta, Iv.eta] at *)
  all_goals (try simp_all [Num.few])
  all_goals (try omega)
  all_goals (try simp only [Bool.and_assoc])
  all_goals (try rfl)
  all_goals ((repeat' split) <;> (try simp_all) <;> (try omega))

end Go.Proofs.YtpadpcjdakfokaaDoor.Ev

/- Contract of the law IvopHolds: exact sums, differences, products and squares are within. Printed by gen.py. -/
namespace Go.Proofs.YtpadpcjdakfokaaDoor.Ev
open Go Go.Proofs
set_option linter.unusedVariables false
set_option linter.unusedSimpArgs false

attribute [local irreducible] Lb
/-- What the law asks, of numbers that are held. -/
structure Held (a b : Iv) (x y : Num) : Prop where
  dx : DyV 1048704 x.exact.1 x.val
  dy : DyV 1048704 y.exact.1 y.val
  add : Spans (Iv.add [a, b]) ((x.val + y.val) * pw 0)
  sub : Spans (Iv.sub a b) ((x.val + -y.val) * pw 0)
  mul : Spans (Iv.mul a b) (x.val * y.val)
  sqr : Spans (Iv.sqr a) (x.val * x.val)
theorem held {a b : Iv} {x y : Num} (oa : a.fit) (ob : b.fit) (ox : x.ok) (oy : y.ok) (fx : x.few = true) (fy : y.few = true) (hx : a.has x = true) (hy : b.has y = true) (ex : x.exact.2 = true) (ey : y.exact.2 = true) : Held a b x y := by
  have may : ∀ n : Num, n.exact.2 = true → n.may = true := by
    intro n h
    cases q : n.may
    · unfold Num.exact at h; rw [if_pos (.inl q)] at h; cases h
    · rfl
  have mx := may x ex
  have my := may y ey
  have kx := (exact2 mx).1 ex
  have ky := (exact2 my).1 ey
  have Hx := (holds_of_has ox oa hx).1
  have Hy := (holds_of_has oy ob hy).1
  rw [Num.fair_of_may mx] at Hx
  rw [Num.fair_of_may my] at Hy
  have sm := small_sum (few_val mx ox kx fx) (few_val my oy ky fy)
  refine ⟨exact_dv mx ox kx, exact_dv my oy ky, spans_add Hx Hy sm.1, ?_, spans_mul mx ox kx my oy ky Hx Hy, spans_sqr mx ox kx Hx⟩
  have e : x.val + -y.val = x.val - y.val := by omega
  rw [e]
  exact spans_sub Hx Hy sm.2
set_option maxHeartbeats 4000000 in
theorem c_IvopHolds (a b : Iv) (oa : a.lo.ok ∧ a.hi.ok) (ob : b.lo.ok ∧ b.hi.ok) (x : Num) (ox : x.ok) (y : Num) (oy : y.ok) : ∃ t : Bool, t = true ∧ CallsA Tryd.prog 5 [a.av, b.av, x.av, y.av] (.bool (.s t)) := by
  refine ⟨_, rfl, ?_⟩
  have law := held (a := a) (b := b) oa ob ox oy
  have fl : ∀ z ∈ [a, b], z.lo.ok ∧ z.hi.ok := by intro z hz; rcases List.mem_cons.1 hz with e | e; rw [e]; exact oa; rw [List.mem_singleton.1 e]; exact ob
  obtain ⟨oa1, oa2⟩ := oa
  obtain ⟨ob1, ob2⟩ := ob
  refine callsA_of hG hm Tryd.func5 (by kernel_rfl) ?_
  intro E hE lp hl'
  cbv
  (first | (apply E_pcallX hE (c_awake); (case hm => rfl); (case hle => (repeat' (first | exact u_nil | apply u_cons | apply u2_agg | exact u2_int | exact u1_int | exact u2_bool | exact u1_bool | exact u2_sli | exact u1_sli | exact u2_s0 | exact u1_s0))); all_goals (first | (intro up hup; cbv) | (assumption))) | (apply E_callX hE (c_awake); (case hf => rfl); (case hc => (cbv <;> trivial)); (case hle => (repeat' (first | exact u_nil | apply u_cons | apply u2_agg | exact u2_int | exact u1_int | exact u2_bool | exact u1_bool | exact u2_sli | exact u1_sli | exact u2_s0 | exact u1_s0))); all_goals (first | (intro up hup; cbv) | (assumption))))
  (first | (apply E_pcallX hE (c_few6 ⟨_, _, _, _⟩); (case hm => rfl); (case hle => (repeat' (first | exact u_nil | apply u_cons | apply u2_agg | exact u2_int | exact u1_int | exact u2_bool | exact u1_bool | exact u2_sli | exact u1_sli | exact u2_s0 | exact u1_s0))); all_goals (first | (intro p hp; cbv) | (assumption))) | (apply E_callX hE (c_few6 ⟨_, _, _, _⟩); (case hf => rfl); (case hc => (cbv <;> trivial)); (case hle => (repeat' (first | exact u_nil | apply u_cons | apply u2_agg | exact u2_int | exact u1_int | exact u2_bool | exact u1_bool | exact u2_sli | exact u1_sli | exact u2_s0 | exact u1_s0))); all_goals (first | (intro p hp; cbv) | (assumption))))
  (first | (apply E_pcallX hE (c_few6 ⟨_, _, _, _⟩); (case hm => rfl); (case hle => (repeat' (first | exact u_nil | apply u_cons | apply u2_agg | exact u2_int | exact u1_int | exact u2_bool | exact u1_bool | exact u2_sli | exact u1_sli | exact u2_s0 | exact u1_s0))); all_goals (first | (intro q hq; cbv) | (assumption))) | (apply E_callX hE (c_few6 ⟨_, _, _, _⟩); (case hf => rfl); (case hc => (cbv <;> trivial)); (case hle => (repeat' (first | exact u_nil | apply u_cons | apply u2_agg | exact u2_int | exact u1_int | exact u2_bool | exact u1_bool | exact u2_sli | exact u1_sli | exact u2_s0 | exact u1_s0))); all_goals (first | (intro q hq; cbv) | (assumption))))
  have b0 : E.bnot up = false := by subst hE; rw [hup]; rfl
  refine E_br_f hE b0 ?_; cbv
  have ff : ∀ t : Bool, E.bnot t = false → t = true := by intro t h; subst hE; cases t; exact absurd h (by decide); rfl
  refine E_br hE (fun g1 => ?_) (fun g1 => ?_) <;> cbv
  · exact hup
  refine E_br hE (fun g2 => ?_) (fun g2 => ?_) <;> cbv
  · exact hup
  (first | (apply E_pcallX hE (c_ivHas ⟨_, ⟨_, _, _, _⟩, ⟨_, _, _, _⟩⟩ ⟨_, _, _, _⟩); (case hm => rfl); (case hle => (repeat' (first | exact u_nil | apply u_cons | apply u2_agg | exact u2_int | exact u1_int | exact u2_bool | exact u1_bool | exact u2_sli | exact u1_sli | exact u2_s0 | exact u1_s0))); all_goals (first | (intro h1 hh1; cbv) | (assumption))) | (apply E_callX hE (c_ivHas ⟨_, ⟨_, _, _, _⟩, ⟨_, _, _, _⟩⟩ ⟨_, _, _, _⟩); (case hf => rfl); (case hc => (cbv <;> trivial)); (case hle => (repeat' (first | exact u_nil | apply u_cons | apply u2_agg | exact u2_int | exact u1_int | exact u2_bool | exact u1_bool | exact u2_sli | exact u1_sli | exact u2_s0 | exact u1_s0))); all_goals (first | (intro h1 hh1; cbv) | (assumption))))
  refine E_br hE (fun g3 => ?_) (fun g3 => ?_) <;> cbv
  · exact hup
  (first | (apply E_pcallX hE (c_ivHas ⟨_, ⟨_, _, _, _⟩, ⟨_, _, _, _⟩⟩ ⟨_, _, _, _⟩); (case hm => rfl); (case hle => (repeat' (first | exact u_nil | apply u_cons | apply u2_agg | exact u2_int | exact u1_int | exact u2_bool | exact u1_bool | exact u2_sli | exact u1_sli | exact u2_s0 | exact u1_s0))); all_goals (first | (intro h2 hh2; cbv) | (assumption))) | (apply E_callX hE (c_ivHas ⟨_, ⟨_, _, _, _⟩, ⟨_, _, _, _⟩⟩ ⟨_, _, _, _⟩); (case hf => rfl); (case hc => (cbv <;> trivial)); (case hle => (repeat' (first | exact u_nil | apply u_cons | apply u2_agg | exact u2_int | exact u1_int | exact u2_bool | exact u1_bool | exact u2_sli | exact u1_sli | exact u2_s0 | exact u1_s0))); all_goals (first | (intro h2 hh2; cbv) | (assumption))))
  refine E_br hE (fun g4 => ?_) (fun g4 => ?_) <;> cbv
  · exact hup
  (first | (apply E_pcallX hE (c_Exact ⟨_, _, _, _⟩ ox); (case hm => rfl); (case hle => (repeat' (first | exact u_nil | apply u_cons | apply u2_agg | exact u2_int | exact u1_int | exact u2_bool | exact u1_bool | exact u2_sli | exact u1_sli | exact u2_s0 | exact u1_s0))); all_goals (first | (intro m hm_; cbv) | (assumption))) | (apply E_callX hE (c_Exact ⟨_, _, _, _⟩ ox); (case hf => rfl); (case hc => (cbv <;> trivial)); (case hle => (repeat' (first | exact u_nil | apply u_cons | apply u2_agg | exact u2_int | exact u1_int | exact u2_bool | exact u1_bool | exact u2_sli | exact u1_sli | exact u2_s0 | exact u1_s0))); all_goals (first | (intro m hm_; cbv) | (assumption))))
  (first | (apply E_pcallX hE (c_Exact ⟨_, _, _, _⟩ oy); (case hm => rfl); (case hle => (repeat' (first | exact u_nil | apply u_cons | apply u2_agg | exact u2_int | exact u1_int | exact u2_bool | exact u1_bool | exact u2_sli | exact u1_sli | exact u2_s0 | exact u1_s0))); all_goals (first | (intro n hn_; cbv) | (assumption))) | (apply E_callX hE (c_Exact ⟨_, _, _, _⟩ oy); (case hf => rfl); (case hc => (cbv <;> trivial)); (case hle => (repeat' (first | exact u_nil | apply u_cons | apply u2_agg | exact u2_int | exact u1_int | exact u2_bool | exact u1_bool | exact u2_sli | exact u1_sli | exact u2_s0 | exact u1_s0))); all_goals (first | (intro n hn_; cbv) | (assumption))))
  have m1 : m.1 = dyL x.exact.1 := by have k : m = (dyL x.exact.1, x.exact.2) := hm_; rw [k]
  have m2 : m.2 = x.exact.2 := by have k : m = (dyL x.exact.1, x.exact.2) := hm_; rw [k]
  have n1 : n.1 = dyL y.exact.1 := by have k : n = (dyL y.exact.1, y.exact.2) := hn_; rw [k]
  have n2 : n.2 = y.exact.2 := by have k : n = (dyL y.exact.1, y.exact.2) := hn_; rw [k]
  clear hm_ hn_
  refine E_br hE (fun g5 => ?_) (fun g5 => ?_) <;> cbv
  refine E_br hE (fun g6 => ?_) (fun g6 => ?_) <;> cbv
  have L := law (hp.symm.trans (ff _ g1)) (hq.symm.trans (ff _ g2)) (hh1.symm.trans (ff _ g3)) (hh2.symm.trans (ff _ g4)) (m2.symm.trans (ff _ g5)) (n2.symm.trans (ff _ g6))
  obtain ⟨dx, dy_, A1, A2, A3, A4⟩ := L
  clear law
  (first | (apply E_pcallX hE (c_dyAdd2 1048704 (by decide) x.exact.1 y.exact.1 _ _ dx dy_ m.1 n.1 m1 n1); (case hm => rfl); (case hle => exact ⟨u2_slc', trivial⟩); all_goals (first | (intro s1 hs1; cbv) | (assumption))) | (apply E_callX hE (c_dyAdd2 1048704 (by decide) x.exact.1 y.exact.1 _ _ dx dy_ m.1 n.1 m1 n1); (case hf => rfl); (case hc => (cbv <;> trivial)); (case hle => exact ⟨u2_slc', trivial⟩); all_goals (first | (intro s1 hs1; cbv) | (assumption))))
  have D1 : DyV 2100000 (dySum x.exact.1 y.exact.1) (x.val + y.val) := (dySum_val (by decide) dx dy_).mono (by decide)
  (apply E_pcallX hE (c_opAdd [a, b] 2 rfl (by decide) fl); (case hm => rfl); (case hle => exact ⟨slcG2, trivial⟩); intro i1 hi1; cbv)
  have S1 : Spans i1 ((x.val + y.val) * pw 0) := by rw [hi1]; exact A1
  (first | (apply E_pcallX hE (c_in9 (dySum x.exact.1 y.exact.1) _ D1 s1 hs1 ⟨_, ⟨_, _, _, _⟩, ⟨_, _, _, _⟩⟩ S1); (case hm => rfl); (case hle => (repeat' (first | exact u_nil | apply u_cons | apply u2_agg | exact u2_int | exact u1_int | exact u2_bool | exact u1_bool | exact u2_sli | exact u1_sli | exact u2_s0 | exact u1_s0))); all_goals (first | (intro t1 ht1; cbv) | (assumption))) | (apply E_callX hE (c_in9 (dySum x.exact.1 y.exact.1) _ D1 s1 hs1 ⟨_, ⟨_, _, _, _⟩, ⟨_, _, _, _⟩⟩ S1); (case hf => rfl); (case hc => (cbv <;> trivial)); (case hle => (repeat' (first | exact u_nil | apply u_cons | apply u2_agg | exact u2_int | exact u1_int | exact u2_bool | exact u1_bool | exact u2_sli | exact u1_sli | exact u2_s0 | exact u1_s0))); all_goals (first | (intro t1 ht1; cbv) | (assumption))))
  (first | (apply E_pcallX hE (c_dySub 1048704 (by decide) x.exact.1 y.exact.1 _ _ dx dy_ m.1 n.1 m1 n1); (case hm => rfl); (case hle => (repeat' (first | exact u_nil | apply u_cons | apply u2_agg | exact u2_int | exact u1_int | exact u2_bool | exact u1_bool | exact u2_sli | exact u1_sli | exact u2_s0 | exact u1_s0))); all_goals (first | (intro s2 hs2; cbv) | (assumption))) | (apply E_callX hE (c_dySub 1048704 (by decide) x.exact.1 y.exact.1 _ _ dx dy_ m.1 n.1 m1 n1); (case hf => rfl); (case hc => (cbv <;> trivial)); (case hle => (repeat' (first | exact u_nil | apply u_cons | apply u2_agg | exact u2_int | exact u1_int | exact u2_bool | exact u1_bool | exact u2_sli | exact u1_sli | exact u2_s0 | exact u1_s0))); all_goals (first | (intro s2 hs2; cbv) | (assumption))))
  have D2 : DyV 2100000 (dySum x.exact.1 (dyOpp y.exact.1)) (x.val + -y.val) := (dySum_val (by decide) dx (dyOpp_val dy_)).mono (by decide)
  (first | (apply E_pcallX hE (c_opSub ⟨_, ⟨_, _, _, _⟩, ⟨_, _, _, _⟩⟩ ⟨_, ⟨_, _, _, _⟩, ⟨_, _, _, _⟩⟩ oa1 oa2 ob1 ob2); (case hm => rfl); (case hle => (repeat' (first | exact u_nil | apply u_cons | apply u2_agg | exact u2_int | exact u1_int | exact u2_bool | exact u1_bool | exact u2_sli | exact u1_sli | exact u2_s0 | exact u1_s0))); all_goals (first | (intro i2 hi2; cbv) | (assumption))) | (apply E_callX hE (c_opSub ⟨_, ⟨_, _, _, _⟩, ⟨_, _, _, _⟩⟩ ⟨_, ⟨_, _, _, _⟩, ⟨_, _, _, _⟩⟩ oa1 oa2 ob1 ob2); (case hf => rfl); (case hc => (cbv <;> trivial)); (case hle => (repeat' (first | exact u_nil | apply u_cons | apply u2_agg | exact u2_int | exact u1_int | exact u2_bool | exact u1_bool | exact u2_sli | exact u1_sli | exact u2_s0 | exact u1_s0))); all_goals (first | (intro i2 hi2; cbv) | (assumption))))
  have S2 : Spans i2 ((x.val + -y.val) * pw 0) := by rw [hi2]; exact A2
  (first | (apply E_pcallX hE (c_in9 (dySum x.exact.1 (dyOpp y.exact.1)) _ D2 s2 hs2 ⟨_, ⟨_, _, _, _⟩, ⟨_, _, _, _⟩⟩ S2); (case hm => rfl); (case hle => (repeat' (first | exact u_nil | apply u_cons | apply u2_agg | exact u2_int | exact u1_int | exact u2_bool | exact u1_bool | exact u2_sli | exact u1_sli | exact u2_s0 | exact u1_s0))); all_goals (first | (intro t2 ht2; cbv) | (assumption))) | (apply E_callX hE (c_in9 (dySum x.exact.1 (dyOpp y.exact.1)) _ D2 s2 hs2 ⟨_, ⟨_, _, _, _⟩, ⟨_, _, _, _⟩⟩ S2); (case hf => rfl); (case hc => (cbv <;> trivial)); (case hle => (repeat' (first | exact u_nil | apply u_cons | apply u2_agg | exact u2_int | exact u1_int | exact u2_bool | exact u1_bool | exact u2_sli | exact u1_sli | exact u2_s0 | exact u1_s0))); all_goals (first | (intro t2 ht2; cbv) | (assumption))))
  (first | (apply E_pcallX hE (c_dyMul 1048704 1048704 (by decide) x.exact.1 y.exact.1 _ _ dx dy_ m.1 n.1 m1 n1); (case hm => rfl); (case hle => (repeat' (first | exact u_nil | apply u_cons | apply u2_agg | exact u2_int | exact u1_int | exact u2_bool | exact u1_bool | exact u2_sli | exact u1_sli | exact u2_s0 | exact u1_s0))); all_goals (first | (intro s3 hs3; cbv) | (assumption))) | (apply E_callX hE (c_dyMul 1048704 1048704 (by decide) x.exact.1 y.exact.1 _ _ dx dy_ m.1 n.1 m1 n1); (case hf => rfl); (case hc => (cbv <;> trivial)); (case hle => (repeat' (first | exact u_nil | apply u_cons | apply u2_agg | exact u2_int | exact u1_int | exact u2_bool | exact u1_bool | exact u2_sli | exact u1_sli | exact u2_s0 | exact u1_s0))); all_goals (first | (intro s3 hs3; cbv) | (assumption))))
  obtain ⟨v3, P3, e3⟩ := dyProd_val (by decide) dx dy_
  have D3 := P3.mono (show 1048704 + 1048704 ≤ 2100000 by decide)
  (first | (apply E_pcallX hE (c_opMul ⟨_, ⟨_, _, _, _⟩, ⟨_, _, _, _⟩⟩ ⟨_, ⟨_, _, _, _⟩, ⟨_, _, _, _⟩⟩ oa1 oa2 ob1 ob2); (case hm => rfl); (case hle => (repeat' (first | exact u_nil | apply u_cons | apply u2_agg | exact u2_int | exact u1_int | exact u2_bool | exact u1_bool | exact u2_sli | exact u1_sli | exact u2_s0 | exact u1_s0))); all_goals (first | (intro i3 hi3; cbv) | (assumption))) | (apply E_callX hE (c_opMul ⟨_, ⟨_, _, _, _⟩, ⟨_, _, _, _⟩⟩ ⟨_, ⟨_, _, _, _⟩, ⟨_, _, _, _⟩⟩ oa1 oa2 ob1 ob2); (case hf => rfl); (case hc => (cbv <;> trivial)); (case hle => (repeat' (first | exact u_nil | apply u_cons | apply u2_agg | exact u2_int | exact u1_int | exact u2_bool | exact u1_bool | exact u2_sli | exact u1_sli | exact u2_s0 | exact u1_s0))); all_goals (first | (intro i3 hi3; cbv) | (assumption))))
  have S3 : Spans i3 (v3 * pw 0) := by rw [hi3, e3]; exact A3
  (first | (apply E_pcallX hE (c_in9 _ v3 D3 s3 hs3 ⟨_, ⟨_, _, _, _⟩, ⟨_, _, _, _⟩⟩ S3); (case hm => rfl); (case hle => (repeat' (first | exact u_nil | apply u_cons | apply u2_agg | exact u2_int | exact u1_int | exact u2_bool | exact u1_bool | exact u2_sli | exact u1_sli | exact u2_s0 | exact u1_s0))); all_goals (first | (intro t3 ht3; cbv) | (assumption))) | (apply E_callX hE (c_in9 _ v3 D3 s3 hs3 ⟨_, ⟨_, _, _, _⟩, ⟨_, _, _, _⟩⟩ S3); (case hf => rfl); (case hc => (cbv <;> trivial)); (case hle => (repeat' (first | exact u_nil | apply u_cons | apply u2_agg | exact u2_int | exact u1_int | exact u2_bool | exact u1_bool | exact u2_sli | exact u1_sli | exact u2_s0 | exact u1_s0))); all_goals (first | (intro t3 ht3; cbv) | (assumption))))
  (first | (apply E_pcallX hE (c_dyMul 1048704 1048704 (by decide) x.exact.1 x.exact.1 _ _ dx dx m.1 m.1 m1 m1); (case hm => rfl); (case hle => (repeat' (first | exact u_nil | apply u_cons | apply u2_agg | exact u2_int | exact u1_int | exact u2_bool | exact u1_bool | exact u2_sli | exact u1_sli | exact u2_s0 | exact u1_s0))); all_goals (first | (intro s4 hs4; cbv) | (assumption))) | (apply E_callX hE (c_dyMul 1048704 1048704 (by decide) x.exact.1 x.exact.1 _ _ dx dx m.1 m.1 m1 m1); (case hf => rfl); (case hc => (cbv <;> trivial)); (case hle => (repeat' (first | exact u_nil | apply u_cons | apply u2_agg | exact u2_int | exact u1_int | exact u2_bool | exact u1_bool | exact u2_sli | exact u1_sli | exact u2_s0 | exact u1_s0))); all_goals (first | (intro s4 hs4; cbv) | (assumption))))
  obtain ⟨v4, P4, e4⟩ := dyProd_val (by decide) dx dx
  have D4 := P4.mono (show 1048704 + 1048704 ≤ 2100000 by decide)
  (first | (apply E_pcallX hE (c_opSqr ⟨_, ⟨_, _, _, _⟩, ⟨_, _, _, _⟩⟩ oa1 oa2); (case hm => rfl); (case hle => (repeat' (first | exact u_nil | apply u_cons | apply u2_agg | exact u2_int | exact u1_int | exact u2_bool | exact u1_bool | exact u2_sli | exact u1_sli | exact u2_s0 | exact u1_s0))); all_goals (first | (intro i4 hi4; cbv) | (assumption))) | (apply E_callX hE (c_opSqr ⟨_, ⟨_, _, _, _⟩, ⟨_, _, _, _⟩⟩ oa1 oa2); (case hf => rfl); (case hc => (cbv <;> trivial)); (case hle => (repeat' (first | exact u_nil | apply u_cons | apply u2_agg | exact u2_int | exact u1_int | exact u2_bool | exact u1_bool | exact u2_sli | exact u1_sli | exact u2_s0 | exact u1_s0))); all_goals (first | (intro i4 hi4; cbv) | (assumption))))
  have S4 : Spans i4 (v4 * pw 0) := by rw [hi4, e4]; exact A4
  (first | (apply E_pcallX hE (c_in9 _ v4 D4 s4 hs4 ⟨_, ⟨_, _, _, _⟩, ⟨_, _, _, _⟩⟩ S4); (case hm => rfl); (case hle => (repeat' (first | exact u_nil | apply u_cons | apply u2_agg | exact u2_int | exact u1_int | exact u2_bool | exact u1_bool | exact u2_sli | exact u1_sli | exact u2_s0 | exact u1_s0))); all_goals (first | (intro t4 ht4; cbv) | (assumption))) | (apply E_callX hE (c_in9 _ v4 D4 s4 hs4 ⟨_, ⟨_, _, _, _⟩, ⟨_, _, _, _⟩⟩ S4); (case hf => rfl); (case hc => (cbv <;> trivial)); (case hle => (repeat' (first | exact u_nil | apply u_cons | apply u2_agg | exact u2_int | exact u1_int | exact u2_bool | exact u1_bool | exact u2_sli | exact u1_sli | exact u2_s0 | exact u1_s0))); all_goals (first | (intro t4 ht4; cbv) | (assumption))))
  refine E_br_t hE ht1 ?_; cbv
  refine E_br_t hE ht2 ?_; cbv
  refine E_br_t hE ht3 ?_; cbv
  exact ht4

end Go.Proofs.YtpadpcjdakfokaaDoor.Ev

/- What an argument that reads as data stands for: numbers and intervals. -/
namespace Go.Proofs.YtpadpcjdakfokaaDoor.Ev
open Go Go.ChangeShapes Go.WideShapes Go.RowKit
set_option linter.unusedVariables false
set_option maxRecDepth 100000

section
variable {H : Type} {enc : TypeId × Value → H} {w : World} {base : Nat} {spare : Nat → Bool} {held : Bool}

theorem wf_u64 {n : Int} (h : (Lit.int .u64 n).wf = true) : 0 ≤ n ∧ n < 18446744073709551616 := by
  simp only [Lit.wf, IntKind.min, IntKind.max, IntKind.signed, IntKind.bits, Bool.and_eq_true] at h
  have := h.1; have := h.2
  simp at *
  omega
theorem wf_i64 {n : Int} (h : (Lit.int .i64 n).wf = true) : -9223372036854775808 ≤ n ∧ n < 9223372036854775808 := by
  simp only [Lit.wf, IntKind.min, IntKind.max, IntKind.signed, IntKind.bits, Bool.and_eq_true] at h
  have := h.1; have := h.2
  simp at *
  omega

/-- a number's fields are of their words -/
def Num.wf (n : Num) : Prop := n.ok ∧ (-9223372036854775808 ≤ n.e ∧ n.e < 9223372036854775808) ∧ (-9223372036854775808 ≤ n.kind ∧ n.kind < 9223372036854775808)
def Num.vals (n : Num) : List Value := [.int .i64 n.kind, .bool n.neg, .int .u64 n.m, .int .i64 n.e]

theorem read_num {fuel : Nat} {cs : List Value} {x : DataW H × List MemPlace} (h : DataW.trod enc Tryd.prog w base spare held fuel 24 cs = some x) : ∃ n : Num, cs = n.vals ∧ n.wf := by
  obtain ⟨xs, m, rfl, _, hl, hxs, hf⟩ := DataW.trod_struct Tryd.underlying24 h
  rw [show Tryd.prog.cellsOf 24 = 4 by kernel_rfl] at hl
  obtain ⟨c0, c1, c2, c3, rfl⟩ : ∃ a b c d, cs = [a, b, c, d] := by
    rcases cs with _ | ⟨a, _ | ⟨b, _ | ⟨c, _ | ⟨d, _ | ⟨e, r⟩⟩⟩⟩⟩ <;> simp at hl
    exact ⟨a, b, c, d, rfl⟩
  have get : ∀ i, i < 4 → ∃ y, xs[i]? = some y := fun i hi => ⟨_, List.getElem?_eq_getElem (by rw [hxs]; exact hi)⟩
  obtain ⟨y0, e0⟩ := get 0 (by omega)
  obtain ⟨y1, e1⟩ := get 1 (by omega)
  obtain ⟨y2, e2⟩ := get 2 (by omega)
  obtain ⟨y3, e3⟩ := get 3 (by omega)
  have z3 : Tryd.prog.cellsOf 3 = 1 := by kernel_rfl
  have z4 : Tryd.prog.cellsOf 4 = 1 := by kernel_rfl
  have z22 : Tryd.prog.cellsOf 22 = 1 := by kernel_rfl
  have h0 : DataW.trod enc Tryd.prog w base spare held m 3 (([c0, c1, c2, c3].drop 0).take (Tryd.prog.cellsOf 3)) = some y0 := (hf 0 _ rfl).trans e0
  have h1 : DataW.trod enc Tryd.prog w base spare held m 4 (([c0, c1, c2, c3].drop 1).take (Tryd.prog.cellsOf 4)) = some y1 := (hf 1 _ rfl).trans e1
  have h2 : DataW.trod enc Tryd.prog w base spare held m 22 (([c0, c1, c2, c3].drop 2).take (Tryd.prog.cellsOf 22)) = some y2 := (hf 2 _ rfl).trans e2
  have h3 : DataW.trod enc Tryd.prog w base spare held m 3 (([c0, c1, c2, c3].drop 3).take (Tryd.prog.cellsOf 3)) = some y3 := (hf 3 _ rfl).trans e3
  rw [z3] at h0 h3
  rw [z4] at h1
  rw [z22] at h2
  obtain ⟨n0, q0, _, w0⟩ := DataW.trod_int Tryd.underlying3 h0
  obtain ⟨n1, q1, _⟩ := DataW.trod_bool Tryd.underlying4 h1
  obtain ⟨n2, q2, _, w2⟩ := DataW.trod_int Tryd.underlying22 h2
  obtain ⟨n3, q3, _, w3⟩ := DataW.trod_int Tryd.underlying3 h3
  refine ⟨⟨n0, n1, n2, n3⟩, ?_, wf_u64 w2, wf_i64 w3, wf_i64 w0⟩
  obtain ⟨rfl⟩ : c0 = _ := (List.cons.inj q0).1
  obtain ⟨rfl⟩ : c1 = _ := (List.cons.inj q1).1
  obtain ⟨rfl⟩ : c2 = _ := (List.cons.inj q2).1
  obtain ⟨rfl⟩ : c3 = _ := (List.cons.inj q3).1
  rfl

def Iv.vals (x : Iv) : List Value := .bool x.empty :: (x.lo.vals ++ x.hi.vals)

theorem read_iv {fuel : Nat} {cs : List Value} {x : DataW H × List MemPlace} (h : DataW.trod enc Tryd.prog w base spare held fuel 33 cs = some x) : ∃ v : Iv, cs = v.vals ∧ v.lo.wf ∧ v.hi.wf := by
  obtain ⟨xs, m, rfl, _, hl, hxs, hf⟩ := DataW.trod_struct Tryd.underlying33 h
  rw [show Tryd.prog.cellsOf 33 = 9 by kernel_rfl] at hl
  obtain ⟨c0, c1, c2, c3, c4, c5, c6, c7, c8, rfl⟩ : ∃ a b c d e f g i j, cs = [a, b, c, d, e, f, g, i, j] := by
    rcases cs with _ | ⟨a, _ | ⟨b, _ | ⟨c, _ | ⟨d, _ | ⟨e, _ | ⟨f, _ | ⟨g, _ | ⟨i, _ | ⟨j, _ | ⟨k, r⟩⟩⟩⟩⟩⟩⟩⟩⟩⟩ <;> simp at hl
    exact ⟨a, b, c, d, e, f, g, i, j, rfl⟩
  have get : ∀ i, i < 3 → ∃ y, xs[i]? = some y := fun i hi => ⟨_, List.getElem?_eq_getElem (by rw [hxs]; exact hi)⟩
  obtain ⟨y0, e0⟩ := get 0 (by omega)
  obtain ⟨y1, e1⟩ := get 1 (by omega)
  obtain ⟨y2, e2⟩ := get 2 (by omega)
  have z4 : Tryd.prog.cellsOf 4 = 1 := by kernel_rfl
  have z24 : Tryd.prog.cellsOf 24 = 4 := by kernel_rfl
  have h0 : DataW.trod enc Tryd.prog w base spare held m 4 (([c0, c1, c2, c3, c4, c5, c6, c7, c8].drop 0).take (Tryd.prog.cellsOf 4)) = some y0 := (hf 0 _ rfl).trans e0
  have h1 : DataW.trod enc Tryd.prog w base spare held m 24 (([c0, c1, c2, c3, c4, c5, c6, c7, c8].drop 1).take (Tryd.prog.cellsOf 24)) = some y1 := (hf 1 _ rfl).trans e1
  have h2 : DataW.trod enc Tryd.prog w base spare held m 24 (([c0, c1, c2, c3, c4, c5, c6, c7, c8].drop 5).take (Tryd.prog.cellsOf 24)) = some y2 := (hf 2 _ rfl).trans e2
  rw [z4] at h0
  rw [z24] at h1 h2
  obtain ⟨b, q0, _⟩ := DataW.trod_bool Tryd.underlying4 h0
  obtain ⟨lo, q1, w1⟩ := read_num h1
  obtain ⟨hi, q2, w2⟩ := read_num h2
  refine ⟨⟨b, lo, hi⟩, ?_, w1, w2⟩
  show _ = .bool b :: (lo.vals ++ hi.vals)
  rw [← q1, ← q2, show c0 = .bool b from (List.cons.inj q0).1]
  rfl

theorem ro_num (O : Nat → Prop) (w : World) (n : Num) (ys : Array Value) (h : ys.toList = n.vals) : RoV O w n.av (.agg ys) := by
  obtain ⟨l⟩ := ys
  dsimp only at h
  subst h
  refine .agg _ _ rfl (fun j c hj => ?_)
  match j, hj with
  | 0, hj => simp at hj; subst hj; exact .int _ _ _ rfl
  | 1, hj => simp at hj; subst hj; exact .bool _ _ rfl
  | 2, hj => simp at hj; subst hj; exact .int _ _ _ rfl
  | 3, hj => simp at hj; subst hj; exact .int _ _ _ rfl
  | j + 4, hj => simp at hj

theorem ro_iv (O : Nat → Prop) (w : World) (n : Iv) (ys : Array Value) (h : ys.toList = n.vals) : RoV O w n.av (.agg ys) := by
  obtain ⟨l⟩ := ys
  dsimp only at h
  subst h
  refine .agg _ _ rfl (fun j c hj => ?_)
  match j, hj with
  | 0, hj => simp at hj; subst hj; exact .bool _ _ rfl
  | 1, hj => simp at hj; subst hj; exact .int _ _ _ rfl
  | 2, hj => simp at hj; subst hj; exact .bool _ _ rfl
  | 3, hj => simp at hj; subst hj; exact .int _ _ _ rfl
  | 4, hj => simp at hj; subst hj; exact .int _ _ _ rfl
  | 5, hj => simp at hj; subst hj; exact .int _ _ _ rfl
  | 6, hj => simp at hj; subst hj; exact .bool _ _ rfl
  | 7, hj => simp at hj; subst hj; exact .int _ _ _ rfl
  | 8, hj => simp at hj; subst hj; exact .int _ _ _ rfl
  | j + 9, hj => simp at hj

theorem arg_num {r : Reach} {b0 : Nat} {v : Value} {d : DataW H} {ps : List MemPlace} (hval : Value.okWide Tryd.prog w r b0 24 v) (hd : DataW.Trod enc Tryd.prog w base spare held 24 v d ps) :
    ∃ n : Num, n.wf ∧ ∀ O w', RoV O w' n.av v := by
  obtain ⟨cs, rfl, _⟩ := okWide_struct Tryd.underlying24 hval
  obtain ⟨fuel, hf⟩ := hd
  obtain ⟨n, e, hw⟩ := read_num hf
  exact ⟨n, hw, fun O w' => ro_num O w' n cs e⟩
theorem arg_iv {r : Reach} {b0 : Nat} {v : Value} {d : DataW H} {ps : List MemPlace} (hval : Value.okWide Tryd.prog w r b0 33 v) (hd : DataW.Trod enc Tryd.prog w base spare held 33 v d ps) :
    ∃ n : Iv, n.lo.wf ∧ n.hi.wf ∧ ∀ O w', RoV O w' n.av v := by
  obtain ⟨cs, rfl, _⟩ := okWide_struct Tryd.underlying33 hval
  obtain ⟨fuel, hf⟩ := hd
  obtain ⟨n, e, hw⟩ := read_iv hf
  exact ⟨n, hw.1, hw.2, fun O w' => ro_iv O w' n cs e⟩
end
end Go.Proofs.YtpadpcjdakfokaaDoor.Ev
