/- Texts of the proof, joined: Pu37 C26 -/
import Derived.Test.YtincnfjihffllaaBk1
set_option linter.unusedVariables false
set_option linter.unusedSimpArgs false

/- What an operation makes just of a number of a result is left: plain Lean. -/
namespace Go.Proofs.Ytincnfjihffllaa.Ev
open Go

/-- an interval holds a value -/
structure Holds (x : Iv) (v : Int) : Prop where
  r : x.Real
  lo : x.lo.val ≤ v
  hi : v ≤ x.hi.val
/-- ... of any size, scaled -/
structure Spans (x : Iv) (t : Int) : Prop where
  r : x.Real
  lo : x.lo.below t
  hi : x.hi.above t
abbrev Small (v : Int) : Prop := -pw 1048640 < v ∧ v < pw 1048640
theorem holds_of_has {x : Iv} {m : Num} (hm : m.ok) (h : x.fit) (k : Iv.has x m = true) : Holds x m.fair.val ∧ Small m.fair.val ∧ m.fair.kind ≠ 2 := by
  obtain ⟨k1, k2, k3, k4⟩ := (Iv.has_iff hm h.1 h.2).1 k
  exact ⟨⟨k2, k3, k4⟩, (Num.fin_val m.fair_may (Num.fair_ok hm)).1 k1, k1⟩
theorem has_of_holds {x : Iv} {m : Num} (hm : m.ok) (k : m.fair.kind ≠ 2) (h : Holds x m.fair.val) : Iv.has x m = true := (Iv.has_iff hm h.r.loo h.r.hio).2 ⟨k, h.r, h.lo, h.hi⟩
theorem Num.below_of {n : Num} {t : Int} (m : n.may = true) (o : n.ok) (h : n.val < pw 1048640) (g : n.val * pw 0 ≤ t) : n.below t := by
  by_cases k : n.kind = 2
  · rcases Num.inf_val m o k with j | j
    · exact .inl (by rw [Num.inf_of m o k, j.1])
    · omega
  · exact .inr ⟨k, g⟩
theorem Num.above_of {n : Num} {t : Int} (m : n.may = true) (o : n.ok) (h : -pw 1048640 < n.val) (g : t ≤ n.val * pw 0) : n.above t := by
  by_cases k : n.kind = 2
  · rcases Num.inf_val m o k with j | j
    · omega
    · exact .inl (by rw [Num.inf_of m o k, j.1])
  · exact .inr ⟨k, g⟩
theorem Holds.spans {x : Iv} {v : Int} (h : Holds x v) : Spans x (v * pw 0) :=
  ⟨h.r, Num.below_of h.r.lom h.r.loo h.r.lt (Int.mul_le_mul_of_nonneg_right h.lo (Int.le_of_lt (pw_pos 0))), Num.above_of h.r.him h.r.hio h.r.gt (Int.mul_le_mul_of_nonneg_right h.hi (Int.le_of_lt (pw_pos 0)))⟩
theorem Spans.part {a c : Iv} {t : Int} (h : Spans a t) (P : Iv.Part a c) : Spans c t := by
  have p0 := pw_pos 0
  have l := P.lo
  have g := P.hi
  refine ⟨P.rc, ?_, ?_⟩
  · rcases h.lo with e | ⟨-, e⟩
    · left
      refine Num.val_inj P.rc.lom (Num.inf_may _) P.rc.loo (Num.inf_ok _) ?_
      have := (Num.val_le P.rc.lom P.rc.loo).1
      rw [e, Num.val_inf] at l
      rw [Num.val_inf]; simp at l ⊢; omega
    · have := Int.mul_le_mul_of_nonneg_right l (Int.le_of_lt p0)
      exact Num.below_of P.rc.lom P.rc.loo P.rc.lt (by omega)
  · rcases h.hi with e | ⟨-, e⟩
    · left
      refine Num.val_inj P.rc.him (Num.inf_may _) P.rc.hio (Num.inf_ok _) ?_
      have := (Num.val_le P.rc.him P.rc.hio).2
      rw [e, Num.val_inf] at g
      rw [Num.val_inf]; simp at g ⊢; omega
    · have := Int.mul_le_mul_of_nonneg_right g (Int.le_of_lt p0)
      exact Num.above_of P.rc.him P.rc.hio P.rc.gt (by omega)
theorem Spans.within {a c : Iv} {t : Int} (h : Spans a t) (hc : c.fit) (w : a.within c = true) : Spans c t := by
  rcases Iv.within_part ⟨h.r.loo, h.r.hio⟩ hc w with b | P
  · rw [h.r.good] at b; cases b
  · exact h.part P
theorem Spans.neg {x : Iv} {t : Int} (h : Spans x t) : Spans (Iv.neg x) (-t) := by
  rw [Iv.neg_real h.r]
  have r := h.r.neg
  have vh : x.hi.opp.val = -x.hi.val := by rw [Num.opp_val, Num.may_fair h.r.him]
  have vl : x.lo.opp.val = -x.lo.val := by rw [Num.opp_val, Num.may_fair h.r.lom]
  refine ⟨r, ?_, ?_⟩
  · show x.hi.opp.below (-t)
    rcases h.hi with e | ⟨-, e⟩
    · left; rw [e]; exact Num.opp_inf _
    · exact Num.below_of r.lom r.loo r.lt (by show x.hi.opp.val * pw 0 ≤ _; rw [vh, Int.neg_mul]; omega)
  · show x.lo.opp.above (-t)
    rcases h.lo with e | ⟨-, e⟩
    · left; rw [e]; exact Num.opp_inf _
    · exact Num.above_of r.him r.hio r.gt (by show _ ≤ x.lo.opp.val * pw 0; rw [vl, Int.neg_mul]; omega)
theorem Holds.neg {x : Iv} {v : Int} (h : Holds x v) : Holds (Iv.neg x) (-v) := by
  rw [Iv.neg_real h.r]
  have l := h.lo
  have g := h.hi
  exact ⟨h.r.neg, by show x.hi.opp.val ≤ -v; rw [Num.opp_val, Num.may_fair h.r.him]; omega, by show -v ≤ x.lo.opp.val; rw [Num.opp_val, Num.may_fair h.r.lom]; omega⟩
theorem make_holds {l u : Num} {v : Int} (ml : l.may = true) (mu : u.may = true) (ol : l.ok) (ou : u.ok) (h1 : l.val ≤ v) (h2 : v ≤ u.val) (s : Small v) : Holds (Iv.make l u) v := by
  have R : (Iv.mk false l u).Real := ⟨rfl, ml, mu, ol, ou, by show l.val ≤ u.val; omega, by show l.val < _; have := s.2; omega, by show _ < u.val; have := s.1; omega⟩
  rw [Iv.make_real (by rw [Num.may_fair ml, Num.may_fair mu]; exact R), Num.may_fair ml, Num.may_fair mu]
  exact ⟨R, h1, h2⟩
theorem Num.add_lo {a b : Num} {t : Int} (ma : a.may = true) (mb : b.may = true) (oa : a.ok) (ob : b.ok) (na : a.val < pw 1048640) (nb : b.val < pw 1048640) (ht : -pw 1048640 < t) (h : a = Num.inf true ∨ a.val + b.val ≤ t) : (Num.add a b false).val ≤ t := by
  by_cases ka : a.kind = 2
  · have e : a = Num.inf true := by
      rcases Num.inf_val ma oa ka with j | j
      · rw [Num.inf_of ma oa ka, j.1]
      · omega
    rw [Num.add_inf false (by rw [Num.may_fair ma]; exact ka), Num.may_fair ma, Num.may_fair mb]
    have n : ¬ (b.kind = 2 ∧ a.neg ≠ b.neg) := by
      rintro ⟨k, d⟩
      rcases Num.inf_val mb ob k with j | j
      · rw [e, j.1] at d; exact d rfl
      · omega
    rw [if_neg n, e, Num.val_inf]; simp; omega
  · by_cases kb : b.kind = 2
    · have e : b = Num.inf true := by
        rcases Num.inf_val mb ob kb with j | j
        · rw [Num.inf_of mb ob kb, j.1]
        · omega
      rw [Num.add_inf2 oa ob false (by rw [Num.may_fair mb]; exact kb), Num.may_fair ma, Num.may_fair mb, if_neg (fun k => ka k.1), e, Num.val_inf]; simp; omega
    · have B := add_best oa ob (by rw [Num.may_fair ma]; exact ka) (by rw [Num.may_fair mb]; exact kb) false
      rw [Num.may_fair ma, Num.may_fair mb] at B
      rcases (B.down rfl).2 with e | e
      · rw [e, Num.val_inf]; simp; omega
      · rcases h with h | h
        · rw [h] at ka; exact absurd rfl ka
        · omega
theorem Num.add_hi {a b : Num} {t : Int} (ma : a.may = true) (mb : b.may = true) (oa : a.ok) (ob : b.ok) (na : -pw 1048640 < a.val) (nb : -pw 1048640 < b.val) (ht : t < pw 1048640) (h : a = Num.inf false ∨ t ≤ a.val + b.val) : t ≤ (Num.add a b true).val := by
  have va : a.opp.val = -a.val := by rw [Num.opp_val, Num.may_fair ma]
  have vb : b.opp.val = -b.val := by rw [Num.opp_val, Num.may_fair mb]
  have k := Num.add_lo (t := -t) (Num.opp_may a) (Num.opp_may b) (Num.opp_ok oa) (Num.opp_ok ob) (by omega) (by omega) (by omega) (h.imp (fun e => by rw [e]; exact Num.opp_inf _) (fun e => by omega))
  have e := Num.add_opp oa ob true
  rw [show (!true) = false from rfl] at e
  rw [e, Num.opp_val, Num.may_fair (Num.add_may oa ob true)] at k
  omega
/-- What spans one and what holds another one: their sum holds both together. -/
theorem Spans.add {x y : Iv} {s v w : Int} (h : Spans x (s * pw 0)) (g : Holds y w) (e : v = s + w) (k : Small v) : Holds (Iv.add [x, y]) v := by
  have p0 := pw_pos 0
  rw [Iv.add2_eq, h.r.good, g.r.good]
  simp only [Bool.or_self, Bool.false_eq_true, if_false]
  have l := g.lo
  have u := g.hi
  refine make_holds (Num.add_may h.r.loo g.r.loo _) (Num.add_may h.r.hio g.r.hio _) (Num.add_ok h.r.loo g.r.loo _) (Num.add_ok h.r.hio g.r.hio _) ?_ ?_ k
  · refine Num.add_lo h.r.lom g.r.lom h.r.loo g.r.loo h.r.lt g.r.lt k.1 ?_
    rcases h.lo with q | ⟨-, q⟩
    · exact .inl q
    · right
      have := Int.le_of_mul_le_mul_right q p0
      omega
  · refine Num.add_hi h.r.him g.r.him h.r.hio g.r.hio h.r.gt g.r.gt k.2 ?_
    rcases h.hi with q | ⟨-, q⟩
    · exact .inl q
    · right
      have := Int.le_of_mul_le_mul_right q p0
      omega
theorem Spans.sub {x y : Iv} {s v w : Int} (h : Spans x (s * pw 0)) (g : Holds y w) (e : v = s - w) (k : Small v) : Holds (Iv.sub x y) v := h.add g.neg (by omega) k
/-- ... and the other way round -/
theorem Spans.from {x y : Iv} {s v w : Int} (h : Spans x (s * pw 0)) (g : Holds y w) (e : v = w - s) (k : Small v) : Holds (Iv.sub y x) v := by
  have n := h.neg
  rw [← Int.neg_mul] at n
  have a := n.add g (by omega) k
  unfold Iv.sub
  rwa [Iv.add2_comm ⟨g.r.loo, g.r.hio⟩ (Iv.neg_ok h.r.loo h.r.hio)]
theorem Holds.meet {x y : Iv} {v : Int} (h : Holds x v) (g : Holds y v) (k : Small v) : Holds (Iv.meet [x, y]) v := by
  obtain ⟨m1, m2, -, -, m5⟩ := Iv.most_two h.r.lom g.r.lom h.r.loo g.r.loo
  obtain ⟨l1, l2, -, -, l5⟩ := Iv.least_two h.r.him g.r.him h.r.hio g.r.hio
  rw [Iv.meet_real h.r g.r]
  refine make_holds m1 l1 m2 l2 ?_ ?_ k
  · rcases m5 with e | e <;> rw [e]
    · exact h.lo
    · exact g.lo
  · rcases l5 with e | e <;> rw [e]
    · exact h.hi
    · exact g.hi

/-- whether it has nought is told rightly -/
def Opd.Good (p : Opd) : Prop := p.nought = true ↔ Holds p.iv 0
theorem Iv.has_fair {x : Iv} (h : x.fit) : (Iv.has x Num.zero = true) ↔ Holds x.fair 0 := by
  rcases Iv.bad_or_real h with b | r
  · rw [Iv.has_iff Num.zero_ok h.1 h.2]
    constructor
    · intro k; have := k.2.1.good; rw [b] at this; cases this
    · intro k
      have e := k.r.some
      rw [Iv.fair_empty, b] at e; cases e
  · rw [r.fair, Iv.has_zero r]
    exact ⟨fun k => ⟨r, k.1, k.2⟩, fun k => ⟨k.lo, k.hi⟩⟩
theorem Opd.of_good {x : Iv} (h : x.fit) : (Opd.of x).Good := by
  unfold Opd.Good Opd.of
  rw [Iv.meet_one h]; exact Iv.has_fair h
theorem Holds.of {x : Iv} {v : Int} (h : Holds x v) : Holds (Opd.of x).iv v := by
  show Holds (Iv.meet [x]) v
  rw [Iv.meet_one_real h.r]; exact h
theorem small_zero : Small 0 := by have := pw_pos 1048640; exact ⟨by omega, by omega⟩
theorem part_holds {p z q : Opd} {v w : Int} (fp : p.iv.fit) (fz : z.iv.fit) (fq : q.iv.fit) (gp : p.Good) (gz : z.Good) (gq : q.Good) (hp : Holds p.iv v) (hq : Holds q.iv w) (hz : Spans z.iv (v * w)) (sv : Small v) (sw : Small w) :
    Holds (Opd.part p z q).iv v ∧ (Opd.part p z q).Good := by
  unfold Opd.part
  by_cases c : (z.nought && q.nought) = true
  · rw [if_pos c]; exact ⟨hp, gp⟩
  · rw [if_neg c]
    have w0 : w ≠ 0 := by
      intro e
      subst e
      apply c
      have p0 := pw_pos 0
      have z0 : Holds z.iv 0 := by
        refine ⟨hz.r, ?_, ?_⟩
        · rcases hz.lo with k | ⟨-, k⟩
          · rw [k, Num.val_inf]; have := pw_pos 1048640; simp; omega
          · rw [Int.mul_zero] at k
            rcases Int.lt_or_le 0 z.iv.lo.val with j | j
            · have := Int.mul_pos j p0; omega
            · exact j
        · rcases hz.hi with k | ⟨-, k⟩
          · rw [k, Num.val_inf]; have := pw_pos 1048640; simp; omega
          · rw [Int.mul_zero] at k
            rcases Int.lt_or_le z.iv.hi.val 0 with j | j
            · have := Int.mul_neg_of_neg_of_pos j p0; omega
            · exact j
      rw [gz.2 z0, gq.2 hq]; rfl
    have d := Iv.div_has hz.r hq.r w0 hq.lo hq.hi sw.1 sw.2 sv.1 sv.2 hz.lo hz.hi
    have m := hp.meet ⟨d.1, d.2.1, d.2.2⟩ sv
    exact ⟨m.of, Opd.of_good ⟨m.r.loo, m.r.hio⟩⟩
theorem Spans.of {x : Iv} {t : Int} (h : Spans x t) : Spans (Opd.of x).iv t := by
  show Spans (Iv.meet [x]) t
  rw [Iv.meet_one_real h.r]; exact h
theorem times_holds {z x y : Iv} {v w : Int} (hx : Holds x v) (hy : Holds y w) (hz : Spans z (v * w)) (sv : Small v) (sw : Small w) : Holds (bkTimes z x y).1 v ∧ Holds (bkTimes z x y).2 w := by
  have fx : x.fit := ⟨hx.r.loo, hx.r.hio⟩
  have fy : y.fit := ⟨hy.r.loo, hy.r.hio⟩
  have fz : z.fit := ⟨hz.r.loo, hz.r.hio⟩
  have a := part_holds (Opd.of_fit fx) (Opd.of_fit fz) (Opd.of_fit fy) (Opd.of_good fx) (Opd.of_good fz) (Opd.of_good fy) hx.of hy.of hz.of sv sw
  have b := part_holds (Opd.of_fit fy) (Opd.of_fit fz) (Opd.part_fit (Opd.of_fit fx) (Opd.of_fit fz) (Opd.of_fit fy)) (Opd.of_good fy) (Opd.of_good fz) a.2 hy.of a.1 (by rw [Int.mul_comm w v]; exact hz.of) sw sv
  have e : (Opd.of z).iv.empty = false := hz.of.r.some
  unfold bkTimes
  rw [e, if_neg (by decide)]
  exact ⟨a.1, b.1⟩

/-! squares -/
theorem root_holds {z : Iv} {p : Num} (mp : p.may = true) (op : p.ok) (hp : 0 ≤ p.val) (sp : Small p.val) (hz : Spans z (p.val * p.val)) : Holds (Iv.root z) p.val := by
  have p0 := pw_pos 0
  have P := pw_pos 1048640
  have sq := Int.mul_nonneg hp hp
  obtain ⟨m, mm, mo, ma, m0, mc, em⟩ := Iv.meet_pos hz.r
  have h0 : 0 ≤ z.hi.val := by
    rcases hz.hi with k | ⟨-, k⟩
    · rw [k, Num.val_inf]; simp; omega
    · rcases Int.lt_or_le z.hi.val 0 with j | j
      · have := Int.mul_neg_of_neg_of_pos j p0; omega
      · exact j
  have hm : m.val * pw 0 ≤ p.val * p.val := by
    rcases mc with e | e
    · rcases hz.lo with k | ⟨-, k⟩
      · rw [k, Num.val_inf] at e; simp at e; omega
      · rw [e]; exact k
    · rw [e, Int.zero_mul]; exact sq
  have zl := hz.r.lt
  have R : (Iv.mk false m z.hi).Real := ⟨rfl, mm, hz.r.him, mo, hz.r.hio, by show m.val ≤ z.hi.val; have := hz.r.le; omega, by show m.val < _; omega, by show _ < z.hi.val; omega⟩
  have e : Iv.make m z.hi = ⟨false, m, z.hi⟩ := by
    rw [Iv.make_real (by rw [Num.may_fair mm, Num.may_fair hz.r.him]; exact R), Num.may_fair mm, Num.may_fair hz.r.him]
  have er : Iv.root z = Iv.make (Num.root m false).1 (Num.root z.hi true).1 := by unfold Iv.root; rw [em, e]; rfl
  rw [er]
  have k1 : m ≠ Num.inf false := (Num.ne_inf mm mo).1.2 (by omega)
  refine make_holds (Num.root_may mm mo m0 _).1 (Num.root_may hz.r.him hz.r.hio h0 _).1 (Num.root_ok mo _) (Num.root_ok hz.r.hio _) (Num.root_le mm mo m0 k1 hp hm) (Num.le_root hz.r.him hz.r.hio h0 mp op ?_) sp
  rcases hz.hi with k | ⟨-, k⟩
  · exact .inl k
  · exact .inr k
theorem Holds.hull_l {x y : Iv} {v : Int} (h : Holds x v) (hy : y.fit) : Holds (Iv.hull [x, y]) v := by
  have l := h.lo
  have u := h.hi
  rcases Iv.hull_two ⟨h.r.loo, h.r.hio⟩ hy with ⟨b, -⟩ | ⟨b, -⟩ | ⟨-, -, e⟩ | ⟨rx, ry, -⟩
  · rw [h.r.good] at b; cases b
  · rw [h.r.good] at b; cases b
  · rw [e]; exact h
  · obtain ⟨a, b, e, R, k1, k2, -, k4, k5, -⟩ := Iv.hull_real rx ry
    rw [e]
    exact ⟨R, by show a.val ≤ v; omega, by show v ≤ b.val; omega⟩
theorem Holds.hull_r {x y : Iv} {v : Int} (h : Holds y v) (hx : x.fit) : Holds (Iv.hull [x, y]) v := by
  have l := h.lo
  have u := h.hi
  rcases Iv.hull_two hx ⟨h.r.loo, h.r.hio⟩ with ⟨-, b, -⟩ | ⟨-, -, e⟩ | ⟨-, b, -⟩ | ⟨rx, ry, -⟩
  · rw [h.r.good] at b; cases b
  · rw [e]; exact h
  · rw [h.r.good] at b; cases b
  · obtain ⟨a, b, e, R, k1, k2, -, k4, k5, -⟩ := Iv.hull_real rx ry
    rw [e]
    exact ⟨R, by show a.val ≤ v; omega, by show v ≤ b.val; omega⟩

theorem Iv.point_fair (m : Num) : Iv.point m = Iv.point m.fair := by
  unfold Iv.point
  rw [Iv.make_eq, Iv.make_eq, Num.may_fair m.fair_may]
/-- what is made of a sum's two sides -/
theorem best_spans {d u : Num} {t : Int} (D : Best d false t 1) (U : Best u true t 1) : Spans (Iv.make d u) (t * pw 0) := by
  have p0 := pw_pos 0
  have le := D.le U (by decide)
  obtain ⟨d1, d2⟩ := D.down rfl
  obtain ⟨u1, u2⟩ := U.hi rfl
  have dv := (Num.ne_inf D.may D.ok).1.1 d1
  have uv := (Num.ne_inf U.may U.ok).2.1 u1
  have R : (Iv.mk false d u).Real := ⟨rfl, D.may, U.may, D.ok, U.ok, le, dv, uv⟩
  rw [Iv.make_real (by rw [Num.may_fair D.may, Num.may_fair U.may]; exact R), Num.may_fair D.may, Num.may_fair U.may]
  refine ⟨R, ?_, ?_⟩
  · rcases d2 with e | e
    · exact .inl e
    · exact Num.below_of D.may D.ok dv (Int.mul_le_mul_of_nonneg_right (a := d.val) (by omega) (Int.le_of_lt p0))
  · rcases u2 with e | e
    · exact .inl e
    · exact Num.above_of U.may U.ok uv (Int.mul_le_mul_of_nonneg_right (b := u.val) (by omega) (Int.le_of_lt p0))
theorem best_spans0 {d u : Num} {t : Int} (D : Best d false t (pw 0)) (U : Best u true t (pw 0)) : Spans (Iv.make d u) t := by
  have p0 := pw_pos 0
  have le := D.le U p0
  obtain ⟨d1, d2⟩ := D.down rfl
  obtain ⟨u1, u2⟩ := U.hi rfl
  have dv := (Num.ne_inf D.may D.ok).1.1 d1
  have uv := (Num.ne_inf U.may U.ok).2.1 u1
  have R : (Iv.mk false d u).Real := ⟨rfl, D.may, U.may, D.ok, U.ok, le, dv, uv⟩
  rw [Iv.make_real (by rw [Num.may_fair D.may, Num.may_fair U.may]; exact R), Num.may_fair D.may, Num.may_fair U.may]
  refine ⟨R, ?_, ?_⟩
  · rcases d2 with e | e
    · exact .inl e
    · exact Num.below_of D.may D.ok dv e
  · rcases u2 with e | e
    · exact .inl e
    · exact Num.above_of U.may U.ok uv e

structure KeepsB (z x y : Iv) (m n : Num) : Prop where
  one : (Iv.add [Iv.point m, Iv.point n]).within z = true → Iv.has (bkPlus z x y).1 m = true ∧ Iv.has (bkPlus z x y).2 n = true
  two : (Iv.sub (Iv.point m) (Iv.point n)).within z = true → Iv.has (bkMinus z x y).1 m = true ∧ Iv.has (bkMinus z x y).2 n = true
  three : (Iv.mul (Iv.point m) (Iv.point n)).within z = true → Iv.has (bkTimes z x y).1 m = true ∧ Iv.has (bkTimes z x y).2 n = true
  four : (Iv.sqr (Iv.point m)).within z = true → Iv.has (bkSqr z x) m = true
theorem keepsB {z x y : Iv} {m n : Num} (hz : z.fit) (hx : x.fit) (hy : y.fit) (hm : m.ok) (hn : n.ok) (h1 : Iv.has x m = true) (h2 : Iv.has y n = true) : KeepsB z x y m n := by
  obtain ⟨Hx, sm, km⟩ := holds_of_has hm hx h1
  obtain ⟨Hy, sn, kn⟩ := holds_of_has hn hy h2
  have om := Num.fair_ok hm
  have on := Num.fair_ok hn
  have mm := m.fair_may
  have mn := n.fair_may
  obtain ⟨em, rm⟩ := Iv.point_real mm om km
  obtain ⟨en, rn⟩ := Iv.point_real mn on kn
  rw [← Iv.point_fair] at em en
  have ff : m.fair.fair = m.fair := Num.may_fair mm
  have gg : n.fair.fair = n.fair := Num.may_fair mn
  refine ⟨fun w => ?_, fun w => ?_, fun w => ?_, fun w => ?_⟩
  · have S : Spans (Iv.add [Iv.point m, Iv.point n]) ((m.fair.val + n.fair.val) * pw 0) := by
      rw [em, en, Iv.add2_eq, rm.good, rn.good]
      simp only [Bool.or_self, Bool.false_eq_true, if_false]
      have D := add_best om on (by rw [ff]; exact km) (by rw [gg]; exact kn) false
      have U := add_best om on (by rw [ff]; exact km) (by rw [gg]; exact kn) true
      rw [ff, gg] at D U
      exact best_spans D U
    have Z := S.within hz w
    have a := Hx.meet (Z.sub Hy (v := m.fair.val) (by omega) sm) sm
    have b := Hy.meet (Z.sub a (v := n.fair.val) (by omega) sn) sn
    exact ⟨has_of_holds hm km a, has_of_holds hn kn b⟩
  · have S : Spans (Iv.sub (Iv.point m) (Iv.point n)) ((m.fair.val - n.fair.val) * pw 0) := by
      unfold Iv.sub
      rw [em, en, Iv.neg_real rn, Iv.add2_eq, rm.good, (rn.neg).good]
      simp only [Bool.or_self, Bool.false_eq_true, if_false]
      have oo := Num.opp_ok on
      have ko : n.fair.opp.fair.kind ≠ 2 := by rw [Num.opp_fair, Num.opp_kind, gg]; exact kn
      have D := add_best om oo (by rw [ff]; exact km) ko false
      have U := add_best om oo (by rw [ff]; exact km) ko true
      rw [ff, Num.opp_fair, Num.opp_val, gg] at D U
      rw [Int.sub_eq_add_neg]
      exact best_spans D U
    have Z := S.within hz w
    have a := Hx.meet (Z.add Hy (v := m.fair.val) (by omega) sm) sm
    have b := Hy.meet (Z.from a (v := n.fair.val) (by omega) sn) sn
    exact ⟨has_of_holds hm km a, has_of_holds hn kn b⟩
  · have S : Spans (Iv.mul (Iv.point m) (Iv.point n)) (m.fair.val * n.fair.val) := by
      rw [Iv.point_fair m, Iv.point_fair n]
      have k := Iv.mul_points mm mn om on km kn
      exact ⟨k.1, k.2.1, k.2.2⟩
    have Z := S.within hz w
    have k := times_holds Hx Hy Z sm sn
    exact ⟨has_of_holds hm km k.1, has_of_holds hn kn k.2⟩
  · obtain ⟨ra, a1, a2, a3, a4, a5, a6, a7⟩ := Iv.abs_ends rm
    have eq := Iv.sqr_of rm
    rw [← em] at ra a1 a2 a3 a4 a5 a6 a7 eq
    rw [em] at a2 a3 a4 a5 a6 a7
    change m.fair.val ≤ _ at a2
    change -m.fair.val ≤ _ at a3
    change (_ ∨ _ = m.fair.val ∨ _ = -m.fair.val) at a4
    change m.fair.val ≤ _ at a5
    change -m.fair.val ≤ _ at a6
    change (_ = m.fair.val ∨ _ = -m.fair.val) at a7
    rw [← em] at a2 a3 a4 a5 a6 a7
    generalize Iv.abs (Iv.point m) = q at *
    have same : q.hi = q.lo := Num.val_inj ra.him ra.lom ra.hio ra.loo (by omega)
    have sq : Small q.lo.val := ⟨by have := sm.1; have := sm.2; omega, by have := sm.1; have := sm.2; omega⟩
    have kq : q.lo.kind ≠ 2 := (Num.fin_val ra.lom ra.loo).2 sq
    have fq : q.lo.fair = q.lo := Num.may_fair ra.lom
    have S : Spans (Iv.sqr (Iv.point m)) (q.lo.val * q.lo.val) := by
      rw [eq, same]
      have D := mul_best ra.loo ra.loo (by rw [fq]; exact kq) (by rw [fq]; exact kq) false
      have U := mul_best ra.loo ra.loo (by rw [fq]; exact kq) (by rw [fq]; exact kq) true
      rw [fq] at D U
      exact best_spans0 D U
    have Z := S.within hz w
    have rh := root_holds ra.lom ra.loo a1 sq Z
    have rf := Iv.root_ok hz
    have nf := Iv.neg_ok rf.1 rf.2
    refine has_of_holds hm km ?_
    unfold bkSqr
    rcases Int.lt_or_le m.fair.val 0 with j | j
    · have e : m.fair.val = -q.lo.val := by omega
      have k := rh.neg
      rw [← e] at k
      exact (Hx.meet k sm).hull_r (Iv.meet2_ok hx rf)
    · have e : q.lo.val = m.fair.val := by omega
      rw [e] at rh
      exact (Hx.meet rh sm).hull_l (Iv.meet2_ok hx nf)
end Go.Proofs.Ytincnfjihffllaa.Ev

/- Contracts: the laws of what is left of operands, out of their plain laws. Printed by gen.py out of C26.spec. -/
namespace Go.Proofs.Ytincnfjihffllaa.Ev
open Go Go.Proofs
set_option linter.unusedVariables false
set_option linter.unusedSimpArgs false
theorem awk1 : bkPlus (Iv.ofInts 3 3) (Iv.ofInts 0 5) (Iv.ofInts 1 1) = (Iv.ofInts 2 2, Iv.ofInts 1 1) := by decide +kernel
theorem num_chain_iff {x y : Num} : ((decide (x.kind = y.kind) && (x.neg == y.neg && (decide (x.m = y.m) && decide (x.e = y.e)))) : Bool) = decide (x = y) := by
  by_cases h : x = y
  · rw [decide_eq_true h]; subst h; simp
  · rw [decide_eq_false h]
    apply Bool.eq_false_iff.2
    intro k
    simp only [Bool.and_eq_true, decide_eq_true_eq, beq_iff_eq] at k
    exact h ((Num.eq_iff x y).2 k)
theorem rt4 : (Num.root ⟨1, false, 9223372036854775808, -61⟩ false).1 = ⟨1, false, 9223372036854775808, -62⟩ := by
  have n : nsqrt (9223372036854775808 * 2 ^ 63) = 9223372036854775808 := nsqrt_eq (by decide +kernel) (by decide +kernel)
  have f : (⟨1, false, 9223372036854775808, -61⟩ : Num).fair = ⟨1, false, 9223372036854775808, -61⟩ := by decide
  unfold Num.root
  rw [f]
  simp only [ne_eq, not_true, Bool.false_eq_true, and_false, if_false]
  unfold Num.rootF
  simp only [show ¬ ((-61 : Int) % 2 = 0) by decide, if_false, show (9223372036854775808 : Int).toNat = 9223372036854775808 from rfl, n]
  decide +kernel
theorem rt9 : (Num.root ⟨1, false, 10376293541461622784, -60⟩ true).1 = ⟨1, false, 13835058055282163712, -62⟩ := by
  have n : nsqrt (10376293541461622784 * 2 ^ 64) = 13835058055282163712 := nsqrt_eq (by decide +kernel) (by decide +kernel)
  have f : (⟨1, false, 10376293541461622784, -60⟩ : Num).fair = ⟨1, false, 10376293541461622784, -60⟩ := by decide
  unfold Num.root
  rw [f]
  simp only [ne_eq, not_true, Bool.false_eq_true, and_false, if_false]
  unfold Num.rootF
  simp only [show ((-60 : Int) % 2 = 0) by decide, if_true, show (10376293541461622784 : Int).toNat = 10376293541461622784 from rfl, n]
  decide +kernel
theorem rt49 : Iv.root (Iv.ofInts 4 9) = Iv.ofInts 2 3 := by
  have e : Iv.meet [Iv.ofInts 4 9, Iv.positive] = ⟨false, ⟨1, false, 9223372036854775808, -61⟩, ⟨1, false, 10376293541461622784, -60⟩⟩ := by decide +kernel
  unfold Iv.root
  rw [e]
  simp only [Bool.false_eq_true, if_false, rt4, rt9]; decide +kernel
theorem awk2 : bkSqr (Iv.ofInts 4 9) (Iv.ofInts (-5) 0) = Iv.ofInts (-3) (-2) := by
  unfold bkSqr; rw [rt49]; decide +kernel
theorem awk3 : (Iv.ofInts (-3) (-2)).empty = false ∧ (Iv.ofInts (-3) (-2)).lo = Num.ofInt (-3) ∧ (Num.ofInt (-3)).kind = 1 := by decide +kernel

set_option maxRecDepth 10000 in
set_option maxHeartbeats 16000000 in
theorem c_awakeB  : ∃ t, t = true ∧ CallsA Try.prog 56 [] (.bool (.s t)) := by
  refine ⟨_, rfl, ?_⟩
  generalize hr : true = r
  refine callsA_of hG hm Try.func56 (by kernel_rfl) ?_
  intro E hE lp hl
  cbv
  repeat' (first
    | (apply E_br_t hE; assumption; cbv)
    | (apply E_br_f hE; assumption; cbv)
    | (refine E_br hE (fun h => ?_) (fun h => ?_) <;> cbv)
    | (refine E_nm hE (fun v hv => ?_); cbv)
    | (apply E_callX hE (k_ivOf _ ?_ ?_ _ ?_ ?_); (case hf => rfl); (case hc => (cbv <;> trivial)); (case hle => (repeat' (first | exact u_nil | apply u_cons | apply u2_agg | exact u2_int | exact u1_int | exact u2_bool | exact u1_bool | exact u2_sli | exact u1_sli | exact u2_s0 | exact u1_s0))); all_goals (first | (rintro t ⟨ht, ho⟩; cbv) | (decide)))
    | (apply E_pcallX hE (k_ivOf _ ?_ ?_ _ ?_ ?_); (case hm => rfl); (case hle => (repeat' (first | exact u_nil | apply u_cons | apply u2_agg | exact u2_int | exact u1_int | exact u2_bool | exact u1_bool | exact u2_sli | exact u1_sli | exact u2_s0 | exact u1_s0))); all_goals (first | (rintro t ⟨ht, ho⟩; cbv) | (decide)))
    | (apply E_callX hE (k_bkPlus ⟨_, ⟨_, _, _, _⟩, ⟨_, _, _, _⟩⟩ ?_ ⟨_, ⟨_, _, _, _⟩, ⟨_, _, _, _⟩⟩ ?_ ⟨_, ⟨_, _, _, _⟩, ⟨_, _, _, _⟩⟩ ?_); (case hf => rfl); (case hc => (cbv <;> trivial)); (case hle => (repeat' (first | exact u_nil | apply u_cons | apply u2_agg | exact u2_int | exact u1_int | exact u2_bool | exact u1_bool | exact u2_sli | exact u1_sli | exact u2_s0 | exact u1_s0))); all_goals (first | (rintro t ⟨ht, ⟨hp, hq⟩⟩; cbv) | (first | assumption | exact Iv.none_fit | (exact And.left (by assumption)) | (exact And.right (by assumption)))))
    | (apply E_pcallX hE (k_bkPlus ⟨_, ⟨_, _, _, _⟩, ⟨_, _, _, _⟩⟩ ?_ ⟨_, ⟨_, _, _, _⟩, ⟨_, _, _, _⟩⟩ ?_ ⟨_, ⟨_, _, _, _⟩, ⟨_, _, _, _⟩⟩ ?_); (case hm => rfl); (case hle => (repeat' (first | exact u_nil | apply u_cons | apply u2_agg | exact u2_int | exact u1_int | exact u2_bool | exact u1_bool | exact u2_sli | exact u1_sli | exact u2_s0 | exact u1_s0))); all_goals (first | (rintro t ⟨ht, ⟨hp, hq⟩⟩; cbv) | (first | assumption | exact Iv.none_fit | (exact And.left (by assumption)) | (exact And.right (by assumption)))))
    | (apply E_callX hE (k_bkSqr ⟨_, ⟨_, _, _, _⟩, ⟨_, _, _, _⟩⟩ ?_ ⟨_, ⟨_, _, _, _⟩, ⟨_, _, _, _⟩⟩ ?_); (case hf => rfl); (case hc => (cbv <;> trivial)); (case hle => (repeat' (first | exact u_nil | apply u_cons | apply u2_agg | exact u2_int | exact u1_int | exact u2_bool | exact u1_bool | exact u2_sli | exact u1_sli | exact u2_s0 | exact u1_s0))); all_goals (first | (rintro t ⟨ht, ho⟩; cbv) | (first | assumption | exact Iv.none_fit | (exact And.left (by assumption)) | (exact And.right (by assumption)))))
    | (apply E_pcallX hE (k_bkSqr ⟨_, ⟨_, _, _, _⟩, ⟨_, _, _, _⟩⟩ ?_ ⟨_, ⟨_, _, _, _⟩, ⟨_, _, _, _⟩⟩ ?_); (case hm => rfl); (case hle => (repeat' (first | exact u_nil | apply u_cons | apply u2_agg | exact u2_int | exact u1_int | exact u2_bool | exact u1_bool | exact u2_sli | exact u1_sli | exact u2_s0 | exact u1_s0))); all_goals (first | (rintro t ⟨ht, ho⟩; cbv) | (first | assumption | exact Iv.none_fit | (exact And.left (by assumption)) | (exact And.right (by assumption)))))
    | (apply E_callX hE (k_Of _ ?_ ?_); (case hf => rfl); (case hc => (cbv <;> trivial)); (case hle => (repeat' (first | exact u_nil | apply u_cons | apply u2_agg | exact u2_int | exact u1_int | exact u2_bool | exact u1_bool | exact u2_sli | exact u1_sli | exact u2_s0 | exact u1_s0))); all_goals (first | (rintro t ⟨ht, ho⟩; cbv) | (first | decide | assumption | omega)))
    | (apply E_pcallX hE (k_Of _ ?_ ?_); (case hm => rfl); (case hle => (repeat' (first | exact u_nil | apply u_cons | apply u2_agg | exact u2_int | exact u1_int | exact u2_bool | exact u1_bool | exact u2_sli | exact u1_sli | exact u2_s0 | exact u1_s0))); all_goals (first | (rintro t ⟨ht, ho⟩; cbv) | (first | decide | assumption | omega)))
    | fail)
  all_goals subst hE
  all_goals (try simp only [NatCast.natCast, Int.ofNat_eq_natCast, realE, cmp_eql, cmp_neq, cmp_lss, cmp_leq, cmp_gtr, cmp_geq, intBinR, SI.val, SB.val, Num.eta, Iv.eta] at *)
  all_goals subst hr
  all_goals (simp_all only [awk1, awk2, awk3, decide_true, Bool.not_false, beq_self_eq_true, Bool.and_self, Bool.true_and, Bool.and_true, reduceCtorEq])

set_option maxRecDepth 10000 in
set_option maxHeartbeats 16000000 in
theorem c_BackEmpty (x : Iv) (hx : x.lo.ok ∧ x.hi.ok) (y : Iv) (hy : y.lo.ok ∧ y.hi.ok) : ∃ t, t = true ∧ CallsA Try.prog 18 [x.av, y.av] (.bool (.s t)) := by
  refine ⟨_, rfl, ?_⟩
  generalize hr : true = r
  refine callsA_of hG hm Try.func18 (by kernel_rfl) ?_
  intro E hE lp hl
  cbv
  (apply E_callX hE (c_awakeB); (case hf => rfl); (case hc => (cbv <;> trivial)); (case hle => (repeat' (first | exact u_nil | apply u_cons | apply u2_agg | exact u2_int | exact u1_int | exact u2_bool | exact u1_bool | exact u2_sli | exact u1_sli | exact u2_s0 | exact u1_s0))); all_goals (first | (intro t ht; cbv) | (assumption)))
  repeat' (first
    | (apply E_br_t hE; assumption; cbv)
    | (apply E_br_f hE; assumption; cbv)
    | (refine E_br hE (fun h => ?_) (fun h => ?_) <;> cbv)
    | (refine E_nm hE (fun v hv => ?_); cbv)
    | (apply E_callX hE (k_ivNone); (case hf => rfl); (case hc => (cbv <;> trivial)); (case hle => (repeat' (first | exact u_nil | apply u_cons | apply u2_agg | exact u2_int | exact u1_int | exact u2_bool | exact u1_bool | exact u2_sli | exact u1_sli | exact u2_s0 | exact u1_s0))); all_goals (first | (rintro t ⟨ht, ho⟩; cbv) | (first | assumption | exact Iv.none_fit | (exact And.left (by assumption)) | (exact And.right (by assumption)))))
    | (apply E_pcallX hE (k_ivNone); (case hm => rfl); (case hle => (repeat' (first | exact u_nil | apply u_cons | apply u2_agg | exact u2_int | exact u1_int | exact u2_bool | exact u1_bool | exact u2_sli | exact u1_sli | exact u2_s0 | exact u1_s0))); all_goals (first | (rintro t ⟨ht, ho⟩; cbv) | (first | assumption | exact Iv.none_fit | (exact And.left (by assumption)) | (exact And.right (by assumption)))))
    | (apply E_callX hE (k_bkPlus ⟨_, ⟨_, _, _, _⟩, ⟨_, _, _, _⟩⟩ ?_ ⟨_, ⟨_, _, _, _⟩, ⟨_, _, _, _⟩⟩ ?_ ⟨_, ⟨_, _, _, _⟩, ⟨_, _, _, _⟩⟩ ?_); (case hf => rfl); (case hc => (cbv <;> trivial)); (case hle => (repeat' (first | exact u_nil | apply u_cons | apply u2_agg | exact u2_int | exact u1_int | exact u2_bool | exact u1_bool | exact u2_sli | exact u1_sli | exact u2_s0 | exact u1_s0))); all_goals (first | (rintro t ⟨ht, ⟨hp, hq⟩⟩; cbv) | (first | assumption | exact Iv.none_fit | (exact And.left (by assumption)) | (exact And.right (by assumption)))))
    | (apply E_pcallX hE (k_bkPlus ⟨_, ⟨_, _, _, _⟩, ⟨_, _, _, _⟩⟩ ?_ ⟨_, ⟨_, _, _, _⟩, ⟨_, _, _, _⟩⟩ ?_ ⟨_, ⟨_, _, _, _⟩, ⟨_, _, _, _⟩⟩ ?_); (case hm => rfl); (case hle => (repeat' (first | exact u_nil | apply u_cons | apply u2_agg | exact u2_int | exact u1_int | exact u2_bool | exact u1_bool | exact u2_sli | exact u1_sli | exact u2_s0 | exact u1_s0))); all_goals (first | (rintro t ⟨ht, ⟨hp, hq⟩⟩; cbv) | (first | assumption | exact Iv.none_fit | (exact And.left (by assumption)) | (exact And.right (by assumption)))))
    | (apply E_callX hE (k_bkMinus ⟨_, ⟨_, _, _, _⟩, ⟨_, _, _, _⟩⟩ ?_ ⟨_, ⟨_, _, _, _⟩, ⟨_, _, _, _⟩⟩ ?_ ⟨_, ⟨_, _, _, _⟩, ⟨_, _, _, _⟩⟩ ?_); (case hf => rfl); (case hc => (cbv <;> trivial)); (case hle => (repeat' (first | exact u_nil | apply u_cons | apply u2_agg | exact u2_int | exact u1_int | exact u2_bool | exact u1_bool | exact u2_sli | exact u1_sli | exact u2_s0 | exact u1_s0))); all_goals (first | (rintro t ⟨ht, ⟨hp, hq⟩⟩; cbv) | (first | assumption | exact Iv.none_fit | (exact And.left (by assumption)) | (exact And.right (by assumption)))))
    | (apply E_pcallX hE (k_bkMinus ⟨_, ⟨_, _, _, _⟩, ⟨_, _, _, _⟩⟩ ?_ ⟨_, ⟨_, _, _, _⟩, ⟨_, _, _, _⟩⟩ ?_ ⟨_, ⟨_, _, _, _⟩, ⟨_, _, _, _⟩⟩ ?_); (case hm => rfl); (case hle => (repeat' (first | exact u_nil | apply u_cons | apply u2_agg | exact u2_int | exact u1_int | exact u2_bool | exact u1_bool | exact u2_sli | exact u1_sli | exact u2_s0 | exact u1_s0))); all_goals (first | (rintro t ⟨ht, ⟨hp, hq⟩⟩; cbv) | (first | assumption | exact Iv.none_fit | (exact And.left (by assumption)) | (exact And.right (by assumption)))))
    | (apply E_callX hE (k_bkTimes ⟨_, ⟨_, _, _, _⟩, ⟨_, _, _, _⟩⟩ ?_ ⟨_, ⟨_, _, _, _⟩, ⟨_, _, _, _⟩⟩ ?_ ⟨_, ⟨_, _, _, _⟩, ⟨_, _, _, _⟩⟩ ?_); (case hf => rfl); (case hc => (cbv <;> trivial)); (case hle => (repeat' (first | exact u_nil | apply u_cons | apply u2_agg | exact u2_int | exact u1_int | exact u2_bool | exact u1_bool | exact u2_sli | exact u1_sli | exact u2_s0 | exact u1_s0))); all_goals (first | (rintro t ⟨ht, ⟨hp, hq⟩⟩; cbv) | (first | assumption | exact Iv.none_fit | (exact And.left (by assumption)) | (exact And.right (by assumption)))))
    | (apply E_pcallX hE (k_bkTimes ⟨_, ⟨_, _, _, _⟩, ⟨_, _, _, _⟩⟩ ?_ ⟨_, ⟨_, _, _, _⟩, ⟨_, _, _, _⟩⟩ ?_ ⟨_, ⟨_, _, _, _⟩, ⟨_, _, _, _⟩⟩ ?_); (case hm => rfl); (case hle => (repeat' (first | exact u_nil | apply u_cons | apply u2_agg | exact u2_int | exact u1_int | exact u2_bool | exact u1_bool | exact u2_sli | exact u1_sli | exact u2_s0 | exact u1_s0))); all_goals (first | (rintro t ⟨ht, ⟨hp, hq⟩⟩; cbv) | (first | assumption | exact Iv.none_fit | (exact And.left (by assumption)) | (exact And.right (by assumption)))))
    | (apply E_callX hE (k_bkOver ⟨_, ⟨_, _, _, _⟩, ⟨_, _, _, _⟩⟩ ?_ ⟨_, ⟨_, _, _, _⟩, ⟨_, _, _, _⟩⟩ ?_ ⟨_, ⟨_, _, _, _⟩, ⟨_, _, _, _⟩⟩ ?_); (case hf => rfl); (case hc => (cbv <;> trivial)); (case hle => (repeat' (first | exact u_nil | apply u_cons | apply u2_agg | exact u2_int | exact u1_int | exact u2_bool | exact u1_bool | exact u2_sli | exact u1_sli | exact u2_s0 | exact u1_s0))); all_goals (first | (rintro t ⟨ht, ⟨hp, hq⟩⟩; cbv) | (first | assumption | exact Iv.none_fit | (exact And.left (by assumption)) | (exact And.right (by assumption)))))
    | (apply E_pcallX hE (k_bkOver ⟨_, ⟨_, _, _, _⟩, ⟨_, _, _, _⟩⟩ ?_ ⟨_, ⟨_, _, _, _⟩, ⟨_, _, _, _⟩⟩ ?_ ⟨_, ⟨_, _, _, _⟩, ⟨_, _, _, _⟩⟩ ?_); (case hm => rfl); (case hle => (repeat' (first | exact u_nil | apply u_cons | apply u2_agg | exact u2_int | exact u1_int | exact u2_bool | exact u1_bool | exact u2_sli | exact u1_sli | exact u2_s0 | exact u1_s0))); all_goals (first | (rintro t ⟨ht, ⟨hp, hq⟩⟩; cbv) | (first | assumption | exact Iv.none_fit | (exact And.left (by assumption)) | (exact And.right (by assumption)))))
    | (apply E_callX hE (k_bkSqr ⟨_, ⟨_, _, _, _⟩, ⟨_, _, _, _⟩⟩ ?_ ⟨_, ⟨_, _, _, _⟩, ⟨_, _, _, _⟩⟩ ?_); (case hf => rfl); (case hc => (cbv <;> trivial)); (case hle => (repeat' (first | exact u_nil | apply u_cons | apply u2_agg | exact u2_int | exact u1_int | exact u2_bool | exact u1_bool | exact u2_sli | exact u1_sli | exact u2_s0 | exact u1_s0))); all_goals (first | (rintro t ⟨ht, ho⟩; cbv) | (first | assumption | exact Iv.none_fit | (exact And.left (by assumption)) | (exact And.right (by assumption)))))
    | (apply E_pcallX hE (k_bkSqr ⟨_, ⟨_, _, _, _⟩, ⟨_, _, _, _⟩⟩ ?_ ⟨_, ⟨_, _, _, _⟩, ⟨_, _, _, _⟩⟩ ?_); (case hm => rfl); (case hle => (repeat' (first | exact u_nil | apply u_cons | apply u2_agg | exact u2_int | exact u1_int | exact u2_bool | exact u1_bool | exact u2_sli | exact u1_sli | exact u2_s0 | exact u1_s0))); all_goals (first | (rintro t ⟨ht, ho⟩; cbv) | (first | assumption | exact Iv.none_fit | (exact And.left (by assumption)) | (exact And.right (by assumption)))))
    | (apply E_callX hE (k_bkRoot ⟨_, ⟨_, _, _, _⟩, ⟨_, _, _, _⟩⟩ ?_ ⟨_, ⟨_, _, _, _⟩, ⟨_, _, _, _⟩⟩ ?_); (case hf => rfl); (case hc => (cbv <;> trivial)); (case hle => (repeat' (first | exact u_nil | apply u_cons | apply u2_agg | exact u2_int | exact u1_int | exact u2_bool | exact u1_bool | exact u2_sli | exact u1_sli | exact u2_s0 | exact u1_s0))); all_goals (first | (rintro t ⟨ht, ho⟩; cbv) | (first | assumption | exact Iv.none_fit | (exact And.left (by assumption)) | (exact And.right (by assumption)))))
    | (apply E_pcallX hE (k_bkRoot ⟨_, ⟨_, _, _, _⟩, ⟨_, _, _, _⟩⟩ ?_ ⟨_, ⟨_, _, _, _⟩, ⟨_, _, _, _⟩⟩ ?_); (case hm => rfl); (case hle => (repeat' (first | exact u_nil | apply u_cons | apply u2_agg | exact u2_int | exact u1_int | exact u2_bool | exact u1_bool | exact u2_sli | exact u1_sli | exact u2_s0 | exact u1_s0))); all_goals (first | (rintro t ⟨ht, ho⟩; cbv) | (first | assumption | exact Iv.none_fit | (exact And.left (by assumption)) | (exact And.right (by assumption)))))
    | (apply E_callX hE (k_bkNeg ⟨_, ⟨_, _, _, _⟩, ⟨_, _, _, _⟩⟩ ?_ ⟨_, ⟨_, _, _, _⟩, ⟨_, _, _, _⟩⟩ ?_); (case hf => rfl); (case hc => (cbv <;> trivial)); (case hle => (repeat' (first | exact u_nil | apply u_cons | apply u2_agg | exact u2_int | exact u1_int | exact u2_bool | exact u1_bool | exact u2_sli | exact u1_sli | exact u2_s0 | exact u1_s0))); all_goals (first | (rintro t ⟨ht, ho⟩; cbv) | (first | assumption | exact Iv.none_fit | (exact And.left (by assumption)) | (exact And.right (by assumption)))))
    | (apply E_pcallX hE (k_bkNeg ⟨_, ⟨_, _, _, _⟩, ⟨_, _, _, _⟩⟩ ?_ ⟨_, ⟨_, _, _, _⟩, ⟨_, _, _, _⟩⟩ ?_); (case hm => rfl); (case hle => (repeat' (first | exact u_nil | apply u_cons | apply u2_agg | exact u2_int | exact u1_int | exact u2_bool | exact u1_bool | exact u2_sli | exact u1_sli | exact u2_s0 | exact u1_s0))); all_goals (first | (rintro t ⟨ht, ho⟩; cbv) | (first | assumption | exact Iv.none_fit | (exact And.left (by assumption)) | (exact And.right (by assumption)))))
    | fail)
  all_goals subst hE
  all_goals (try simp only [NatCast.natCast, Int.ofNat_eq_natCast, realE, cmp_eql, cmp_neq, cmp_lss, cmp_leq, cmp_gtr, cmp_geq, intBinR, SI.val, SB.val, Num.eta, Iv.eta] at *)
  all_goals subst hr
  all_goals (have L := emptyB x y; have La := L.a; have Lb := L.b; have Lc := L.c; have Ld := L.d; have Le := L.e; have Lf := L.f; have Lg := L.g; have Lh := L.h; have Ls := L.s; have Lr := L.r; have Ln := L.n; clear L)
  all_goals (simp_all only [reduceCtorEq])

set_option maxRecDepth 10000 in
set_option maxHeartbeats 16000000 in
theorem c_BackWithin (z : Iv) (hz : z.lo.ok ∧ z.hi.ok) (x : Iv) (hx : x.lo.ok ∧ x.hi.ok) (y : Iv) (hy : y.lo.ok ∧ y.hi.ok) : ∃ t, t = true ∧ CallsA Try.prog 17 [z.av, x.av, y.av] (.bool (.s t)) := by
  refine ⟨_, rfl, ?_⟩
  generalize hr : true = r
  refine callsA_of hG hm Try.func17 (by kernel_rfl) ?_
  intro E hE lp hl
  cbv
  (apply E_callX hE (c_awakeB); (case hf => rfl); (case hc => (cbv <;> trivial)); (case hle => (repeat' (first | exact u_nil | apply u_cons | apply u2_agg | exact u2_int | exact u1_int | exact u2_bool | exact u1_bool | exact u2_sli | exact u1_sli | exact u2_s0 | exact u1_s0))); all_goals (first | (intro t ht; cbv) | (assumption)))
  repeat' (first
    | (apply E_br_t hE; assumption; cbv)
    | (apply E_br_f hE; assumption; cbv)
    | (refine E_br hE (fun h => ?_) (fun h => ?_) <;> cbv)
    | (refine E_nm hE (fun v hv => ?_); cbv)
    | (apply E_callX hE (c_ivWithin ⟨_, ⟨_, _, _, _⟩, ⟨_, _, _, _⟩⟩ ⟨_, ⟨_, _, _, _⟩, ⟨_, _, _, _⟩⟩); (case hf => rfl); (case hc => (cbv <;> trivial)); (case hle => (repeat' (first | exact u_nil | apply u_cons | apply u2_agg | exact u2_int | exact u1_int | exact u2_bool | exact u1_bool | exact u2_sli | exact u1_sli | exact u2_s0 | exact u1_s0))); all_goals (first | (intro t ht; cbv) | (assumption)))
    | (apply E_pcallX hE (c_ivWithin ⟨_, ⟨_, _, _, _⟩, ⟨_, _, _, _⟩⟩ ⟨_, ⟨_, _, _, _⟩, ⟨_, _, _, _⟩⟩); (case hm => rfl); (case hle => (repeat' (first | exact u_nil | apply u_cons | apply u2_agg | exact u2_int | exact u1_int | exact u2_bool | exact u1_bool | exact u2_sli | exact u1_sli | exact u2_s0 | exact u1_s0))); all_goals (first | (intro t ht; cbv) | (assumption)))
    | (apply E_callX hE (k_bkPlus ⟨_, ⟨_, _, _, _⟩, ⟨_, _, _, _⟩⟩ ?_ ⟨_, ⟨_, _, _, _⟩, ⟨_, _, _, _⟩⟩ ?_ ⟨_, ⟨_, _, _, _⟩, ⟨_, _, _, _⟩⟩ ?_); (case hf => rfl); (case hc => (cbv <;> trivial)); (case hle => (repeat' (first | exact u_nil | apply u_cons | apply u2_agg | exact u2_int | exact u1_int | exact u2_bool | exact u1_bool | exact u2_sli | exact u1_sli | exact u2_s0 | exact u1_s0))); all_goals (first | (rintro t ⟨ht, ⟨hp, hq⟩⟩; cbv) | (first | assumption | exact Iv.none_fit | (exact And.left (by assumption)) | (exact And.right (by assumption)))))
    | (apply E_pcallX hE (k_bkPlus ⟨_, ⟨_, _, _, _⟩, ⟨_, _, _, _⟩⟩ ?_ ⟨_, ⟨_, _, _, _⟩, ⟨_, _, _, _⟩⟩ ?_ ⟨_, ⟨_, _, _, _⟩, ⟨_, _, _, _⟩⟩ ?_); (case hm => rfl); (case hle => (repeat' (first | exact u_nil | apply u_cons | apply u2_agg | exact u2_int | exact u1_int | exact u2_bool | exact u1_bool | exact u2_sli | exact u1_sli | exact u2_s0 | exact u1_s0))); all_goals (first | (rintro t ⟨ht, ⟨hp, hq⟩⟩; cbv) | (first | assumption | exact Iv.none_fit | (exact And.left (by assumption)) | (exact And.right (by assumption)))))
    | (apply E_callX hE (k_bkMinus ⟨_, ⟨_, _, _, _⟩, ⟨_, _, _, _⟩⟩ ?_ ⟨_, ⟨_, _, _, _⟩, ⟨_, _, _, _⟩⟩ ?_ ⟨_, ⟨_, _, _, _⟩, ⟨_, _, _, _⟩⟩ ?_); (case hf => rfl); (case hc => (cbv <;> trivial)); (case hle => (repeat' (first | exact u_nil | apply u_cons | apply u2_agg | exact u2_int | exact u1_int | exact u2_bool | exact u1_bool | exact u2_sli | exact u1_sli | exact u2_s0 | exact u1_s0))); all_goals (first | (rintro t ⟨ht, ⟨hp, hq⟩⟩; cbv) | (first | assumption | exact Iv.none_fit | (exact And.left (by assumption)) | (exact And.right (by assumption)))))
    | (apply E_pcallX hE (k_bkMinus ⟨_, ⟨_, _, _, _⟩, ⟨_, _, _, _⟩⟩ ?_ ⟨_, ⟨_, _, _, _⟩, ⟨_, _, _, _⟩⟩ ?_ ⟨_, ⟨_, _, _, _⟩, ⟨_, _, _, _⟩⟩ ?_); (case hm => rfl); (case hle => (repeat' (first | exact u_nil | apply u_cons | apply u2_agg | exact u2_int | exact u1_int | exact u2_bool | exact u1_bool | exact u2_sli | exact u1_sli | exact u2_s0 | exact u1_s0))); all_goals (first | (rintro t ⟨ht, ⟨hp, hq⟩⟩; cbv) | (first | assumption | exact Iv.none_fit | (exact And.left (by assumption)) | (exact And.right (by assumption)))))
    | (apply E_callX hE (k_bkTimes ⟨_, ⟨_, _, _, _⟩, ⟨_, _, _, _⟩⟩ ?_ ⟨_, ⟨_, _, _, _⟩, ⟨_, _, _, _⟩⟩ ?_ ⟨_, ⟨_, _, _, _⟩, ⟨_, _, _, _⟩⟩ ?_); (case hf => rfl); (case hc => (cbv <;> trivial)); (case hle => (repeat' (first | exact u_nil | apply u_cons | apply u2_agg | exact u2_int | exact u1_int | exact u2_bool | exact u1_bool | exact u2_sli | exact u1_sli | exact u2_s0 | exact u1_s0))); all_goals (first | (rintro t ⟨ht, ⟨hp, hq⟩⟩; cbv) | (first | assumption | exact Iv.none_fit | (exact And.left (by assumption)) | (exact And.right (by assumption)))))
    | (apply E_pcallX hE (k_bkTimes ⟨_, ⟨_, _, _, _⟩, ⟨_, _, _, _⟩⟩ ?_ ⟨_, ⟨_, _, _, _⟩, ⟨_, _, _, _⟩⟩ ?_ ⟨_, ⟨_, _, _, _⟩, ⟨_, _, _, _⟩⟩ ?_); (case hm => rfl); (case hle => (repeat' (first | exact u_nil | apply u_cons | apply u2_agg | exact u2_int | exact u1_int | exact u2_bool | exact u1_bool | exact u2_sli | exact u1_sli | exact u2_s0 | exact u1_s0))); all_goals (first | (rintro t ⟨ht, ⟨hp, hq⟩⟩; cbv) | (first | assumption | exact Iv.none_fit | (exact And.left (by assumption)) | (exact And.right (by assumption)))))
    | (apply E_callX hE (k_bkOver ⟨_, ⟨_, _, _, _⟩, ⟨_, _, _, _⟩⟩ ?_ ⟨_, ⟨_, _, _, _⟩, ⟨_, _, _, _⟩⟩ ?_ ⟨_, ⟨_, _, _, _⟩, ⟨_, _, _, _⟩⟩ ?_); (case hf => rfl); (case hc => (cbv <;> trivial)); (case hle => (repeat' (first | exact u_nil | apply u_cons | apply u2_agg | exact u2_int | exact u1_int | exact u2_bool | exact u1_bool | exact u2_sli | exact u1_sli | exact u2_s0 | exact u1_s0))); all_goals (first | (rintro t ⟨ht, ⟨hp, hq⟩⟩; cbv) | (first | assumption | exact Iv.none_fit | (exact And.left (by assumption)) | (exact And.right (by assumption)))))
    | (apply E_pcallX hE (k_bkOver ⟨_, ⟨_, _, _, _⟩, ⟨_, _, _, _⟩⟩ ?_ ⟨_, ⟨_, _, _, _⟩, ⟨_, _, _, _⟩⟩ ?_ ⟨_, ⟨_, _, _, _⟩, ⟨_, _, _, _⟩⟩ ?_); (case hm => rfl); (case hle => (repeat' (first | exact u_nil | apply u_cons | apply u2_agg | exact u2_int | exact u1_int | exact u2_bool | exact u1_bool | exact u2_sli | exact u1_sli | exact u2_s0 | exact u1_s0))); all_goals (first | (rintro t ⟨ht, ⟨hp, hq⟩⟩; cbv) | (first | assumption | exact Iv.none_fit | (exact And.left (by assumption)) | (exact And.right (by assumption)))))
    | (apply E_callX hE (k_bkSqr ⟨_, ⟨_, _, _, _⟩, ⟨_, _, _, _⟩⟩ ?_ ⟨_, ⟨_, _, _, _⟩, ⟨_, _, _, _⟩⟩ ?_); (case hf => rfl); (case hc => (cbv <;> trivial)); (case hle => (repeat' (first | exact u_nil | apply u_cons | apply u2_agg | exact u2_int | exact u1_int | exact u2_bool | exact u1_bool | exact u2_sli | exact u1_sli | exact u2_s0 | exact u1_s0))); all_goals (first | (rintro t ⟨ht, ho⟩; cbv) | (first | assumption | exact Iv.none_fit | (exact And.left (by assumption)) | (exact And.right (by assumption)))))
    | (apply E_pcallX hE (k_bkSqr ⟨_, ⟨_, _, _, _⟩, ⟨_, _, _, _⟩⟩ ?_ ⟨_, ⟨_, _, _, _⟩, ⟨_, _, _, _⟩⟩ ?_); (case hm => rfl); (case hle => (repeat' (first | exact u_nil | apply u_cons | apply u2_agg | exact u2_int | exact u1_int | exact u2_bool | exact u1_bool | exact u2_sli | exact u1_sli | exact u2_s0 | exact u1_s0))); all_goals (first | (rintro t ⟨ht, ho⟩; cbv) | (first | assumption | exact Iv.none_fit | (exact And.left (by assumption)) | (exact And.right (by assumption)))))
    | (apply E_callX hE (k_bkRoot ⟨_, ⟨_, _, _, _⟩, ⟨_, _, _, _⟩⟩ ?_ ⟨_, ⟨_, _, _, _⟩, ⟨_, _, _, _⟩⟩ ?_); (case hf => rfl); (case hc => (cbv <;> trivial)); (case hle => (repeat' (first | exact u_nil | apply u_cons | apply u2_agg | exact u2_int | exact u1_int | exact u2_bool | exact u1_bool | exact u2_sli | exact u1_sli | exact u2_s0 | exact u1_s0))); all_goals (first | (rintro t ⟨ht, ho⟩; cbv) | (first | assumption | exact Iv.none_fit | (exact And.left (by assumption)) | (exact And.right (by assumption)))))
    | (apply E_pcallX hE (k_bkRoot ⟨_, ⟨_, _, _, _⟩, ⟨_, _, _, _⟩⟩ ?_ ⟨_, ⟨_, _, _, _⟩, ⟨_, _, _, _⟩⟩ ?_); (case hm => rfl); (case hle => (repeat' (first | exact u_nil | apply u_cons | apply u2_agg | exact u2_int | exact u1_int | exact u2_bool | exact u1_bool | exact u2_sli | exact u1_sli | exact u2_s0 | exact u1_s0))); all_goals (first | (rintro t ⟨ht, ho⟩; cbv) | (first | assumption | exact Iv.none_fit | (exact And.left (by assumption)) | (exact And.right (by assumption)))))
    | (apply E_callX hE (k_bkNeg ⟨_, ⟨_, _, _, _⟩, ⟨_, _, _, _⟩⟩ ?_ ⟨_, ⟨_, _, _, _⟩, ⟨_, _, _, _⟩⟩ ?_); (case hf => rfl); (case hc => (cbv <;> trivial)); (case hle => (repeat' (first | exact u_nil | apply u_cons | apply u2_agg | exact u2_int | exact u1_int | exact u2_bool | exact u1_bool | exact u2_sli | exact u1_sli | exact u2_s0 | exact u1_s0))); all_goals (first | (rintro t ⟨ht, ho⟩; cbv) | (first | assumption | exact Iv.none_fit | (exact And.left (by assumption)) | (exact And.right (by assumption)))))
    | (apply E_pcallX hE (k_bkNeg ⟨_, ⟨_, _, _, _⟩, ⟨_, _, _, _⟩⟩ ?_ ⟨_, ⟨_, _, _, _⟩, ⟨_, _, _, _⟩⟩ ?_); (case hm => rfl); (case hle => (repeat' (first | exact u_nil | apply u_cons | apply u2_agg | exact u2_int | exact u1_int | exact u2_bool | exact u1_bool | exact u2_sli | exact u1_sli | exact u2_s0 | exact u1_s0))); all_goals (first | (rintro t ⟨ht, ho⟩; cbv) | (first | assumption | exact Iv.none_fit | (exact And.left (by assumption)) | (exact And.right (by assumption)))))
    | fail)
  all_goals subst hE
  all_goals (try simp only [NatCast.natCast, Int.ofNat_eq_natCast, realE, cmp_eql, cmp_neq, cmp_lss, cmp_leq, cmp_gtr, cmp_geq, intBinR, SI.val, SB.val, Num.eta, Iv.eta] at *)
  all_goals subst hr
  all_goals (have L := withinB hz hx hy; have La := L.a; have Lb := L.b; have Lc := L.c; have Ld := L.d; have Le := L.e; have Lf := L.f; have Lg := L.g; have Lh := L.h; have Ls := L.s; have Lr := L.r; have Ln := L.n; clear L)
  all_goals (simp_all only [reduceCtorEq])

end Go.Proofs.Ytincnfjihffllaa.Ev
