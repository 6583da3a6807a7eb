/- Texts of the proof, joined: Ok1 -/
import Derived.Test.YtincnfjihffllaaB4
set_option linter.unusedVariables false
set_option linter.unusedSimpArgs false

/- Contracts that tell besides that a result's bits are 64. -/
namespace Go.Proofs.Ytincnfjihffllaa.Ev
open Go Go.Proofs
set_option linter.unusedVariables false
set_option linter.unusedSimpArgs false
def Iv.ok (x : Iv) : Prop := x.lo.ok ∧ x.hi.ok
theorem Iv.none_ok : Iv.none.ok := ⟨Num.zero_ok, Num.zero_ok⟩
theorem Iv.all_ok : Iv.all.ok := ⟨Num.inf_ok _, Num.inf_ok _⟩
theorem Iv.fair_ok {x : Iv} (h : x.ok) : x.fair.ok := by
  unfold Iv.fair
  split
  · exact h
  · exact Iv.none_ok
theorem Iv.make_ok' {lo hi : Num} (h1 : lo.ok) (h2 : hi.ok) : (Iv.make lo hi).ok := Iv.make_ok h1 h2
theorem Iv.point_ok' {n : Num} (h : n.ok) : (Iv.point n).ok := Iv.make_ok h h
theorem Iv.goods_ok {l : List Iv} (h : ∀ x ∈ l, x.ok) : ∀ x ∈ Iv.goods l, x.ok := by
  induction l with
  | nil => intro x hx; cases hx
  | cons a r ih =>
    intro x hx
    simp only [Iv.goods] at hx
    have ih' := ih (fun y hy => h y (List.mem_cons_of_mem _ hy))
    split at hx
    · exact ih' x hx
    · rcases List.mem_cons.1 hx with rfl | hx
      · exact Iv.fair_ok (h a (List.mem_cons_self ..))
      · exact ih' x hx
theorem Iv.los_ok {l : List Iv} (h : ∀ x ∈ l, x.ok) : ∀ x ∈ Iv.los l, x.ok := by
  intro x hx
  obtain ⟨y, hy, rfl⟩ := List.mem_map.1 hx
  exact (Iv.goods_ok h y hy).1
theorem Iv.his_ok {l : List Iv} (h : ∀ x ∈ l, x.ok) : ∀ x ∈ Iv.his l, x.ok := by
  intro x hx
  obtain ⟨y, hy, rfl⟩ := List.mem_map.1 hx
  exact (Iv.goods_ok h y hy).2
theorem Num.least_ok {l : List Num} (h : ∀ x ∈ l, x.ok) : (Num.least l).ok := (Num.least_spec l h).2.1
theorem Num.most_ok {l : List Num} (h : ∀ x ∈ l, x.ok) : (Num.most l).ok := (Num.most_spec l h).2.1
theorem Iv.meet_ok {l : List Iv} (h : ∀ x ∈ l, x.ok) : (Iv.meet l).ok := by
  unfold Iv.meet
  split
  · exact Iv.make_ok (Num.most_ok (Iv.los_ok h)) (Num.least_ok (Iv.his_ok h))
  · exact Iv.none_ok
theorem Iv.hull_ok {l : List Iv} (h : ∀ x ∈ l, x.ok) : (Iv.hull l).ok := by
  unfold Iv.hull
  split
  · exact Iv.none_ok
  · exact Iv.make_ok (Num.least_ok (Iv.los_ok h)) (Num.most_ok (Iv.his_ok h))
theorem Iv.add_ok {l : List Iv} (h : ∀ x ∈ l, x.ok) : (Iv.add l).ok := by
  unfold Iv.add
  split
  · exact Iv.none_ok
  · have := Iv.addEnds_ok h
    exact Iv.make_ok this.1 this.2
theorem all1 {p : Iv → Prop} {a : Iv} (h1 : p a) : ∀ x ∈ [a], p x := by
  intro x hx; simp only [List.mem_cons, List.not_mem_nil, or_false] at hx; subst hx; exact h1
theorem all2 {p : Iv → Prop} {a b : Iv} (h1 : p a) (h2 : p b) : ∀ x ∈ [a, b], p x := by
  intro x hx; simp only [List.mem_cons, List.not_mem_nil, or_false] at hx; rcases hx with rfl | rfl <;> assumption
theorem Iv.sub_ok {a b : Iv} (h1 : a.ok) (h2 : b.ok) : (Iv.sub a b).ok := Iv.add_ok (all2 h1 (Iv.neg_ok h2.1 h2.2))
theorem Iv.corners_ok' {F : Num → Num → Bool → Num} {a b : Iv} (hF : ∀ x y up, x.ok → y.ok → (F x y up).ok) (ha : a.ok) (hb : b.ok) : (Iv.corners F a b).ok := by
  refine Iv.corners_ok (fun x hx y hy up => ?_)
  simp only [List.mem_cons, List.not_mem_nil, or_false] at hx hy
  rcases hx with rfl | rfl <;> rcases hy with rfl | rfl <;> first | exact hF _ _ _ ha.1 hb.1 | exact hF _ _ _ ha.1 hb.2 | exact hF _ _ _ ha.2 hb.1 | exact hF _ _ _ ha.2 hb.2
theorem Iv.div_ok {a b : Iv} (ha : a.ok) (hb : b.ok) : (Iv.div a b).ok := by
  unfold Iv.div
  split
  · exact Iv.none_ok
  · split
    · exact Iv.corners_ok' (fun x y up hx hy => Num.div_ok hx hy up) ha hb
    · split
      · exact Iv.all_ok
      · have n1 : (if a.lo.sign < 0 then a.hi else a.lo).ok := by split; exact ha.2; exact ha.1
        have n2 : (if b.hi.sign = 0 then b.lo else b.hi).ok := by split; exact hb.1; exact hb.2
        generalize (if a.lo.sign < 0 then a.hi else a.lo) = p at *
        generalize (if b.hi.sign = 0 then b.lo else b.hi) = q at *
        unfold Iv.half
        split
        · exact Iv.make_ok (Num.div_ok n1 n2 _) (Num.inf_ok _)
        · exact Iv.make_ok (Num.inf_ok _) (Num.div_ok n1 n2 _)
theorem Iv.sqr_ok {a : Iv} (h : a.ok) : (Iv.sqr a).ok := by
  have h1 := Iv.abs_ok h.1 h.2
  unfold Iv.sqr
  split
  · exact h1
  · exact Iv.make_ok (Num.mul_ok h1.1 h1.1 _) (Num.mul_ok h1.2 h1.2 _)

theorem withQ {τ : Type} {f : τ} {p : τ → Prop} {C : τ → Prop} (h : ∃ t, t = f ∧ C t) (hp : p f) : ∃ t, (t = f ∧ p t) ∧ C t := by
  obtain ⟨t, rfl, hC⟩ := h
  exact ⟨t, ⟨rfl, hp⟩, hC⟩

theorem k_ivOf (m : Int) (lm : -9223372036854775808 ≤ m) (um : m < 9223372036854775808) (n : Int) (ln : -9223372036854775808 ≤ n) (un : n < 9223372036854775808) : ∃ t : Iv, (t = Iv.ofInts m n ∧ (t.lo.ok ∧ t.hi.ok)) ∧ CallsA Try.prog 103 [.int .i64 (.s m), .int .i64 (.s n)] t.av :=
  withQ (p := fun t : Iv => t.lo.ok ∧ t.hi.ok) (c_ivOf m n lm um ln un) (Iv.ofInts_ok m n)
theorem k_Of (n : Int) (ln : -9223372036854775808 ≤ n) (un : n < 9223372036854775808) : ∃ t : Num, (t = Num.ofInt n ∧ t.ok) ∧ CallsA Try.prog 29 [.int .i64 (.s n)] t.av :=
  withQ (p := fun t : Num => t.ok) (c_Of n ln un) (Num.ofInt_ok n)
theorem k_ivPoint (n : Num) (hn : n.ok) : ∃ t : Iv, (t = Iv.point n ∧ (t.lo.ok ∧ t.hi.ok)) ∧ CallsA Try.prog 42 [n.av] t.av :=
  withQ (p := fun t : Iv => t.lo.ok ∧ t.hi.ok) (c_ivPoint n) (Iv.point_ok' hn)
theorem k_opMul (a : Iv) (ha : a.lo.ok ∧ a.hi.ok) (b : Iv) (hb : b.lo.ok ∧ b.hi.ok) : ∃ t : Iv, (t = Iv.mul a b ∧ (t.lo.ok ∧ t.hi.ok)) ∧ CallsA Try.prog 37 [a.av, b.av] t.av :=
  withQ (p := fun t : Iv => t.lo.ok ∧ t.hi.ok) (c_opMul a b ha.1 ha.2 hb.1 hb.2) (Iv.mul_ok ha.1 ha.2 hb.1 hb.2)
theorem k_opDiv (a : Iv) (ha : a.lo.ok ∧ a.hi.ok) (b : Iv) (hb : b.lo.ok ∧ b.hi.ok) : ∃ t : Iv, (t = Iv.div a b ∧ (t.lo.ok ∧ t.hi.ok)) ∧ CallsA Try.prog 39 [a.av, b.av] t.av :=
  withQ (p := fun t : Iv => t.lo.ok ∧ t.hi.ok) (c_opDiv a b ha.1 ha.2 hb.1 hb.2) (Iv.div_ok ha hb)
theorem k_opSub (a : Iv) (ha : a.lo.ok ∧ a.hi.ok) (b : Iv) (hb : b.lo.ok ∧ b.hi.ok) : ∃ t : Iv, (t = Iv.sub a b ∧ (t.lo.ok ∧ t.hi.ok)) ∧ CallsA Try.prog 46 [a.av, b.av] t.av :=
  withQ (p := fun t : Iv => t.lo.ok ∧ t.hi.ok) (c_opSub a b ha.1 ha.2 hb.1 hb.2) (Iv.sub_ok ha hb)
theorem k_opNeg (a : Iv) (ha : a.lo.ok ∧ a.hi.ok) : ∃ t : Iv, (t = Iv.neg a ∧ (t.lo.ok ∧ t.hi.ok)) ∧ CallsA Try.prog 48 [a.av] t.av :=
  withQ (p := fun t : Iv => t.lo.ok ∧ t.hi.ok) (c_opNeg a) (Iv.neg_ok ha.1 ha.2)
theorem k_opAbs (a : Iv) (ha : a.lo.ok ∧ a.hi.ok) : ∃ t : Iv, (t = Iv.abs a ∧ (t.lo.ok ∧ t.hi.ok)) ∧ CallsA Try.prog 54 [a.av] t.av :=
  withQ (p := fun t : Iv => t.lo.ok ∧ t.hi.ok) (c_opAbs a) (Iv.abs_ok ha.1 ha.2)
theorem k_opSqr (a : Iv) (ha : a.lo.ok ∧ a.hi.ok) : ∃ t : Iv, (t = Iv.sqr a ∧ (t.lo.ok ∧ t.hi.ok)) ∧ CallsA Try.prog 52 [a.av] t.av :=
  withQ (p := fun t : Iv => t.lo.ok ∧ t.hi.ok) (c_opSqr a ha.1 ha.2) (Iv.sqr_ok ha)
theorem k_opAdd2 (a : Iv) (ha : a.lo.ok ∧ a.hi.ok) (b : Iv) (hb : b.lo.ok ∧ b.hi.ok) : ∃ t : Iv, (t = Iv.add [a, b] ∧ (t.lo.ok ∧ t.hi.ok)) ∧ CallsA Try.prog 44 [.slc 9 (.s 2) (fun i => Iv.cells ([a, b].getD i Iv.none))] t.av :=
  withQ (p := fun t : Iv => t.lo.ok ∧ t.hi.ok) (c_opAdd [a, b] 2 rfl (by decide) (all2 ha hb)) (Iv.add_ok (all2 ha hb))
theorem k_meet1 (a : Iv) (ha : a.lo.ok ∧ a.hi.ok) : ∃ t : Iv, (t = Iv.meet [a] ∧ (t.lo.ok ∧ t.hi.ok)) ∧ CallsA Try.prog 128 [.slc 9 (.s 1) (fun i => Iv.cells ([a].getD i Iv.none))] t.av :=
  withQ (p := fun t : Iv => t.lo.ok ∧ t.hi.ok) (c_meet [a] 1 rfl (by decide)) (Iv.meet_ok (all1 ha))
theorem k_meet2 (a : Iv) (ha : a.lo.ok ∧ a.hi.ok) (b : Iv) (hb : b.lo.ok ∧ b.hi.ok) : ∃ t : Iv, (t = Iv.meet [a, b] ∧ (t.lo.ok ∧ t.hi.ok)) ∧ CallsA Try.prog 128 [.slc 9 (.s 2) (fun i => Iv.cells ([a, b].getD i Iv.none))] t.av :=
  withQ (p := fun t : Iv => t.lo.ok ∧ t.hi.ok) (c_meet [a, b] 2 rfl (by decide)) (Iv.meet_ok (all2 ha hb))
theorem k_hull2 (a : Iv) (ha : a.lo.ok ∧ a.hi.ok) (b : Iv) (hb : b.lo.ok ∧ b.hi.ok) : ∃ t : Iv, (t = Iv.hull [a, b] ∧ (t.lo.ok ∧ t.hi.ok)) ∧ CallsA Try.prog 50 [.slc 9 (.s 2) (fun i => Iv.cells ([a, b].getD i Iv.none))] t.av :=
  withQ (p := fun t : Iv => t.lo.ok ∧ t.hi.ok) (c_hull [a, b] 2 rfl (by decide)) (Iv.hull_ok (all2 ha hb))
theorem k_ivMake (x : Num) (hx : x.ok) (y : Num) (hy : y.ok) : ∃ t : Iv, (t = Iv.make x y ∧ (t.lo.ok ∧ t.hi.ok)) ∧ CallsA Try.prog 114 [x.av, y.av] t.av :=
  withQ (p := fun t : Iv => t.lo.ok ∧ t.hi.ok) (c_ivMake x y) (Iv.make_ok hx hy)
theorem k_arMul (x : Num) (hx : x.ok) (y : Num) (hy : y.ok) (up : Bool) : ∃ t : Num, (t = Num.mul x y up ∧ t.ok) ∧ CallsA Try.prog 106 [x.av, y.av, .bool (.s up)] t.av :=
  withQ (p := fun t : Num => t.ok) (c_arMul x y up hx hy) (Num.mul_ok hx hy up)
theorem k_arAdd (x : Num) (hx : x.ok) (y : Num) (hy : y.ok) (up : Bool) : ∃ t : Num, (t = Num.add x y up ∧ t.ok) ∧ CallsA Try.prog 121 [x.av, y.av, .bool (.s up)] t.av :=
  withQ (p := fun t : Num => t.ok) (c_arAdd x y up hx hy) (Num.add_ok hx hy up)
theorem k_quDiv (x : Num) (hx : x.ok) (y : Num) (hy : y.ok) (up : Bool) : ∃ t : Num, (t = Num.div x y up ∧ t.ok) ∧ CallsA Try.prog 20 [x.av, y.av, .bool (.s up)] t.av :=
  withQ (p := fun t : Num => t.ok) (c_quDiv x y up hx hy) (Num.div_ok hx hy up)
end Go.Proofs.Ytincnfjihffllaa.Ev
