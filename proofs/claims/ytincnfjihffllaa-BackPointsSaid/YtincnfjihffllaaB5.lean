/- Texts of the proof, joined: Ok1 Bn1 Bn2 Bn3 Bn4 Bn5 Bn6 Bn7 Bn8 Bn9 Bn10 Bn11 Bn12 C22 Ev28 N1 N2 N3 N4 N5 N6 N7 N8 -/
import Derived.Test.YtincnfjihffllaaB4
set_option linter.unusedVariables false
set_option linter.unusedSimpArgs false

/- Contracts that tell besides that a result's bits are 64. -/
namespace Go.Proofs.Ytincnfjihffllaa.Ev
open Go Go.Proofs
set_option linter.unusedVariables false
set_option linter.unusedSimpArgs false
def Iv.ok (x : Iv) : Prop := x.lo.ok ∧ x.hi.ok
theorem Iv.none_ok : Iv.none.ok := ⟨Num.zero_ok, Num.zero_ok⟩
theorem Iv.all_ok : Iv.all.ok := ⟨Num.inf_ok _, Num.inf_ok _⟩
theorem Iv.fair_ok {x : Iv} (h : x.ok) : x.fair.ok := by
  unfold Iv.fair
  split
  · exact h
  · exact Iv.none_ok
theorem Iv.make_ok' {lo hi : Num} (h1 : lo.ok) (h2 : hi.ok) : (Iv.make lo hi).ok := Iv.make_ok h1 h2
theorem Iv.point_ok' {n : Num} (h : n.ok) : (Iv.point n).ok := Iv.make_ok h h
theorem Iv.goods_ok {l : List Iv} (h : ∀ x ∈ l, x.ok) : ∀ x ∈ Iv.goods l, x.ok := by
  induction l with
  | nil => intro x hx; cases hx
  | cons a r ih =>
    intro x hx
    simp only [Iv.goods] at hx
    have ih' := ih (fun y hy => h y (List.mem_cons_of_mem _ hy))
    split at hx
    · exact ih' x hx
    · rcases List.mem_cons.1 hx with rfl | hx
      · exact Iv.fair_ok (h a (List.mem_cons_self ..))
      · exact ih' x hx
theorem Iv.los_ok {l : List Iv} (h : ∀ x ∈ l, x.ok) : ∀ x ∈ Iv.los l, x.ok := by
  intro x hx
  obtain ⟨y, hy, rfl⟩ := List.mem_map.1 hx
  exact (Iv.goods_ok h y hy).1
theorem Iv.his_ok {l : List Iv} (h : ∀ x ∈ l, x.ok) : ∀ x ∈ Iv.his l, x.ok := by
  intro x hx
  obtain ⟨y, hy, rfl⟩ := List.mem_map.1 hx
  exact (Iv.goods_ok h y hy).2
theorem Num.least_ok {l : List Num} (h : ∀ x ∈ l, x.ok) : (Num.least l).ok := (Num.least_spec l h).2.1
theorem Num.most_ok {l : List Num} (h : ∀ x ∈ l, x.ok) : (Num.most l).ok := (Num.most_spec l h).2.1
theorem Iv.meet_ok {l : List Iv} (h : ∀ x ∈ l, x.ok) : (Iv.meet l).ok := by
  unfold Iv.meet
  split
  · exact Iv.make_ok (Num.most_ok (Iv.los_ok h)) (Num.least_ok (Iv.his_ok h))
  · exact Iv.none_ok
theorem Iv.hull_ok {l : List Iv} (h : ∀ x ∈ l, x.ok) : (Iv.hull l).ok := by
  unfold Iv.hull
  split
  · exact Iv.none_ok
  · exact Iv.make_ok (Num.least_ok (Iv.los_ok h)) (Num.most_ok (Iv.his_ok h))
theorem Iv.add_ok {l : List Iv} (h : ∀ x ∈ l, x.ok) : (Iv.add l).ok := by
  unfold Iv.add
  split
  · exact Iv.none_ok
  · have := Iv.addEnds_ok h
    exact Iv.make_ok this.1 this.2
theorem all1 {p : Iv → Prop} {a : Iv} (h1 : p a) : ∀ x ∈ [a], p x := by
  intro x hx; simp only [List.mem_cons, List.not_mem_nil, or_false] at hx; subst hx; exact h1
theorem all2 {p : Iv → Prop} {a b : Iv} (h1 : p a) (h2 : p b) : ∀ x ∈ [a, b], p x := by
  intro x hx; simp only [List.mem_cons, List.not_mem_nil, or_false] at hx; rcases hx with rfl | rfl <;> assumption
theorem Iv.sub_ok {a b : Iv} (h1 : a.ok) (h2 : b.ok) : (Iv.sub a b).ok := Iv.add_ok (all2 h1 (Iv.neg_ok h2.1 h2.2))
theorem Iv.corners_ok' {F : Num → Num → Bool → Num} {a b : Iv} (hF : ∀ x y up, x.ok → y.ok → (F x y up).ok) (ha : a.ok) (hb : b.ok) : (Iv.corners F a b).ok := by
  refine Iv.corners_ok (fun x hx y hy up => ?_)
  simp only [List.mem_cons, List.not_mem_nil, or_false] at hx hy
  rcases hx with rfl | rfl <;> rcases hy with rfl | rfl <;> first | exact hF _ _ _ ha.1 hb.1 | exact hF _ _ _ ha.1 hb.2 | exact hF _ _ _ ha.2 hb.1 | exact hF _ _ _ ha.2 hb.2
theorem Iv.div_ok {a b : Iv} (ha : a.ok) (hb : b.ok) : (Iv.div a b).ok := by
  unfold Iv.div
  split
  · exact Iv.none_ok
  · split
    · exact Iv.corners_ok' (fun x y up hx hy => Num.div_ok hx hy up) ha hb
    · split
      · exact Iv.all_ok
      · have n1 : (if a.lo.sign < 0 then a.hi else a.lo).ok := by split; exact ha.2; exact ha.1
        have n2 : (if b.hi.sign = 0 then b.lo else b.hi).ok := by split; exact hb.1; exact hb.2
        generalize (if a.lo.sign < 0 then a.hi else a.lo) = p at *
        generalize (if b.hi.sign = 0 then b.lo else b.hi) = q at *
        unfold Iv.half
        split
        · exact Iv.make_ok (Num.div_ok n1 n2 _) (Num.inf_ok _)
        · exact Iv.make_ok (Num.inf_ok _) (Num.div_ok n1 n2 _)
theorem Iv.sqr_ok {a : Iv} (h : a.ok) : (Iv.sqr a).ok := by
  have h1 := Iv.abs_ok h.1 h.2
  unfold Iv.sqr
  split
  · exact h1
  · exact Iv.make_ok (Num.mul_ok h1.1 h1.1 _) (Num.mul_ok h1.2 h1.2 _)

theorem withQ {τ : Type} {f : τ} {p : τ → Prop} {C : τ → Prop} (h : ∃ t, t = f ∧ C t) (hp : p f) : ∃ t, (t = f ∧ p t) ∧ C t := by
  obtain ⟨t, rfl, hC⟩ := h
  exact ⟨t, ⟨rfl, hp⟩, hC⟩

theorem k_ivOf (m : Int) (lm : -9223372036854775808 ≤ m) (um : m < 9223372036854775808) (n : Int) (ln : -9223372036854775808 ≤ n) (un : n < 9223372036854775808) : ∃ t : Iv, (t = Iv.ofInts m n ∧ (t.lo.ok ∧ t.hi.ok)) ∧ CallsA Try.prog 103 [.int .i64 (.s m), .int .i64 (.s n)] t.av :=
  withQ (p := fun t : Iv => t.lo.ok ∧ t.hi.ok) (c_ivOf m n lm um ln un) (Iv.ofInts_ok m n)
theorem k_Of (n : Int) (ln : -9223372036854775808 ≤ n) (un : n < 9223372036854775808) : ∃ t : Num, (t = Num.ofInt n ∧ t.ok) ∧ CallsA Try.prog 29 [.int .i64 (.s n)] t.av :=
  withQ (p := fun t : Num => t.ok) (c_Of n ln un) (Num.ofInt_ok n)
theorem k_ivPoint (n : Num) (hn : n.ok) : ∃ t : Iv, (t = Iv.point n ∧ (t.lo.ok ∧ t.hi.ok)) ∧ CallsA Try.prog 42 [n.av] t.av :=
  withQ (p := fun t : Iv => t.lo.ok ∧ t.hi.ok) (c_ivPoint n) (Iv.point_ok' hn)
theorem k_opMul (a : Iv) (ha : a.lo.ok ∧ a.hi.ok) (b : Iv) (hb : b.lo.ok ∧ b.hi.ok) : ∃ t : Iv, (t = Iv.mul a b ∧ (t.lo.ok ∧ t.hi.ok)) ∧ CallsA Try.prog 37 [a.av, b.av] t.av :=
  withQ (p := fun t : Iv => t.lo.ok ∧ t.hi.ok) (c_opMul a b ha.1 ha.2 hb.1 hb.2) (Iv.mul_ok ha.1 ha.2 hb.1 hb.2)
theorem k_opDiv (a : Iv) (ha : a.lo.ok ∧ a.hi.ok) (b : Iv) (hb : b.lo.ok ∧ b.hi.ok) : ∃ t : Iv, (t = Iv.div a b ∧ (t.lo.ok ∧ t.hi.ok)) ∧ CallsA Try.prog 39 [a.av, b.av] t.av :=
  withQ (p := fun t : Iv => t.lo.ok ∧ t.hi.ok) (c_opDiv a b ha.1 ha.2 hb.1 hb.2) (Iv.div_ok ha hb)
theorem k_opSub (a : Iv) (ha : a.lo.ok ∧ a.hi.ok) (b : Iv) (hb : b.lo.ok ∧ b.hi.ok) : ∃ t : Iv, (t = Iv.sub a b ∧ (t.lo.ok ∧ t.hi.ok)) ∧ CallsA Try.prog 46 [a.av, b.av] t.av :=
  withQ (p := fun t : Iv => t.lo.ok ∧ t.hi.ok) (c_opSub a b ha.1 ha.2 hb.1 hb.2) (Iv.sub_ok ha hb)
theorem k_opNeg (a : Iv) (ha : a.lo.ok ∧ a.hi.ok) : ∃ t : Iv, (t = Iv.neg a ∧ (t.lo.ok ∧ t.hi.ok)) ∧ CallsA Try.prog 48 [a.av] t.av :=
  withQ (p := fun t : Iv => t.lo.ok ∧ t.hi.ok) (c_opNeg a) (Iv.neg_ok ha.1 ha.2)
theorem k_opAbs (a : Iv) (ha : a.lo.ok ∧ a.hi.ok) : ∃ t : Iv, (t = Iv.abs a ∧ (t.lo.ok ∧ t.hi.ok)) ∧ CallsA Try.prog 54 [a.av] t.av :=
  withQ (p := fun t : Iv => t.lo.ok ∧ t.hi.ok) (c_opAbs a) (Iv.abs_ok ha.1 ha.2)
theorem k_opSqr (a : Iv) (ha : a.lo.ok ∧ a.hi.ok) : ∃ t : Iv, (t = Iv.sqr a ∧ (t.lo.ok ∧ t.hi.ok)) ∧ CallsA Try.prog 52 [a.av] t.av :=
  withQ (p := fun t : Iv => t.lo.ok ∧ t.hi.ok) (c_opSqr a ha.1 ha.2) (Iv.sqr_ok ha)
theorem k_opAdd2 (a : Iv) (ha : a.lo.ok ∧ a.hi.ok) (b : Iv) (hb : b.lo.ok ∧ b.hi.ok) : ∃ t : Iv, (t = Iv.add [a, b] ∧ (t.lo.ok ∧ t.hi.ok)) ∧ CallsA Try.prog 44 [.slc 9 (.s 2) (fun i => Iv.cells ([a, b].getD i Iv.none))] t.av :=
  withQ (p := fun t : Iv => t.lo.ok ∧ t.hi.ok) (c_opAdd [a, b] 2 rfl (by decide) (all2 ha hb)) (Iv.add_ok (all2 ha hb))
theorem k_meet1 (a : Iv) (ha : a.lo.ok ∧ a.hi.ok) : ∃ t : Iv, (t = Iv.meet [a] ∧ (t.lo.ok ∧ t.hi.ok)) ∧ CallsA Try.prog 128 [.slc 9 (.s 1) (fun i => Iv.cells ([a].getD i Iv.none))] t.av :=
  withQ (p := fun t : Iv => t.lo.ok ∧ t.hi.ok) (c_meet [a] 1 rfl (by decide)) (Iv.meet_ok (all1 ha))
theorem k_meet2 (a : Iv) (ha : a.lo.ok ∧ a.hi.ok) (b : Iv) (hb : b.lo.ok ∧ b.hi.ok) : ∃ t : Iv, (t = Iv.meet [a, b] ∧ (t.lo.ok ∧ t.hi.ok)) ∧ CallsA Try.prog 128 [.slc 9 (.s 2) (fun i => Iv.cells ([a, b].getD i Iv.none))] t.av :=
  withQ (p := fun t : Iv => t.lo.ok ∧ t.hi.ok) (c_meet [a, b] 2 rfl (by decide)) (Iv.meet_ok (all2 ha hb))
theorem k_hull2 (a : Iv) (ha : a.lo.ok ∧ a.hi.ok) (b : Iv) (hb : b.lo.ok ∧ b.hi.ok) : ∃ t : Iv, (t = Iv.hull [a, b] ∧ (t.lo.ok ∧ t.hi.ok)) ∧ CallsA Try.prog 50 [.slc 9 (.s 2) (fun i => Iv.cells ([a, b].getD i Iv.none))] t.av :=
  withQ (p := fun t : Iv => t.lo.ok ∧ t.hi.ok) (c_hull [a, b] 2 rfl (by decide)) (Iv.hull_ok (all2 ha hb))
theorem k_ivMake (x : Num) (hx : x.ok) (y : Num) (hy : y.ok) : ∃ t : Iv, (t = Iv.make x y ∧ (t.lo.ok ∧ t.hi.ok)) ∧ CallsA Try.prog 114 [x.av, y.av] t.av :=
  withQ (p := fun t : Iv => t.lo.ok ∧ t.hi.ok) (c_ivMake x y) (Iv.make_ok hx hy)
theorem k_arMul (x : Num) (hx : x.ok) (y : Num) (hy : y.ok) (up : Bool) : ∃ t : Num, (t = Num.mul x y up ∧ t.ok) ∧ CallsA Try.prog 106 [x.av, y.av, .bool (.s up)] t.av :=
  withQ (p := fun t : Num => t.ok) (c_arMul x y up hx hy) (Num.mul_ok hx hy up)
theorem k_arAdd (x : Num) (hx : x.ok) (y : Num) (hy : y.ok) (up : Bool) : ∃ t : Num, (t = Num.add x y up ∧ t.ok) ∧ CallsA Try.prog 121 [x.av, y.av, .bool (.s up)] t.av :=
  withQ (p := fun t : Num => t.ok) (c_arAdd x y up hx hy) (Num.add_ok hx hy up)
theorem k_quDiv (x : Num) (hx : x.ok) (y : Num) (hy : y.ok) (up : Bool) : ∃ t : Num, (t = Num.div x y up ∧ t.ok) ∧ CallsA Try.prog 20 [x.av, y.av, .bool (.s up)] t.av :=
  withQ (p := fun t : Num => t.ok) (c_quDiv x y up hx hy) (Num.div_ok hx hy up)
end Go.Proofs.Ytincnfjihffllaa.Ev

/- Limbs of 32 bits, the lowest first, and the natural numbers that they are: plain Lean. -/
namespace Go.Proofs.Ytincnfjihffllaa.Ev
open Go

/-- what limbs come to -/
def lv : List Int → Nat
  | [] => 0
  | x :: r => x.toNat + 4294967296 * lv r

/-- each of them one of 32 bits -/
def Lb (a : List Int) : Prop := ∀ x ∈ a, 0 ≤ x ∧ x < 4294967296

def limF : Nat → Nat → List Int
  | 0, _ => []
  | f + 1, n => if n = 0 then [] else ((n % 4294967296 : Nat) : Int) :: limF f (n / 4294967296)
/-- a number's limbs, none too many -/
def lim (n : Nat) : List Int := limF (n.log2 + 1) n

/-- no nought at the end -/
def Cn : List Int → Prop
  | [] => True
  | x :: r => (0 ≤ x ∧ x < 4294967296) ∧ Cn r ∧ (r = [] → x ≠ 0)

theorem Cn.lb : ∀ {a : List Int}, Cn a → Lb a
  | [], _, x, hx => by cases hx
  | y :: r, h, x, hx => by
    rcases List.mem_cons.1 hx with rfl | hx
    · exact h.1
    · exact Cn.lb h.2.1 x hx

theorem Lb.tail {x : Int} {r : List Int} (h : Lb (x :: r)) : Lb r := fun y hy => h y (List.mem_cons_of_mem _ hy)
theorem Lb.head {x : Int} {r : List Int} (h : Lb (x :: r)) : 0 ≤ x ∧ x < 4294967296 := h x (List.mem_cons_self ..)
theorem Lb.nil : Lb [] := fun x hx => by cases hx
theorem Lb.cons {x : Int} {r : List Int} (h0 : 0 ≤ x) (h1 : x < 4294967296) (h : Lb r) : Lb (x :: r) := by
  intro y hy
  rcases List.mem_cons.1 hy with rfl | hy
  · exact ⟨h0, h1⟩
  · exact h y hy
theorem Lb.take {a : List Int} (h : Lb a) (n : Nat) : Lb (a.take n) := fun x hx => h x (List.mem_of_mem_take hx)
theorem Lb.drop {a : List Int} (h : Lb a) (n : Nat) : Lb (a.drop n) := fun x hx => h x (List.mem_of_mem_drop hx)
theorem Lb.set {a : List Int} (h : Lb a) (n : Nat) {v : Int} (h0 : 0 ≤ v) (h1 : v < 4294967296) : Lb (a.set n v) := by
  intro x hx
  rcases List.mem_or_eq_of_mem_set hx with hx | rfl
  · exact h x hx
  · exact ⟨h0, h1⟩
theorem Lb.append {a b : List Int} (h : Lb a) (k : Lb b) : Lb (a ++ b) := by
  intro x hx
  rcases List.mem_append.1 hx with hx | hx
  · exact h x hx
  · exact k x hx
theorem Lb.replicate (n : Nat) : Lb (List.replicate n 0) := by
  intro x hx
  have := List.eq_of_mem_replicate hx
  omega
theorem Lb.getD {a : List Int} (h : Lb a) (i : Nat) : 0 ≤ a.getD i 0 ∧ a.getD i 0 < 4294967296 := by
  rcases Nat.lt_or_ge i a.length with hi | hi
  · have : a.getD i 0 = a[i] := by simp [List.getD, List.getElem?_eq_getElem hi]
    rw [this]
    exact h _ (List.getElem_mem hi)
  · have : a.getD i 0 = 0 := by simp [List.getD, List.getElem?_eq_none hi]
    omega

theorem limF_spec : ∀ (f n : Nat), n < 4294967296 ^ f → lv (limF f n) = n ∧ Cn (limF f n)
  | 0, n, h => by
    have : n = 0 := by simpa using h
    subst this
    exact ⟨rfl, trivial⟩
  | f + 1, n, h => by
    simp only [limF]
    by_cases hn : n = 0
    · subst hn; exact ⟨rfl, trivial⟩
    · rw [if_neg hn]
      have hd : n / 4294967296 < 4294967296 ^ f := by
        rw [Nat.pow_succ] at h
        exact Nat.div_lt_of_lt_mul (by rw [Nat.mul_comm]; exact h)
      obtain ⟨h1, h2⟩ := limF_spec f (n / 4294967296) hd
      refine ⟨?_, ⟨?_, ?_⟩, h2, ?_⟩
      · simp only [lv, h1]
        rw [Int.toNat_natCast]
        omega
      · omega
      · omega
      · intro he
        rw [he] at h1
        simp only [lv] at h1
        omega

theorem lt_pow_log (n : Nat) : n < 4294967296 ^ (n.log2 + 1) := by
  rcases Nat.eq_zero_or_pos n with h | h
  · subst h; decide
  · have h1 : n < 2 ^ (n.log2 + 1) := Nat.lt_log2_self
    have h2 : 2 ^ (n.log2 + 1) ≤ 4294967296 ^ (n.log2 + 1) := Nat.pow_le_pow_left (by omega) _
    omega

theorem lv_lim (n : Nat) : lv (lim n) = n := (limF_spec _ n (lt_pow_log n)).1
theorem lim_cn (n : Nat) : Cn (lim n) := (limF_spec _ n (lt_pow_log n)).2
theorem lim_lb (n : Nat) : Lb (lim n) := (lim_cn n).lb

theorem Cn.pos : ∀ {a : List Int}, Cn a → a ≠ [] → 0 < lv a
  | [], _, h => absurd rfl h
  | x :: r, h, _ => by
    obtain ⟨h1, h2, h3⟩ := h
    simp only [lv]
    by_cases hr : r = []
    · have := h3 hr
      omega
    · have := Cn.pos h2 hr
      omega

theorem Cn.inj : ∀ {a b : List Int}, Cn a → Cn b → lv a = lv b → a = b
  | [], b, _, hb, h => by
    by_cases e : b = []
    · exact e.symm
    · have := hb.pos e
      simp only [lv] at h
      omega
  | x :: r, [], ha, _, h => by
    have := ha.pos (by simp)
    simp only [lv] at h this
    omega
  | x :: r, y :: s, ha, hb, h => by
    obtain ⟨h1, h2, _⟩ := ha
    obtain ⟨k1, k2, _⟩ := hb
    simp only [lv] at h
    have e1 : x = y := by omega
    have e2 : lv r = lv s := by omega
    rw [e1, Cn.inj h2 k2 e2]

theorem Cn.eq_lim {a : List Int} (h : Cn a) : a = lim (lv a) := h.inj (lim_cn _) (lv_lim _).symm
theorem lim_lv_lim (n : Nat) : lim (lv (lim n)) = lim n := by rw [lv_lim]
theorem lim_inj {m n : Nat} (h : lim m = lim n) : m = n := by rw [← lv_lim m, h, lv_lim]
theorem lim_zero : lim 0 = [] := rfl
theorem lim_eq_nil {n : Nat} : lim n = [] ↔ n = 0 := by
  constructor
  · intro h
    have := lv_lim n
    rw [h] at this
    exact this.symm
  · rintro rfl; rfl

theorem Cn.of_last : ∀ {a : List Int}, Lb a → (a ≠ [] → a.getD (a.length - 1) 0 ≠ 0) → Cn a
  | [], _, _ => trivial
  | [x], h, k => ⟨h.head, trivial, fun _ => by simpa using k (by simp)⟩
  | x :: y :: r, h, k => by
    refine ⟨h.head, Cn.of_last h.tail (fun _ => ?_), fun e => by cases e⟩
    have := k (by simp)
    simpa using this

theorem Cn.last : ∀ {a : List Int}, Cn a → a ≠ [] → a.getD (a.length - 1) 0 ≠ 0
  | [], _, h => absurd rfl h
  | [x], h, _ => by simpa using h.2.2 rfl
  | x :: y :: r, h, _ => by
    have := Cn.last h.2.1 (by simp)
    simpa using this

theorem lv_append : ∀ (a b : List Int), lv (a ++ b) = lv a + 4294967296 ^ a.length * lv b
  | [], b => by simp [lv]
  | x :: r, b => by
    simp only [List.cons_append, lv, lv_append r b, List.length_cons, Nat.pow_succ]
    grind

theorem lv_lt : ∀ {a : List Int}, Lb a → lv a < 4294967296 ^ a.length
  | [], _ => by simp [lv]
  | x :: r, h => by
    have h1 := h.head
    have h2 := lv_lt h.tail
    simp only [lv, List.length_cons, Nat.pow_succ]
    have : x.toNat < 4294967296 := by omega
    omega

theorem lv_replicate (n : Nat) : lv (List.replicate n 0) = 0 := by
  induction n with
  | zero => rfl
  | succ n ih => simp only [List.replicate_succ, lv, ih]; rfl

theorem lv_take_succ {a : List Int} {i : Nat} (h : i < a.length) : lv (a.take (i + 1)) = lv (a.take i) + 4294967296 ^ i * (a.getD i 0).toNat := by
  have e : a.take (i + 1) = a.take i ++ [a.getD i 0] := by
    rw [List.take_add_one, List.getElem?_eq_getElem h]
    simp [List.getD, List.getElem?_eq_getElem h]
  rw [e, lv_append]
  have : (a.take i).length = i := by simp; omega
  rw [this]
  simp [lv]

theorem lv_take_next (a : List Int) (i : Nat) : lv (a.take (i + 1)) = lv (a.take i) + 4294967296 ^ i * (a.getD i 0).toNat := by
  rcases Nat.lt_or_ge i a.length with h | h
  · exact lv_take_succ h
  · rw [List.take_of_length_le (by omega), List.take_of_length_le h]
    simp [List.getD, List.getElem?_eq_none h]

theorem lv_take_drop (a : List Int) (i : Nat) (h : i ≤ a.length) : lv a = lv (a.take i) + 4294967296 ^ i * lv (a.drop i) := by
  have e := lv_append (a.take i) (a.drop i)
  rw [List.take_append_drop] at e
  rw [e]
  have : (a.take i).length = i := by simp; omega
  rw [this]

theorem lv_set : ∀ {l : List Int} {i : Nat} (v : Int), i < l.length → lv (l.set i v) + 4294967296 ^ i * (l.getD i 0).toNat = lv l + 4294967296 ^ i * v.toNat
  | [], i, _, h => by simp at h
  | x :: r, 0, v, _ => by simp [lv]; omega
  | x :: r, i + 1, v, h => by
    have ih := lv_set (l := r) (i := i) v (by simpa using h)
    simp only [List.set_cons_succ, lv, List.getD_cons_succ, Nat.pow_succ]
    grind

theorem lv_take_lt {a : List Int} (h : Lb a) (i : Nat) (hi : i ≤ a.length) : lv (a.take i) < 4294967296 ^ i := by
  have := lv_lt (h.take i)
  have e : (a.take i).length = i := by simp; omega
  rwa [e] at this

theorem lv_take_all (a : List Int) : lv (a.take a.length) = lv a := by rw [List.take_length]

theorem getD_take {a : List Int} {i k : Nat} (h : i < k) : (a.take k).getD i 0 = a.getD i 0 := by
  simp only [List.getD_eq_getElem?_getD, List.getElem?_take, if_pos h]
theorem getD_drop {a : List Int} {i k : Nat} : (a.drop k).getD i 0 = a.getD (k + i) 0 := by
  simp only [List.getD_eq_getElem?_getD, List.getElem?_drop]
theorem getD_set_ne {a : List Int} {i k : Nat} {v : Int} (h : i ≠ k) : (a.set i v).getD k 0 = a.getD k 0 := by
  simp only [List.getD_eq_getElem?_getD, List.getElem?_set_ne h]
theorem getD_set_self {a : List Int} {i : Nat} {v : Int} (h : i < a.length) : (a.set i v).getD i 0 = v := by
  simp [List.getD_eq_getElem?_getD, List.getElem?_set_self h]
theorem getD_replicate0 (n i : Nat) : (List.replicate n (0 : Int)).getD i 0 = 0 := by
  simp only [List.getD_eq_getElem?_getD, List.getElem?_replicate]
  split <;> rfl

/-- Noughts at the end count nothing. -/
theorem lv_cut_step {a : List Int} {k : Nat} (hk : 0 < k) (hl : k ≤ a.length) (h0 : a.getD (k - 1) 0 = 0) : lv (a.take (k - 1)) = lv (a.take k) := by
  obtain ⟨j, rfl⟩ : ∃ j, k = j + 1 := ⟨k - 1, by omega⟩
  have := lv_take_succ (a := a) (i := j) (by omega)
  rw [show j + 1 - 1 = j by omega] at h0 ⊢
  rw [this, h0]
  simp
theorem cut_end {a : List Int} (h : Lb a) {k : Nat} (hl : k ≤ a.length) (h0 : k = 0 ∨ a.getD (k - 1) 0 ≠ 0) (hv : lv (a.take k) = lv a) : a.take k = lim (lv a) := by
  rw [← hv]
  refine (Cn.of_last (h.take k) (fun hne => ?_)).eq_lim
  have e : (a.take k).length = k := by simp; omega
  rw [e]
  rcases h0 with rfl | h0
  · simp at hne
  · rcases Nat.eq_zero_or_pos k with rfl | hk
    · simp at hne
    · rw [getD_take (by omega)]; exact h0

/-! ### how long -/
theorem lim_length_le {n k : Nat} (h : n < 4294967296 ^ k) : (lim n).length ≤ k := by
  rcases Nat.lt_or_ge k (lim n).length with hlt | hge
  · exfalso
    have hne : lim n ≠ [] := by intro e; rw [e] at hlt; simp at hlt
    have h1 := (lim_cn n).last hne
    have h2 := lv_take_drop (lim n) ((lim n).length - 1) (by omega)
    rw [lv_lim] at h2
    have h3 : lv ((lim n).drop ((lim n).length - 1)) ≠ 0 := by
      have e : (lim n).drop ((lim n).length - 1) = [(lim n).getD ((lim n).length - 1) 0] := by
        rw [List.drop_eq_getElem_cons (by omega)]
        rw [List.drop_eq_nil_of_le (by omega)]
        simp [List.getD, List.getElem?_eq_getElem (show (lim n).length - 1 < (lim n).length by omega)]
      rw [e]
      simp only [lv]
      have := (lim_lb n).getD ((lim n).length - 1)
      omega
    have h4 : 4294967296 ^ k ≤ 4294967296 ^ ((lim n).length - 1) := Nat.pow_le_pow_right (by omega) (by omega)
    have h5 : 4294967296 ^ ((lim n).length - 1) * 1 ≤ 4294967296 ^ ((lim n).length - 1) * lv ((lim n).drop ((lim n).length - 1)) := Nat.mul_le_mul_left _ (by omega)
    omega
  · exact hge

theorem lim_length_lt {n k : Nat} (h : 4294967296 ^ k ≤ n) : k < (lim n).length := by
  rcases Nat.lt_or_ge k (lim n).length with hlt | hge
  · exact hlt
  · exfalso
    have h1 := lv_lt (lim_lb n)
    rw [lv_lim] at h1
    have h2 : 4294967296 ^ (lim n).length ≤ 4294967296 ^ k := Nat.pow_le_pow_right (by omega) hge
    omega

/-- Which of two is less: by their lengths, and then by the limb that parts them. -/
theorem lim_len_lt {m n : Nat} (h : (lim m).length < (lim n).length) : m < n := by
  have h1 := lv_lt (lim_lb m)
  rw [lv_lim] at h1
  rcases Nat.lt_or_ge m n with h2 | h2
  · exact h2
  · exfalso
    have : (lim n).length ≤ (lim m).length := lim_length_le (by omega)
    omega

theorem cmp_step {a b : List Int} (ha : Lb a) (hb : Lb b) {k : Nat} (hl : a.length = b.length) (hk : k < a.length) (he : a.drop (k + 1) = b.drop (k + 1)) (h : a.getD k 0 < b.getD k 0) : lv a < lv b := by
  have e1 := lv_take_drop a (k + 1) (by omega)
  have e2 := lv_take_drop b (k + 1) (by omega)
  rw [lv_take_succ hk] at e1
  rw [lv_take_succ (by omega)] at e2
  rw [he] at e1
  have h1 := lv_take_lt ha k (by omega)
  have h2 := ha.getD k
  have h3 := hb.getD k
  have h4 : 4294967296 ^ k * ((a.getD k 0).toNat + 1) ≤ 4294967296 ^ k * (b.getD k 0).toNat := Nat.mul_le_mul_left _ (by omega)
  rw [Nat.mul_add] at h4
  omega
theorem drop_step {a b : List Int} {k : Nat} (hl : a.length = b.length) (hk : k < a.length) (he : a.drop (k + 1) = b.drop (k + 1)) (h : a.getD k 0 = b.getD k 0) : a.drop k = b.drop k := by
  rw [List.drop_eq_getElem_cons hk, List.drop_eq_getElem_cons (show k < b.length by omega), he]
  congr 1
  simpa [List.getD, List.getElem?_eq_getElem hk, List.getElem?_eq_getElem (show k < b.length by omega)] using h
end Go.Proofs.Ytincnfjihffllaa.Ev

/- Sums, differences and products of limbs, limb by limb: plain Lean. -/
namespace Go.Proofs.Ytincnfjihffllaa.Ev
open Go

/-! ### the sum -/
structure AddInv (a b out : List Int) (i : Nat) (c : Int) : Prop where
  len : out.length = a.length + 1
  lb : Lb out
  zero : ∀ j, i ≤ j → out.getD j 0 = 0
  c0 : 0 ≤ c
  c1 : c ≤ 1
  val : lv out + 4294967296 ^ i * c.toNat = lv (a.take i) + lv (b.take i)

theorem AddInv.start (a b : List Int) : AddInv a b (List.replicate (a.length + 1) 0) 0 0 :=
  ⟨by simp, Lb.replicate _, fun j _ => getD_replicate0 _ _, by omega, by omega, by rw [lv_replicate]; simp [lv]⟩

theorem AddInv.step {a b out : List Int} {i : Nat} {c : Int} (ha : Lb a) (hb : Lb b) (h : AddInv a b out i c) (hi : i < a.length) :
    AddInv a b (out.set i ((a.getD i 0 + b.getD i 0 + c) % 4294967296)) (i + 1) ((a.getD i 0 + b.getD i 0 + c) / 4294967296) := by
  obtain ⟨h1, h2, h3, h4, h5, h6⟩ := h
  have hx := ha.getD i
  have hy := hb.getD i
  have e1 := lv_take_next a i
  have e2 := lv_take_next b i
  have e3 := lv_set (l := out) (i := i) ((a.getD i 0 + b.getD i 0 + c) % 4294967296) (by omega)
  rw [h3 i (Nat.le_refl i)] at e3
  generalize a.getD i 0 = x at *
  generalize b.getD i 0 = y at *
  refine ⟨by simp [h1], h2.set _ (by omega) (by omega), fun j hj => ?_, by omega, by omega, ?_⟩
  · rw [getD_set_ne (by omega)]; exact h3 j (by omega)
  · rw [e1, e2]
    have e4 : ((x + y + c) % 4294967296).toNat + 4294967296 * ((x + y + c) / 4294967296).toNat = x.toNat + y.toNat + c.toNat := by omega
    have e5 := congrArg (4294967296 ^ i * ·) e4
    simp only [Nat.mul_add] at e5
    rw [Nat.pow_succ, Nat.mul_assoc]
    simp only [Int.toNat_zero, Nat.mul_zero] at e3
    omega

theorem AddInv.stop {a b out : List Int} {c : Int} (hl : b.length ≤ a.length) (h : AddInv a b out a.length c) :
    Lb (out.set a.length c) ∧ lv (out.set a.length c) = lv a + lv b := by
  obtain ⟨h1, h2, h3, h4, h5, h6⟩ := h
  refine ⟨h2.set _ h4 (by omega), ?_⟩
  have e3 := lv_set (l := out) (i := a.length) c (by omega)
  rw [h3 _ (Nat.le_refl _)] at e3
  rw [lv_take_all, List.take_of_length_le hl] at h6
  simp only [Int.toNat_zero, Nat.mul_zero] at e3
  omega

/-! ### the difference -/
structure SubInv (a b out : List Int) (i : Nat) (c : Int) : Prop where
  len : out.length = a.length
  lb : Lb out
  zero : ∀ j, i ≤ j → out.getD j 0 = 0
  c0 : 0 ≤ c
  c1 : c ≤ 1
  val : lv out + lv (b.take i) = lv (a.take i) + 4294967296 ^ i * c.toNat

theorem SubInv.start (a b : List Int) : SubInv a b (List.replicate a.length 0) 0 0 :=
  ⟨by simp, Lb.replicate _, fun j _ => getD_replicate0 _ _, by omega, by omega, by rw [lv_replicate]; simp [lv]⟩

theorem SubInv.step {a b out : List Int} {i : Nat} {c : Int} (ha : Lb a) (hb : Lb b) (h : SubInv a b out i c) (hi : i < a.length) :
    SubInv a b (out.set i ((a.getD i 0 - b.getD i 0 - c) % 4294967296)) (i + 1) (if a.getD i 0 < b.getD i 0 + c then 1 else 0) := by
  obtain ⟨h1, h2, h3, h4, h5, h6⟩ := h
  have hx := ha.getD i
  have hy := hb.getD i
  have e1 := lv_take_next a i
  have e2 := lv_take_next b i
  have e3 := lv_set (l := out) (i := i) ((a.getD i 0 - b.getD i 0 - c) % 4294967296) (by omega)
  rw [h3 i (Nat.le_refl i)] at e3
  generalize a.getD i 0 = x at *
  generalize b.getD i 0 = y at *
  refine ⟨by simp [h1], h2.set _ (by omega) (by omega), fun j hj => ?_, by split <;> omega, by split <;> omega, ?_⟩
  · rw [getD_set_ne (by omega)]; exact h3 j (by omega)
  · rw [e1, e2]
    have e4 : ((x - y - c) % 4294967296).toNat + y.toNat + c.toNat = x.toNat + 4294967296 * (if x < y + c then 1 else 0 : Int).toNat := by split <;> omega
    have e5 := congrArg (4294967296 ^ i * ·) e4
    simp only [Nat.mul_add] at e5
    rw [Nat.pow_succ, Nat.mul_assoc]
    simp only [Int.toNat_zero, Nat.mul_zero] at e3
    omega

theorem SubInv.stop {a b out : List Int} {c : Int} (ha : Lb a) (hle : lv b ≤ lv a) (hl : b.length ≤ a.length) (h : SubInv a b out a.length c) : lv out = lv a - lv b := by
  obtain ⟨h1, h2, h3, h4, h5, h6⟩ := h
  rw [lv_take_all, List.take_of_length_le hl] at h6
  have := lv_lt h2
  rw [h1] at this
  rcases (show c = 0 ∨ c = 1 by omega) with rfl | rfl
  · simp at h6; omega
  · simp at h6; omega

/-! ### the product -/
structure MulInv (a b out : List Int) (i k : Nat) (c : Int) : Prop where
  len : out.length = a.length + b.length
  lb : Lb out
  zero : ∀ j, i + b.length ≤ j → out.getD j 0 = 0
  c0 : 0 ≤ c
  c1 : c < 4294967296
  val : lv out + 4294967296 ^ (i + k) * c.toNat = lv (a.take i) * lv b + 4294967296 ^ i * ((a.getD i 0).toNat * lv (b.take k))

theorem MulInv.start (a b : List Int) : MulInv a b (List.replicate (a.length + b.length) 0) 0 0 0 :=
  ⟨by simp, Lb.replicate _, fun j _ => getD_replicate0 _ _, by omega, by omega, by rw [lv_replicate]; simp [lv]⟩

theorem mul_digit {x y z c : Int} (hx : 0 ≤ x ∧ x < 4294967296) (hy : 0 ≤ y ∧ y < 4294967296) (hz : 0 ≤ z ∧ z < 4294967296) (hc : 0 ≤ c ∧ c < 4294967296) :
    0 ≤ x * y ∧ x * y + z + c < 18446744073709551616 := by
  have h0 : 0 ≤ x * y := Int.mul_nonneg hx.1 hy.1
  have h1 : x * y ≤ 4294967295 * 4294967295 := Int.mul_le_mul (by omega) (by omega) hy.1 (by omega)
  omega

set_option maxHeartbeats 1000000 in
theorem MulInv.step {a b out : List Int} {i k : Nat} {c : Int} (ha : Lb a) (hb : Lb b) (h : MulInv a b out i k c) (hi : i < a.length) (hk : k < b.length) :
    MulInv a b (out.set (i + k) ((a.getD i 0 * b.getD k 0 + out.getD (i + k) 0 + c) % 4294967296)) i (k + 1) ((a.getD i 0 * b.getD k 0 + out.getD (i + k) 0 + c) / 4294967296) := by
  obtain ⟨h1, h2, h3, h4, h5, h6⟩ := h
  have hx := ha.getD i
  have hy := hb.getD k
  have hz := h2.getD (i + k)
  have e2 := lv_take_next b k
  have e3 := lv_set (l := out) (i := i + k) ((a.getD i 0 * b.getD k 0 + out.getD (i + k) 0 + c) % 4294967296) (by omega)
  generalize hxe : a.getD i 0 = x at *
  generalize b.getD k 0 = y at *
  generalize out.getD (i + k) 0 = z at *
  have hm := mul_digit hx hy hz ⟨h4, h5⟩
  have hxy : (x * y).toNat = x.toNat * y.toNat := by
    rw [Int.toNat_mul hx.1 hy.1]
  refine ⟨by simp [h1], h2.set _ (by omega) (by omega), fun j hj => ?_, by omega, by omega, ?_⟩
  · rw [getD_set_ne (by omega)]; exact h3 j hj
  · rw [e2, hxe]
    have e4 : ((x * y + z + c) % 4294967296).toNat + 4294967296 * ((x * y + z + c) / 4294967296).toNat = x.toNat * y.toNat + z.toNat + c.toNat := by omega
    have e5 := congrArg (4294967296 ^ (i + k) * ·) e4
    simp only [Nat.mul_add] at e5
    have e6 : 4294967296 ^ (i + (k + 1)) * ((x * y + z + c) / 4294967296).toNat = 4294967296 ^ (i + k) * (4294967296 * ((x * y + z + c) / 4294967296).toNat) := by
      rw [← Nat.add_assoc, Nat.pow_succ, Nat.mul_assoc]
    have e7 : 4294967296 ^ i * (x.toNat * (lv (b.take k) + 4294967296 ^ k * y.toNat)) = 4294967296 ^ i * (x.toNat * lv (b.take k)) + 4294967296 ^ (i + k) * (x.toNat * y.toNat) := by
      rw [Nat.pow_add]
      grind
    rw [e6, e7]
    omega

theorem MulInv.next {a b out : List Int} {i : Nat} {c : Int} (h : MulInv a b out i b.length c) (hi : i < a.length) : MulInv a b (out.set (i + b.length) c) (i + 1) 0 0 := by
  obtain ⟨h1, h2, h3, h4, h5, h6⟩ := h
  have e3 := lv_set (l := out) (i := i + b.length) c (by omega)
  rw [h3 _ (Nat.le_refl _)] at e3
  refine ⟨by simp [h1], h2.set _ h4 h5, fun j hj => ?_, by omega, by omega, ?_⟩
  · rw [getD_set_ne (by omega)]; exact h3 j (by omega)
  · rw [lv_take_all] at h6
    rw [lv_take_next a i, Nat.add_mul]
    simp only [Int.toNat_zero, Nat.mul_zero, List.take_zero, lv] at e3 ⊢
    rw [Nat.mul_assoc]
    omega

theorem MulInv.stop {a b out : List Int} (h : MulInv a b out a.length 0 0) : lv out = lv a * lv b := by
  have := h.val
  rw [lv_take_all] at this
  simpa [lv] using this
end Go.Proofs.Ytincnfjihffllaa.Ev

/- Limbs moved by bits, how many bits there are, and the quotient by one limb: plain Lean. -/
namespace Go.Proofs.Ytincnfjihffllaa.Ev
open Go

theorem or_nat {k m l : Nat} (h : l < 2 ^ k) : 2 ^ k * m ||| l = 2 ^ k * m + l := (Nat.two_pow_add_eq_or_of_lt h m).symm
theorem or_nat' {k m l : Nat} (h : l < 2 ^ k) : l ||| 2 ^ k * m = l + 2 ^ k * m := by rw [Nat.or_comm, or_nat h, Nat.add_comm]

theorem toNat_ofInt32 {x : Int} (h : 0 ≤ x) (h' : x < 4294967296) : (BitVec.ofInt 32 x).toNat = x.toNat := by
  rw [BitVec.toNat_ofInt]; omega
theorem toNat_ofInt64 {x : Int} (h : 0 ≤ x) (h' : x < 18446744073709551616) : (BitVec.ofInt 64 x).toNat = x.toNat := by
  rw [BitVec.toNat_ofInt]; omega

/-- low bits and higher ones, together -/
theorem or32 {l m : Int} {k : Nat} (h0 : 0 ≤ l) (h1 : l < 2 ^ k) (hm : 0 ≤ m) (hs : l + 2 ^ k * m < 4294967296) :
    IntKind.u32.wrap ((BitVec.ofInt 32 l ||| BitVec.ofInt 32 (2 ^ k * m)).toNat : Int) = l + 2 ^ k * m := by
  obtain ⟨L, rfl⟩ := Int.eq_ofNat_of_zero_le h0
  obtain ⟨M, rfl⟩ := Int.eq_ofNat_of_zero_le hm
  have e : (2 ^ k * (M : Int)) = ((2 ^ k * M : Nat) : Int) := by push_cast; rfl
  have hl : L < 2 ^ k := by
    have : ((L : Nat) : Int) < ((2 ^ k : Nat) : Int) := by push_cast; exact h1
    omega
  rw [e] at hs ⊢
  rw [BitVec.toNat_or, toNat_ofInt32 (by omega) (by omega), toNat_ofInt32 (by omega) (by omega), Int.toNat_natCast, Int.toNat_natCast, or_nat' hl, wu32]
  omega

theorem or32z {l : Int} (h0 : 0 ≤ l) (h1 : l < 4294967296) : IntKind.u32.wrap ((BitVec.ofInt 32 0 ||| BitVec.ofInt 32 l).toNat : Int) = l := by
  rw [BitVec.toNat_or, toNat_ofInt32 (by omega) (by omega), toNat_ofInt32 h0 h1]
  simp only [Int.toNat_zero, Nat.zero_or]
  rw [wu32]; omega

theorem or64 {l m : Int} (h0 : 0 ≤ l) (h1 : l < 4294967296) (hm : 0 ≤ m) (hm1 : m < 4294967296) :
    IntKind.u64.wrap ((BitVec.ofInt 64 l ||| BitVec.ofInt 64 (m * 4294967296)).toNat : Int) = l + m * 4294967296 := by
  obtain ⟨L, rfl⟩ := Int.eq_ofNat_of_zero_le h0
  obtain ⟨M, rfl⟩ := Int.eq_ofNat_of_zero_le hm
  rw [BitVec.toNat_or, toNat_ofInt64 (by omega) (by omega), toNat_ofInt64 (by omega) (by omega)]
  rw [show ((M : Int) * 4294967296).toNat = 2 ^ 32 * M by omega, Int.toNat_natCast, or_nat' (k := 32) (by omega), wu64]
  omega
theorem or64' {l m : Int} (h0 : 0 ≤ l) (h1 : l < 4294967296) (hm : 0 ≤ m) (hm1 : m < 4294967296) :
    IntKind.u64.wrap ((BitVec.ofInt 64 (m * 4294967296) ||| BitVec.ofInt 64 l).toNat : Int) = m * 4294967296 + l := by
  have := or64 h0 h1 hm hm1
  rw [BitVec.or_comm, this]; omega

/-! ### up -/
structure ShlInv (a out : List Int) (L by_ : Nat) (i : Nat) : Prop where
  len : out.length = a.length + L + 1
  lb : Lb out
  zero : ∀ j, i + L + 1 ≤ j → out.getD j 0 = 0
  low : out.getD (i + L) 0 < 2 ^ by_
  val : lv out = lv (a.take i) * 2 ^ by_ * 4294967296 ^ L

theorem ShlInv.start (a : List Int) (L by_ : Nat) : ShlInv a (List.replicate (a.length + L + 1) 0) L by_ 0 :=
  ⟨by simp, Lb.replicate _, fun j _ => getD_replicate0 _ _, by rw [getD_replicate0]; exact Int.pow_pos (by omega), by rw [lv_replicate]; simp [lv]⟩

theorem two_pow_split {k : Nat} (h : k ≤ 32) : (2 : Nat) ^ k * 2 ^ (32 - k) = 4294967296 := by
  rw [← Nat.pow_add, show k + (32 - k) = 32 by omega]
theorem two_pow_le {k : Nat} (h : k ≤ 32) : (2 : Nat) ^ k ≤ 4294967296 := by
  have := Nat.pow_le_pow_right (n := 2) (by omega) h
  exact this

/-- A limb moved up: what stays in its place, and what goes into the next one. -/
theorem shl_digit {x : Int} {k : Nat} (h0 : 0 ≤ x) (h1 : x < 4294967296) (hk : k < 32) :
    x * 2 ^ k < 18446744073709551616 ∧ 0 ≤ x * 2 ^ k ∧ (∃ m : Int, 0 ≤ m ∧ (x * 2 ^ k) % 4294967296 = 2 ^ k * m ∧ 2 ^ k * m + 2 ^ k ≤ 4294967296) ∧ 0 ≤ x * 2 ^ k / 4294967296 ∧ x * 2 ^ k / 4294967296 < 2 ^ k := by
  obtain ⟨X, rfl⟩ := Int.eq_ofNat_of_zero_le h0
  have e : (2 : Int) ^ k = ((2 ^ k : Nat) : Int) := by push_cast; rfl
  rw [e]
  have hs := two_pow_split (k := k) (by omega)
  have hp : 0 < 2 ^ k := Nat.two_pow_pos k
  have hp2 : 0 < 2 ^ (32 - k) := Nat.two_pow_pos _
  have hle := two_pow_le (k := k) (by omega)
  have hX : X < 4294967296 := by omega
  have h2 : X * 2 ^ k < 4294967296 * 2 ^ k := Nat.mul_lt_mul_of_pos_right hX hp
  have h3 : X * 2 ^ k % 4294967296 = 2 ^ k * (X % 2 ^ (32 - k)) := by
    rw [← hs, Nat.mul_comm X, Nat.mul_mod_mul_left]
  have h4 : X % 2 ^ (32 - k) < 2 ^ (32 - k) := Nat.mod_lt _ hp2
  have h5 : 2 ^ k * (X % 2 ^ (32 - k) + 1) ≤ 2 ^ k * 2 ^ (32 - k) := Nat.mul_le_mul_left _ h4
  rw [hs, Nat.mul_add] at h5
  have h6 : X * 2 ^ k / 4294967296 < 2 ^ k := Nat.div_lt_of_lt_mul h2
  refine ⟨?_, ?_, ⟨((X % 2 ^ (32 - k) : Nat) : Int), by omega, ?_, ?_⟩, ?_, ?_⟩
  · have : ((X : Int) * ((2 ^ k : Nat) : Int)) = ((X * 2 ^ k : Nat) : Int) := by push_cast; rfl
    rw [this]
    have : X * 2 ^ k < 18446744073709551616 := by
      have : 4294967296 * 2 ^ k ≤ 4294967296 * 4294967296 := Nat.mul_le_mul_left _ hle
      omega
    omega
  · exact Int.mul_nonneg (by omega) (by omega)
  · have : ((X : Int) * ((2 ^ k : Nat) : Int)) = ((X * 2 ^ k : Nat) : Int) := by push_cast; rfl
    rw [this]
    have h7 : ((X * 2 ^ k % 4294967296 : Nat) : Int) = ((2 ^ k * (X % 2 ^ (32 - k)) : Nat) : Int) := by rw [h3]
    rw [← Int.natCast_mul]
    omega
  · have : (((2 ^ k : Nat) : Int) * ((X % 2 ^ (32 - k) : Nat) : Int)) = ((2 ^ k * (X % 2 ^ (32 - k)) : Nat) : Int) := (Int.natCast_mul ..).symm
    rw [this]
    omega
  · exact Int.ediv_nonneg (Int.mul_nonneg (by omega) (by omega)) (by omega)
  · have : ((X : Int) * ((2 ^ k : Nat) : Int)) = ((X * 2 ^ k : Nat) : Int) := by push_cast; rfl
    rw [this]
    omega

set_option maxHeartbeats 1000000 in
theorem ShlInv.step {a out : List Int} {L k i : Nat} (ha : Lb a) (hk : k < 32) (h : ShlInv a out L k i) (hi : i < a.length) :
    ShlInv a ((out.set (i + L) (out.getD (i + L) 0 + (a.getD i 0 * 2 ^ k) % 4294967296)).set (i + L + 1) (a.getD i 0 * 2 ^ k / 4294967296)) L k (i + 1) := by
  obtain ⟨h1, h2, h3, h4, h5⟩ := h
  have hx := ha.getD i
  have hz := h2.getD (i + L)
  have e1 := lv_take_next a i
  obtain ⟨b1, b0, ⟨m, hm, b2, b3⟩, b4, b5⟩ := shl_digit hx.1 hx.2 hk
  have e2 := lv_set (l := out) (i := i + L) (out.getD (i + L) 0 + (a.getD i 0 * 2 ^ k) % 4294967296) (by omega)
  have e3 := lv_set (l := out.set (i + L) (out.getD (i + L) 0 + (a.getD i 0 * 2 ^ k) % 4294967296)) (i := i + L + 1) (a.getD i 0 * 2 ^ k / 4294967296) (by simp; omega)
  rw [getD_set_ne (by omega), h3 _ (Nat.le_refl _)] at e3
  have hpow : (2 : Int) ^ k ≤ 4294967296 := by
    have e : (2 : Int) ^ k = ((2 ^ k : Nat) : Int) := by push_cast; rfl
    have := two_pow_le (k := k) (by omega)
    omega
  have hexp : (a.getD i 0 * 2 ^ k).toNat = (a.getD i 0).toNat * 2 ^ k := by
    have e : (2 : Int) ^ k = ((2 ^ k : Nat) : Int) := by push_cast; rfl
    rw [Int.toNat_mul hx.1 (Int.le_of_lt (Int.pow_pos (by omega))), e, Int.toNat_natCast]
  generalize a.getD i 0 = x at *
  generalize out.getD (i + L) 0 = z at *
  have b6 := Int.emod_nonneg (x * 2 ^ k) (show (4294967296 : Int) ≠ 0 by omega)
  have b7 : x * 2 ^ k / 4294967296 < 4294967296 := by omega
  have b8 : z + x * 2 ^ k % 4294967296 < 4294967296 := by omega
  refine ⟨by simp [h1], (h2.set _ (by omega) b8).set _ b4 b7, fun j hj => ?_, ?_, ?_⟩
  · rw [getD_set_ne (by omega), getD_set_ne (by omega)]; exact h3 j (by omega)
  · rw [show i + 1 + L = i + L + 1 by omega, getD_set_self (by simp; omega)]
    exact b5
  · rw [e1]
    have e4 : (z + x * 2 ^ k % 4294967296).toNat + 4294967296 * (x * 2 ^ k / 4294967296).toNat = z.toNat + x.toNat * 2 ^ k := by
      rw [← hexp]; omega
    have e5 := congrArg (4294967296 ^ (i + L) * ·) e4
    simp only [Nat.mul_add] at e5
    have e6 : 4294967296 ^ (i + L + 1) * (x * 2 ^ k / 4294967296).toNat = 4294967296 ^ (i + L) * (4294967296 * (x * 2 ^ k / 4294967296).toNat) := by
      rw [Nat.pow_succ, Nat.mul_assoc]
    rw [e6] at e3
    have e7 : (lv (a.take i) + 4294967296 ^ i * x.toNat) * 2 ^ k * 4294967296 ^ L = lv (a.take i) * 2 ^ k * 4294967296 ^ L + 4294967296 ^ (i + L) * (x.toNat * 2 ^ k) := by
      rw [Nat.pow_add]; grind
    rw [e7, ← h5]
    simp only [Int.toNat_zero, Nat.mul_zero] at e3
    omega

theorem ShlInv.stop {a out : List Int} {L k : Nat} (h : ShlInv a out L k a.length) : lv out = lv a * 2 ^ (32 * L + k) := by
  have := h.val
  rw [lv_take_all] at this
  rw [this, Nat.pow_add, Nat.pow_mul, Nat.mul_assoc, Nat.mul_comm (2 ^ k)]

/-! ### down -/
theorem lv_drop {a : List Int} (h : Lb a) (L : Nat) (hl : L ≤ a.length) : lv (a.drop L) = lv a / 4294967296 ^ L := by
  have h1 := lv_take_drop a L hl
  have h2 := lv_take_lt h L hl
  have hp : 0 < 4294967296 ^ L := Nat.pow_pos (by omega)
  rw [h1, Nat.add_mul_div_left _ _ hp, Nat.div_eq_of_lt h2, Nat.zero_add]

theorem lv_drop_cons (a : List Int) (i : Nat) : lv (a.drop i) = (a.getD i 0).toNat + 4294967296 * lv (a.drop (i + 1)) := by
  rcases Nat.lt_or_ge i a.length with h | h
  · rw [List.drop_eq_getElem_cons h]
    simp [lv, List.getD, List.getElem?_eq_getElem h]
  · rw [List.drop_eq_nil_of_le h, List.drop_eq_nil_of_le (by omega)]
    simp [lv, List.getD, List.getElem?_eq_none h]

structure ShrInv (a out : List Int) (L k : Nat) (i : Nat) : Prop where
  len : out.length = a.length - L
  lb : Lb out
  zero : ∀ j, i ≤ j → out.getD j 0 = 0
  val : lv out = lv a / 2 ^ (32 * L + k) % 4294967296 ^ i

theorem ShrInv.start (a : List Int) (L k : Nat) : ShrInv a (List.replicate (a.length - L) 0) L k 0 :=
  ⟨by simp, Lb.replicate _, fun j _ => getD_replicate0 _ _, by rw [lv_replicate, Nat.pow_zero, Nat.mod_one]⟩

set_option maxHeartbeats 1000000 in
theorem ShrInv.step {a out : List Int} {L k i : Nat} (ha : Lb a) (hk : k < 32) (hL : L < a.length) (h : ShrInv a out L k i) (hi : i < a.length - L) :
    ShrInv a (out.set i (((a.getD (i + L) 0 + a.getD (i + L + 1) 0 * 4294967296) / 2 ^ k) % 4294967296)) L k (i + 1) := by
  obtain ⟨h1, h2, h3, h4⟩ := h
  have hx := ha.getD (i + L)
  have hy := ha.getD (i + L + 1)
  have e3 := lv_set (l := out) (i := i) (((a.getD (i + L) 0 + a.getD (i + L + 1) 0 * 4294967296) / 2 ^ k) % 4294967296) (by omega)
  rw [h3 i (Nat.le_refl i)] at e3
  have d0 := lv_drop ha (i + L) (by omega)
  have d1 := lv_drop_cons a (i + L)
  have d2 := lv_drop_cons a (i + L + 1)
  generalize a.getD (i + L) 0 = x at *
  generalize a.getD (i + L + 1) 0 = y at *
  generalize lv (a.drop (i + L + 1 + 1)) = rest at *
  obtain ⟨X, rfl⟩ := Int.eq_ofNat_of_zero_le hx.1
  obtain ⟨Y, rfl⟩ := Int.eq_ofNat_of_zero_le hy.1
  simp only [Int.toNat_natCast] at d1 d2
  have ek : (2 : Int) ^ k = ((2 ^ k : Nat) : Int) := by push_cast; rfl
  have ev : (((X : Int) + (Y : Int) * 4294967296) / 2 ^ k) % 4294967296 = (((X + Y * 4294967296) / 2 ^ k % 4294967296 : Nat) : Int) := by
    rw [ek, show (X : Int) + (Y : Int) * 4294967296 = ((X + Y * 4294967296 : Nat) : Int) by omega, ← Int.natCast_ediv]
    omega
  rw [ev] at e3 ⊢
  refine ⟨by simp [h1], h2.set _ (by omega) (by omega), fun j hj => ?_, ?_⟩
  · rw [getD_set_ne (by omega)]; exact h3 j (by omega)
  · -- the next limb of the number moved down
    have hs := two_pow_split (k := k) (by omega)
    have hp : 0 < 2 ^ k := Nat.two_pow_pos k
    have key : lv a / 2 ^ (32 * L + k) / 4294967296 ^ i % 4294967296 = (X + Y * 4294967296) / 2 ^ k % 4294967296 := by
      have q1 : lv a / 2 ^ (32 * L + k) / 4294967296 ^ i = lv a / 4294967296 ^ (i + L) / 2 ^ k := by
        rw [Nat.div_div_eq_div_mul, Nat.div_div_eq_div_mul]
        congr 1
        rw [Nat.pow_add, Nat.pow_add 4294967296, Nat.pow_mul]
        rw [show (2 : Nat) ^ 32 = 4294967296 by rfl]
        grind
      rw [q1, ← d0, d1, d2]
      have q2 : X + 4294967296 * (Y + 4294967296 * rest) = (X + Y * 4294967296) + 2 ^ k * (4294967296 * (2 ^ (32 - k) * rest)) := by
        have : 4294967296 * rest = 2 ^ k * (2 ^ (32 - k) * rest) := by rw [← Nat.mul_assoc, hs]
        grind
      rw [q2, Nat.add_mul_div_left _ _ hp, Nat.add_mul_mod_self_left]
    rw [Nat.pow_succ, Nat.mod_mul, key]
    rw [Int.toNat_natCast, Int.toNat_zero, Nat.mul_zero, Nat.add_zero] at e3
    rw [e3, h4]

theorem ShrInv.stop {a out : List Int} {L k : Nat} (ha : Lb a) (hL : L ≤ a.length) (h : ShrInv a out L k (a.length - L)) : lv out = lv a / 2 ^ (32 * L + k) := by
  have := h.val
  rw [this]
  refine Nat.mod_eq_of_lt ?_
  have h1 := lv_lt ha
  rw [show 4294967296 ^ a.length = 2 ^ (32 * L) * 4294967296 ^ (a.length - L) by
    rw [Nat.pow_mul, show (2 : Nat) ^ 32 = 4294967296 by rfl, ← Nat.pow_add]; congr 1; omega] at h1
  rw [Nat.pow_add, ← Nat.div_div_eq_div_mul]
  refine Nat.lt_of_le_of_lt (Nat.div_le_self _ _) ?_
  exact Nat.div_lt_of_lt_mul h1

/-! ### how many bits -/
theorem blen_nat_iff {v : Nat} (n : Nat) : blen (v : Int) = (n : Int) + 1 ↔ 2 ^ n ≤ v ∧ v < 2 ^ (n + 1) := by
  have e1 : ((2 ^ n : Nat) : Int) = (2 : Int) ^ n := by push_cast; rfl
  have e2 : ((2 ^ (n + 1) : Nat) : Int) = (2 : Int) ^ (n + 1) := by push_cast; rfl
  rcases Nat.eq_zero_or_pos v with h | h
  · subst h
    have hp : 0 < 2 ^ n := Nat.two_pow_pos n
    have hz : blen ((0 : Nat) : Int) = 0 := rfl
    rw [hz]
    constructor
    · intro h1; omega
    · intro h1; omega
  · rw [blen_iff (by omega) n, ← e1, ← e2]
    omega

theorem blen_len {a : List Int} (h : Lb a) (hne : a ≠ []) (h0 : a.getD (a.length - 1) 0 ≠ 0) : blen (lv a : Int) = 32 * ((a.length : Int) - 1) + blen (a.getD (a.length - 1) 0) := by
  have hl : 0 < a.length := List.length_pos_iff.2 hne
  have h1 := lv_take_succ (a := a) (i := a.length - 1) (by omega)
  rw [show a.length - 1 + 1 = a.length by omega, lv_take_all] at h1
  have h2 := lv_take_lt h (a.length - 1) (by omega)
  have h3 := h.getD (a.length - 1)
  generalize a.getD (a.length - 1) 0 = x at *
  obtain ⟨n, q1, q2, q3⟩ := blen_pos (x := x) (by omega)
  rw [q1]
  obtain ⟨X, rfl⟩ := Int.eq_ofNat_of_zero_le h3.1
  simp only [Int.toNat_natCast] at h1
  have e1 : ((2 ^ n : Nat) : Int) = (2 : Int) ^ n := by push_cast; rfl
  have e2 : ((2 ^ (n + 1) : Nat) : Int) = (2 : Int) ^ (n + 1) := by push_cast; rfl
  rw [← e1] at q2
  rw [← e2] at q3
  have k1 : (2 : Nat) ^ (32 * (a.length - 1) + n) = 4294967296 ^ (a.length - 1) * 2 ^ n := by
    rw [Nat.pow_add, Nat.pow_mul]
  have k2 : (2 : Nat) ^ (32 * (a.length - 1) + n + 1) = 4294967296 ^ (a.length - 1) * 2 ^ (n + 1) := by
    rw [Nat.add_assoc, Nat.pow_add, Nat.pow_mul]
  have m1 : 4294967296 ^ (a.length - 1) * 2 ^ n ≤ 4294967296 ^ (a.length - 1) * X := Nat.mul_le_mul_left _ (by omega)
  have m2 : 4294967296 ^ (a.length - 1) * (X + 1) ≤ 4294967296 ^ (a.length - 1) * 2 ^ (n + 1) := Nat.mul_le_mul_left _ (by omega)
  rw [Nat.mul_add] at m2
  have := (blen_nat_iff (v := lv a) (32 * (a.length - 1) + n)).2 ⟨by rw [k1]; omega, by rw [k2]; omega⟩
  rw [this]
  omega

/-! ### the quotient by one limb -/
structure ShortInv (a q : List Int) (d : Int) (k : Nat) (left : Int) : Prop where
  len : q.length = a.length
  lb : Lb q
  zero : ∀ j, j < k → q.getD j 0 = 0
  l0 : 0 ≤ left
  l1 : left < d
  val : lv q * d.toNat + 4294967296 ^ k * left.toNat + lv (a.take k) = lv a

theorem ShortInv.start (a : List Int) {d : Int} (hd : 0 < d) : ShortInv a (List.replicate a.length 0) d a.length 0 :=
  ⟨by simp, Lb.replicate _, fun j _ => getD_replicate0 _ _, by omega, hd, by rw [lv_replicate, lv_take_all]; simp⟩

set_option maxHeartbeats 1000000 in
theorem ShortInv.step {a q : List Int} {d left : Int} {k : Nat} (ha : Lb a) (hd : d < 4294967296) (h : ShortInv a q d (k + 1) left) (hk : k < a.length) :
    ShortInv a (q.set k ((left * 4294967296 + a.getD k 0) / d)) d k ((left * 4294967296 + a.getD k 0) % d) := by
  obtain ⟨h1, h2, h3, h4, h5, h6⟩ := h
  have hx := ha.getD k
  have e1 := lv_take_next a k
  have e3 := lv_set (l := q) (i := k) ((left * 4294967296 + a.getD k 0) / d) (by omega)
  rw [h3 k (by omega)] at e3
  generalize a.getD k 0 = x at *
  have b0 : 0 ≤ (left * 4294967296 + x) / d := Int.ediv_nonneg (by omega) (by omega)
  have b1 : (left * 4294967296 + x) / d < 4294967296 := by
    refine Int.ediv_lt_of_lt_mul (by omega) ?_
    have : (left + 1) * 4294967296 ≤ d * 4294967296 := Int.mul_le_mul_of_nonneg_right (by omega) (by omega)
    omega
  have b2 := Int.emod_nonneg (left * 4294967296 + x) (show d ≠ 0 by omega)
  have b3 := Int.emod_lt_of_pos (left * 4294967296 + x) (show 0 < d by omega)
  have b4 := Int.mul_ediv_add_emod (left * 4294967296 + x) d
  refine ⟨by simp [h1], h2.set _ b0 b1, fun j hj => ?_, b2, b3, ?_⟩
  · rw [getD_set_ne (by omega)]; exact h3 j (by omega)
  · generalize (left * 4294967296 + x) / d = Q at *
    generalize (left * 4294967296 + x) % d = R at *
    obtain ⟨D, rfl⟩ := Int.eq_ofNat_of_zero_le (show 0 ≤ d by omega)
    obtain ⟨Q', rfl⟩ := Int.eq_ofNat_of_zero_le b0
    obtain ⟨R', rfl⟩ := Int.eq_ofNat_of_zero_le b2
    obtain ⟨X, rfl⟩ := Int.eq_ofNat_of_zero_le hx.1
    obtain ⟨M, rfl⟩ := Int.eq_ofNat_of_zero_le h4
    simp only [Int.toNat_natCast, Int.toNat_zero, Nat.mul_zero, Nat.add_zero] at *
    have b5 : D * Q' + R' = M * 4294967296 + X := by
      have : (((D * Q' : Nat)) : Int) = (D : Int) * (Q' : Int) := Int.natCast_mul ..
      omega
    rw [e3, Nat.add_mul]
    rw [e1, Nat.pow_succ] at h6
    have e5 := congrArg (4294967296 ^ k * ·) b5
    simp only [Nat.mul_add] at e5
    have e6 : 4294967296 ^ k * Q' * D = 4294967296 ^ k * (D * Q') := by rw [Nat.mul_assoc, Nat.mul_comm Q']
    have e7 : 4294967296 ^ k * 4294967296 * M = 4294967296 ^ k * (M * 4294967296) := by rw [Nat.mul_assoc, Nat.mul_comm M]
    rw [e6]
    rw [e7] at h6
    omega

theorem ShortInv.stop {a q : List Int} {d left : Int} (h : ShortInv a q d 0 left) : lv q = lv a / d.toNat ∧ left = ((lv a % d.toNat : Nat) : Int) := by
  obtain ⟨h1, h2, h3, h4, h5, h6⟩ := h
  obtain ⟨M, rfl⟩ := Int.eq_ofNat_of_zero_le h4
  simp only [List.take_zero, lv, Nat.pow_zero, Nat.one_mul, Nat.add_zero, Int.toNat_natCast] at h6
  have hM : M < d.toNat := by omega
  have hd : 0 < d.toNat := by omega
  constructor
  · rw [← h6, Nat.mul_comm, Nat.add_comm, Nat.add_mul_div_left _ _ hd, Nat.div_eq_of_lt hM, Nat.zero_add]
  · rw [← h6, Nat.mul_comm, Nat.add_comm, Nat.add_mul_mod_self_left, Nat.mod_eq_of_lt hM]
end Go.Proofs.Ytincnfjihffllaa.Ev

/- The quotient of limbs, limb by limb: plain Lean. -/
namespace Go.Proofs.Ytincnfjihffllaa.Ev
open Go

/-! ### the guess of a limb -/
structure GuessInv (r2 r1 r0 d1 d0 q left : Int) : Prop where
  q0 : 0 ≤ q
  l0 : 0 ≤ left
  l1 : left < 4294967296
  eq : q * d1 + left = r2 * 4294967296 + r1
  up : ∀ k : Int, k * (d1 * 4294967296 + d0) ≤ (r2 * 4294967296 + r1) * 4294967296 + r0 → k ≤ 4294967295 → k ≤ q

structure GuessIn (r2 r1 r0 d1 d0 : Int) : Prop where
  r2b : 0 ≤ r2 ∧ r2 < 4294967296
  r1b : 0 ≤ r1 ∧ r1 < 4294967296
  r0b : 0 ≤ r0 ∧ r0 < 4294967296
  d1b : 0 < d1 ∧ d1 < 4294967296
  d0b : 0 ≤ d0 ∧ d0 < 4294967296
  le : r2 ≤ d1

structure GuessOK (r2 r1 r0 d1 d0 q : Int) : Prop where
  q0 : 0 ≤ q
  q1 : q ≤ 4294967295
  le : q * (d1 * 4294967296 + d0) ≤ (r2 * 4294967296 + r1) * 4294967296 + r0
  up : ∀ k : Int, k * (d1 * 4294967296 + d0) ≤ (r2 * 4294967296 + r1) * 4294967296 + r0 → k ≤ 4294967295 → k ≤ q

theorem GuessInv.start {r2 r1 r0 d1 d0 : Int} (I : GuessIn r2 r1 r0 d1 d0) :
    GuessInv r2 r1 r0 d1 d0 ((r2 * 4294967296 + r1) / d1) ((r2 * 4294967296 + r1) % d1) := by
  obtain ⟨h2, h1, h0, hd1, hd0, hle⟩ := I
  have hp := Int.emod_nonneg (r2 * 4294967296 + r1) (show d1 ≠ 0 by omega)
  have hq := Int.emod_lt_of_pos (r2 * 4294967296 + r1) (show 0 < d1 by omega)
  have he := Int.mul_ediv_add_emod (r2 * 4294967296 + r1) d1
  refine ⟨Int.ediv_nonneg (by omega) (by omega), hp, by omega, by rw [Int.mul_comm]; exact he, fun k hk hk1 => ?_⟩
  rcases Int.lt_or_le k 0 with hneg | hnn
  · have := Int.ediv_nonneg (show 0 ≤ r2 * 4294967296 + r1 by omega) (show 0 ≤ d1 by omega)
    omega
  · refine (Int.le_ediv_iff_mul_le hd1.1).2 ?_
    have e : k * (d1 * 4294967296 + d0) = k * d1 * 4294967296 + k * d0 := by rw [Int.mul_add, Int.mul_assoc]
    have : 0 ≤ k * d0 := Int.mul_nonneg hnn hd0.1
    rw [e] at hk
    omega

theorem guess_mul {q d0 : Int} (h0 : 0 ≤ q) (h1 : q ≤ 4294967295) (hd : 0 ≤ d0 ∧ d0 < 4294967296) : 0 ≤ q * d0 ∧ q * d0 < 18446744065119617026 := by
  refine ⟨Int.mul_nonneg h0 hd.1, ?_⟩
  have : q * d0 ≤ 4294967295 * 4294967295 := Int.mul_le_mul h1 (by omega) hd.1 (by omega)
  omega

theorem GuessInv.pos {r2 r1 r0 d1 d0 q left : Int} (I : GuessIn r2 r1 r0 d1 d0) (h : GuessInv r2 r1 r0 d1 d0 q left) (hc : 4294967295 < q ∨ left * 4294967296 + r0 < q * d0) : 1 ≤ q := by
  rcases Int.lt_or_le q 1 with h1 | h1
  · exfalso
    have hq := h.q0
    have hl := h.l0
    have hr := I.r0b
    have : q = 0 := by omega
    subst this
    simp at hc
    omega
  · exact h1

theorem GuessInv.top {r2 r1 r0 d1 d0 q left : Int} (I : GuessIn r2 r1 r0 d1 d0) (h : GuessInv r2 r1 r0 d1 d0 q left) : q ≤ 8589934592 * 4294967296 := by
  have h1 := I.r2b
  have h2 := I.r1b
  have h3 := I.d1b
  have h4 := h.eq
  have h5 := h.l0
  have h6 : q * 1 ≤ q * d1 := Int.mul_le_mul_of_nonneg_left (by omega) h.q0
  omega

theorem GuessInv.done {r2 r1 r0 d1 d0 q left : Int} (h : GuessInv r2 r1 r0 d1 d0 q left) (h1 : q ≤ 4294967295) (h2 : q * d0 ≤ left * 4294967296 + r0) : GuessOK r2 r1 r0 d1 d0 q := by
  refine ⟨h.q0, h1, ?_, h.up⟩
  have := h.eq
  rw [← this]
  have e1 : q * (d1 * 4294967296 + d0) = q * d1 * 4294967296 + q * d0 := by rw [Int.mul_add, Int.mul_assoc]
  rw [e1]
  omega

theorem GuessInv.step {r2 r1 r0 d1 d0 q left : Int} (I : GuessIn r2 r1 r0 d1 d0) (h : GuessInv r2 r1 r0 d1 d0 q left) (hc : 4294967295 < q ∨ left * 4294967296 + r0 < q * d0) (hl : left + d1 ≤ 4294967295) :
    GuessInv r2 r1 r0 d1 d0 (q - 1) (left + d1) := by
  have hq := h.pos I hc
  have hd := I.d1b
  refine ⟨by omega, by have := h.l0; omega, by omega, ?_, fun k hk hk1 => ?_⟩
  · have := h.eq
    rw [Int.sub_mul]
    omega
  · have hkq := h.up k hk hk1
    rcases (show k = q ∨ k ≤ q - 1 by omega) with rfl | h2
    · exfalso
      rcases hc with hc | hc
      · omega
      · have e1 : k * (d1 * 4294967296 + d0) = k * d1 * 4294967296 + k * d0 := by rw [Int.mul_add, Int.mul_assoc]
        have := h.eq
        rw [e1] at hk
        omega
    · exact h2

theorem GuessInv.brk {r2 r1 r0 d1 d0 q left : Int} (I : GuessIn r2 r1 r0 d1 d0) (h : GuessInv r2 r1 r0 d1 d0 q left) (hc : 4294967295 < q ∨ left * 4294967296 + r0 < q * d0) (hl : 4294967295 < left + d1) :
    GuessOK r2 r1 r0 d1 d0 (q - 1) := by
  have hq := h.pos I hc
  have hd := I.d1b
  have hr := I.r1b
  have hle := I.le
  have heq := h.eq
  have h0 := h.l0
  have e1 : (q - 1) * d1 + (left + d1) = r2 * 4294967296 + r1 := by rw [Int.sub_mul]; omega
  have hq1 : q - 1 ≤ 4294967295 := by
    rcases Int.lt_or_le 4294967295 (q - 1) with h1 | h1
    · exfalso
      have : 4294967296 * d1 ≤ (q - 1) * d1 := Int.mul_le_mul_of_nonneg_right (by omega) (by omega)
      omega
    · exact h1
  have hm := guess_mul (q := q - 1) (by omega) hq1 I.d0b
  refine ⟨by omega, hq1, ?_, fun k hk hk1 => ?_⟩
  · have e2 : (q - 1) * (d1 * 4294967296 + d0) = (q - 1) * d1 * 4294967296 + (q - 1) * d0 := by rw [Int.mul_add, Int.mul_assoc]
    rw [e2]
    have := I.r0b
    omega
  · have hkq := h.up k hk hk1
    rcases (show k = q ∨ k ≤ q - 1 by omega) with rfl | h2
    · exfalso
      rcases hc with hc | hc
      · omega
      · have e3 : k * (d1 * 4294967296 + d0) = k * d1 * 4294967296 + k * d0 := by rw [Int.mul_add, Int.mul_assoc]
        rw [e3] at hk
        omega
    · exact h2

/-- The guess is right, or one too great. -/
theorem guess_near {R D n at_ q : Nat} (hn : 2 ≤ n) (hD : 4294967296 ^ (n - 1) ≤ D) (hR : R < D * 4294967296 ^ (at_ + 1))
    (hle : q * (D / 4294967296 ^ (n - 2)) ≤ R / 4294967296 ^ (at_ + n - 2))
    (hup : ∀ k : Nat, k * (D / 4294967296 ^ (n - 2)) ≤ R / 4294967296 ^ (at_ + n - 2) → k ≤ 4294967295 → k ≤ q) :
    R / (4294967296 ^ at_ * D) ≤ q ∧ q ≤ R / (4294967296 ^ at_ * D) + 1 := by
  have hp : 0 < 4294967296 ^ (n - 2) := Nat.pow_pos (by omega)
  have hp2 : 0 < 4294967296 ^ (at_ + n - 2) := Nat.pow_pos (by omega)
  have hpa : 0 < 4294967296 ^ at_ := Nat.pow_pos (by omega)
  have hD0 : 0 < D := Nat.lt_of_lt_of_le (Nat.pow_pos (by omega)) hD
  have hsplit : 4294967296 ^ (at_ + n - 2) = 4294967296 ^ at_ * 4294967296 ^ (n - 2) := by
    rw [← Nat.pow_add]; congr 1; omega
  generalize hv : D / 4294967296 ^ (n - 2) = v at *
  generalize hu : R / 4294967296 ^ (at_ + n - 2) = u at *
  have hvB : 4294967296 ≤ v := by
    rw [← hv]
    refine (Nat.le_div_iff_mul_le hp).2 ?_
    rw [← Nat.pow_succ', show (n - 2).succ = n - 1 by omega]
    exact hD
  have v1 : v * 4294967296 ^ (n - 2) ≤ D := by rw [← hv]; exact Nat.div_mul_le_self _ _
  have v2 : D < (v + 1) * 4294967296 ^ (n - 2) := by
    rw [← hv]
    exact (Nat.div_lt_iff_lt_mul hp).1 (Nat.lt_succ_self _)
  have hM : 0 < 4294967296 ^ at_ * D := Nat.mul_pos hpa hD0
  generalize hs : R / (4294967296 ^ at_ * D) = s at *
  have s1 : s * (4294967296 ^ at_ * D) ≤ R := by rw [← hs]; exact Nat.div_mul_le_self _ _
  have s2 : R < (s + 1) * (4294967296 ^ at_ * D) := by
    rw [← hs]
    exact (Nat.div_lt_iff_lt_mul hM).1 (Nat.lt_succ_self _)
  have sB : s ≤ 4294967295 := by
    have : s < 4294967296 := by
      rw [← hs]
      refine (Nat.div_lt_iff_lt_mul hM).2 ?_
      rw [Nat.pow_succ] at hR
      calc R < D * (4294967296 ^ at_ * 4294967296) := hR
        _ = 4294967296 * (4294967296 ^ at_ * D) := by grind
    omega
  constructor
  · refine hup s ?_ sB
    rw [← hu]
    refine (Nat.le_div_iff_mul_le hp2).2 ?_
    rw [hsplit]
    calc s * v * (4294967296 ^ at_ * 4294967296 ^ (n - 2)) = s * (4294967296 ^ at_ * (v * 4294967296 ^ (n - 2))) := by grind
      _ ≤ s * (4294967296 ^ at_ * D) := Nat.mul_le_mul_left _ (Nat.mul_le_mul_left _ v1)
      _ ≤ R := s1
  · rcases Nat.lt_or_ge (s + 1) q with hlt | hge
    · exfalso
      have h1 : (s + 2) * v ≤ u := Nat.le_trans (Nat.mul_le_mul_right _ (by omega)) hle
      have h2 : u * 4294967296 ^ (at_ + n - 2) ≤ R := by rw [← hu]; exact Nat.div_mul_le_self _ _
      have h3 : (s + 1) * (4294967296 ^ at_ * D) ≤ (s + 1) * (4294967296 ^ at_ * ((v + 1) * 4294967296 ^ (n - 2))) :=
        Nat.mul_le_mul_left _ (Nat.mul_le_mul_left _ (Nat.le_of_lt v2))
      have h4 : u * 4294967296 ^ (at_ + n - 2) < (s + 1) * (v + 1) * 4294967296 ^ (at_ + n - 2) := by
        have : (s + 1) * (4294967296 ^ at_ * ((v + 1) * 4294967296 ^ (n - 2))) = (s + 1) * (v + 1) * 4294967296 ^ (at_ + n - 2) := by
          rw [hsplit]; grind
        omega
      have h5 : u < (s + 1) * (v + 1) := Nat.lt_of_mul_lt_mul_right h4
      have h6 : (s + 2) * v = s * v + 2 * v := Nat.add_mul s 2 v
      have h7 : (s + 1) * (v + 1) = s * v + s + v + 1 := by grind
      omega
    · exact hge

/-! ### a multiple taken away -/
structure LessInv (r0 d : List Int) (q : Int) (at_ : Nat) (r : List Int) (i : Nat) (carry borrow : Int) : Prop where
  len : r.length = r0.length
  lb : Lb r
  same : ∀ j, at_ + i ≤ j → r.getD j 0 = r0.getD j 0
  c0 : 0 ≤ carry
  c1 : carry < 4294967296
  b0 : 0 ≤ borrow
  b1 : borrow ≤ 1
  val : lv r + 4294967296 ^ at_ * (q.toNat * lv (d.take i)) = lv r0 + 4294967296 ^ (at_ + i) * (carry.toNat + borrow.toNat)

theorem LessInv.start {r0 : List Int} (d : List Int) (q : Int) (at_ : Nat) (h : Lb r0) : LessInv r0 d q at_ r0 0 0 0 :=
  ⟨rfl, h, fun _ _ => rfl, by omega, by omega, by omega, by omega, by simp [lv]⟩

theorem less_digit {y q c : Int} (hy : 0 ≤ y ∧ y < 4294967296) (hq : 0 ≤ q ∧ q < 4294967296) (hc : 0 ≤ c ∧ c < 4294967296) : 0 ≤ y * q ∧ y * q + c < 18446744073709551616 := by
  have h0 : 0 ≤ y * q := Int.mul_nonneg hy.1 hq.1
  have h1 : y * q ≤ 4294967295 * 4294967295 := Int.mul_le_mul (by omega) (by omega) hq.1 (by omega)
  omega

set_option maxHeartbeats 1000000 in
theorem LessInv.step {r0 d r : List Int} {q : Int} {at_ i : Nat} {carry borrow : Int} (hd : Lb d) (hq : 0 ≤ q ∧ q < 4294967296) (h : LessInv r0 d q at_ r i carry borrow) (hi : at_ + i < r0.length) :
    LessInv r0 d q at_ (r.set (at_ + i) ((r.getD (at_ + i) 0 - (d.getD i 0 * q + carry) % 4294967296 - borrow) % 4294967296)) (i + 1) ((d.getD i 0 * q + carry) / 4294967296)
      (if r.getD (at_ + i) 0 < (d.getD i 0 * q + carry) % 4294967296 + borrow then 1 else 0) := by
  obtain ⟨h1, h2, h3, h4, h5, h6, h7, h8⟩ := h
  have hx := h2.getD (at_ + i)
  have hy := hd.getD i
  have e2 := lv_take_next d i
  have e3 := lv_set (l := r) (i := at_ + i) ((r.getD (at_ + i) 0 - (d.getD i 0 * q + carry) % 4294967296 - borrow) % 4294967296) (by omega)
  generalize r.getD (at_ + i) 0 = x at *
  generalize d.getD i 0 = y at *
  have hm := less_digit hy hq ⟨h4, h5⟩
  have hyq : (y * q).toNat = y.toNat * q.toNat := Int.toNat_mul hy.1 hq.1
  refine ⟨by simp [h1], h2.set _ (by omega) (by omega), fun j hj => ?_, by omega, by omega, by split <;> omega, by split <;> omega, ?_⟩
  · rw [getD_set_ne (by omega)]; exact h3 j (by omega)
  · rw [e2]
    have e4 : ((x - (y * q + carry) % 4294967296 - borrow) % 4294967296).toNat + y.toNat * q.toNat + carry.toNat + borrow.toNat
        = x.toNat + 4294967296 * (((y * q + carry) / 4294967296).toNat + (if x < (y * q + carry) % 4294967296 + borrow then 1 else 0 : Int).toNat) := by
      rw [← hyq]; split <;> omega
    have e5 := congrArg (4294967296 ^ (at_ + i) * ·) e4
    simp only [Nat.mul_add] at e5
    have e6 : 4294967296 ^ at_ * (q.toNat * (lv (d.take i) + 4294967296 ^ i * y.toNat)) = 4294967296 ^ at_ * (q.toNat * lv (d.take i)) + 4294967296 ^ (at_ + i) * (y.toNat * q.toNat) := by
      rw [Nat.pow_add]; grind
    rw [e6, ← Nat.add_assoc at_ i 1, Nat.pow_succ, Nat.mul_assoc]
    simp only [Nat.mul_add] at h8 e3 ⊢
    omega

theorem LessInv.stop {r0 d r : List Int} {q : Int} {at_ : Nat} {carry borrow : Int} (h : LessInv r0 d q at_ r d.length carry borrow) (hi : at_ + d.length < r0.length) :
    (r.set (at_ + d.length) ((r.getD (at_ + d.length) 0 - carry - borrow) % 4294967296)).length = r0.length ∧
    Lb (r.set (at_ + d.length) ((r.getD (at_ + d.length) 0 - carry - borrow) % 4294967296)) ∧
    (∀ j, at_ + d.length + 1 ≤ j → (r.set (at_ + d.length) ((r.getD (at_ + d.length) 0 - carry - borrow) % 4294967296)).getD j 0 = r0.getD j 0) ∧
    lv (r.set (at_ + d.length) ((r.getD (at_ + d.length) 0 - carry - borrow) % 4294967296)) + 4294967296 ^ at_ * (q.toNat * lv d)
      = lv r0 + 4294967296 ^ (at_ + d.length + 1) * (if r.getD (at_ + d.length) 0 < carry + borrow then 1 else 0 : Int).toNat := by
  obtain ⟨h1, h2, h3, h4, h5, h6, h7, h8⟩ := h
  have hx := h2.getD (at_ + d.length)
  have e3 := lv_set (l := r) (i := at_ + d.length) ((r.getD (at_ + d.length) 0 - carry - borrow) % 4294967296) (by omega)
  rw [lv_take_all] at h8
  generalize r.getD (at_ + d.length) 0 = x at *
  refine ⟨by simp [h1], h2.set _ (by omega) (by omega), fun j hj => ?_, ?_⟩
  · rw [getD_set_ne (by omega)]; exact h3 j (by omega)
  · have e4 : ((x - carry - borrow) % 4294967296).toNat + carry.toNat + borrow.toNat = x.toNat + 4294967296 * (if x < carry + borrow then 1 else 0 : Int).toNat := by
      split <;> omega
    have e5 := congrArg (4294967296 ^ (at_ + d.length) * ·) e4
    simp only [Nat.mul_add] at e5 h8
    rw [Nat.pow_succ, Nat.mul_assoc]
    omega

/-! ### and given back -/
structure MoreInv (r0 d : List Int) (at_ : Nat) (r : List Int) (i : Nat) (c : Int) : Prop where
  len : r.length = r0.length
  lb : Lb r
  same : ∀ j, at_ + i ≤ j → r.getD j 0 = r0.getD j 0
  c0 : 0 ≤ c
  c1 : c ≤ 1
  val : lv r + 4294967296 ^ (at_ + i) * c.toNat = lv r0 + 4294967296 ^ at_ * lv (d.take i)

theorem MoreInv.start {r0 : List Int} (d : List Int) (at_ : Nat) (h : Lb r0) : MoreInv r0 d at_ r0 0 0 :=
  ⟨rfl, h, fun _ _ => rfl, by omega, by omega, by simp [lv]⟩

theorem MoreInv.step {r0 d r : List Int} {at_ i : Nat} {c : Int} (hd : Lb d) (h : MoreInv r0 d at_ r i c) (hi : at_ + i < r0.length) :
    MoreInv r0 d at_ (r.set (at_ + i) ((r.getD (at_ + i) 0 + d.getD i 0 + c) % 4294967296)) (i + 1) ((r.getD (at_ + i) 0 + d.getD i 0 + c) / 4294967296) := by
  obtain ⟨h1, h2, h3, h4, h5, h6⟩ := h
  have hx := h2.getD (at_ + i)
  have hy := hd.getD i
  have e2 := lv_take_next d i
  have e3 := lv_set (l := r) (i := at_ + i) ((r.getD (at_ + i) 0 + d.getD i 0 + c) % 4294967296) (by omega)
  generalize r.getD (at_ + i) 0 = x at *
  generalize d.getD i 0 = y at *
  refine ⟨by simp [h1], h2.set _ (by omega) (by omega), fun j hj => ?_, by omega, by omega, ?_⟩
  · rw [getD_set_ne (by omega)]; exact h3 j (by omega)
  · rw [e2]
    have e4 : ((x + y + c) % 4294967296).toNat + 4294967296 * ((x + y + c) / 4294967296).toNat = x.toNat + y.toNat + c.toNat := by omega
    have e5 := congrArg (4294967296 ^ (at_ + i) * ·) e4
    simp only [Nat.mul_add] at e5
    have e6 : 4294967296 ^ at_ * (lv (d.take i) + 4294967296 ^ i * y.toNat) = 4294967296 ^ at_ * lv (d.take i) + 4294967296 ^ (at_ + i) * y.toNat := by
      rw [Nat.pow_add]; grind
    rw [e6, ← Nat.add_assoc at_ i 1, Nat.pow_succ, Nat.mul_assoc]
    omega

theorem MoreInv.stop {r0 d r : List Int} {at_ : Nat} {c : Int} (h : MoreInv r0 d at_ r d.length c) (hi : at_ + d.length < r0.length) :
    (r.set (at_ + d.length) ((r.getD (at_ + d.length) 0 + c) % 4294967296)).length = r0.length ∧
    Lb (r.set (at_ + d.length) ((r.getD (at_ + d.length) 0 + c) % 4294967296)) ∧
    (∀ j, at_ + d.length + 1 ≤ j → (r.set (at_ + d.length) ((r.getD (at_ + d.length) 0 + c) % 4294967296)).getD j 0 = r0.getD j 0) ∧
    lv (r.set (at_ + d.length) ((r.getD (at_ + d.length) 0 + c) % 4294967296)) + 4294967296 ^ (at_ + d.length + 1) * ((r.getD (at_ + d.length) 0 + c) / 4294967296).toNat
      = lv r0 + 4294967296 ^ at_ * lv d := by
  obtain ⟨h1, h2, h3, h4, h5, h6⟩ := h
  have hx := h2.getD (at_ + d.length)
  have e3 := lv_set (l := r) (i := at_ + d.length) ((r.getD (at_ + d.length) 0 + c) % 4294967296) (by omega)
  rw [lv_take_all] at h6
  generalize r.getD (at_ + d.length) 0 = x at *
  refine ⟨by simp [h1], h2.set _ (by omega) (by omega), fun j hj => ?_, ?_⟩
  · rw [getD_set_ne (by omega)]; exact h3 j (by omega)
  · have e4 : ((x + c) % 4294967296).toNat + 4294967296 * ((x + c) / 4294967296).toNat = x.toNat + c.toNat := by omega
    have e5 := congrArg (4294967296 ^ (at_ + d.length) * ·) e4
    simp only [Nat.mul_add] at e5
    rw [Nat.pow_succ, Nat.mul_assoc]
    omega

/-! ### limb by limb -/
theorem lv_lt_of_zero {r : List Int} (h : Lb r) {k : Nat} (h0 : ∀ j, k ≤ j → r.getD j 0 = 0) : lv r < 4294967296 ^ k := by
  rcases Nat.lt_or_ge r.length k with hk | hk
  · exact Nat.lt_of_lt_of_le (lv_lt h) (Nat.pow_le_pow_right (by omega) (by omega))
  · have h1 := lv_take_drop r k hk
    have h2 := lv_take_lt h k hk
    have h3 : lv (r.drop k) = 0 := by
      have : ∀ (l : List Int), (∀ j, l.getD j 0 = 0) → lv l = 0 := by
        intro l
        induction l with
        | nil => intro _; rfl
        | cons x l ih =>
          intro hz
          have e1 := hz 0
          have e2 := ih (fun j => by have := hz (j + 1); simpa using this)
          simp at e1
          simp [lv, e1, e2]
      refine this _ (fun j => ?_)
      rw [getD_drop]
      exact h0 _ (by omega)
    rw [h3] at h1
    omega

theorem zero_of_lv_lt {r : List Int} (h : Lb r) {k : Nat} (hlt : lv r < 4294967296 ^ k) : ∀ j, k ≤ j → r.getD j 0 = 0 := by
  intro j hj
  rcases Nat.lt_or_ge j r.length with hl | hl
  · have h1 := lv_take_drop r j (by omega)
    have h2 := lv_drop_cons r j
    have h3 := h.getD j
    rcases (show r.getD j 0 = 0 ∨ 0 < r.getD j 0 by omega) with h4 | h4
    · exact h4
    · exfalso
      have h5 : 4294967296 ^ j * 1 ≤ 4294967296 ^ j * lv (r.drop j) := Nat.mul_le_mul_left _ (by omega)
      have h6 : 4294967296 ^ k ≤ 4294967296 ^ j := Nat.pow_le_pow_right (by omega) hj
      omega
  · simp [List.getD, List.getElem?_eq_none hl]

structure DivInv (A D n : Nat) (r q : List Int) (at_ : Nat) : Prop where
  lenr : q.length + n ≤ r.length
  lbr : Lb r
  lbq : Lb q
  zero : ∀ j, j < at_ → q.getD j 0 = 0
  val : lv q * D + lv r = A
  lt : lv r < D * 4294967296 ^ at_

/-- The three highest limbs, and the divisor's two. -/
theorem DivInv.top {A D n at_ : Nat} {r q : List Int} (h : DivInv A D n r q (at_ + 1)) (hn : 2 ≤ n) (hD : D < 4294967296 ^ n) (hat : at_ < q.length) :
    ((r.getD (at_ + n) 0 * 4294967296 + r.getD (at_ + n - 1) 0) * 4294967296 + r.getD (at_ + n - 2) 0).toNat = lv r / 4294967296 ^ (at_ + n - 2) := by
  have h0 := h.lenr
  have b2 := h.lbr.getD (at_ + n)
  have b1 := h.lbr.getD (at_ + n - 1)
  have b0 := h.lbr.getD (at_ + n - 2)
  rw [← lv_drop h.lbr _ (by omega), lv_drop_cons, show at_ + n - 2 + 1 = at_ + n - 1 by omega, lv_drop_cons r (at_ + n - 1), show at_ + n - 1 + 1 = at_ + n by omega, lv_drop_cons r (at_ + n)]
  have hz : lv (r.drop (at_ + n + 1)) = 0 := by
    rw [lv_drop h.lbr _ (by omega)]
    refine Nat.div_eq_of_lt (Nat.lt_of_lt_of_le h.lt ?_)
    have : D * 4294967296 ^ (at_ + 1) ≤ 4294967296 ^ n * 4294967296 ^ (at_ + 1) := Nat.mul_le_mul_right _ (by omega)
    rw [← Nat.pow_add] at this
    rw [show at_ + n + 1 = n + (at_ + 1) by omega]
    exact this
  rw [hz]
  omega

theorem div_top {d : List Int} (hd : Lb d) (hn : 2 ≤ d.length) : (d.getD (d.length - 1) 0 * 4294967296 + d.getD (d.length - 2) 0).toNat = lv d / 4294967296 ^ (d.length - 2) := by
  have b1 := hd.getD (d.length - 1)
  have b0 := hd.getD (d.length - 2)
  rw [← lv_drop hd _ (by omega), lv_drop_cons, show d.length - 2 + 1 = d.length - 1 by omega, lv_drop_cons d (d.length - 1), show d.length - 1 + 1 = d.length by omega, List.drop_length]
  simp only [lv]
  omega

theorem DivInv.in_ {A n at_ : Nat} {r q d : List Int} (h : DivInv A (lv d) n r q (at_ + 1)) (hd : Lb d) (hn : 2 ≤ n) (hdn : d.length = n) (hat : at_ < q.length) (h0 : d.getD (n - 1) 0 ≠ 0) :
    GuessIn (r.getD (at_ + n) 0) (r.getD (at_ + n - 1) 0) (r.getD (at_ + n - 2) 0) (d.getD (n - 1) 0) (d.getD (n - 2) 0) := by
  have hD := lv_lt hd
  rw [hdn] at hD
  have e1 := h.top hn hD hat
  have e2 := div_top hd (by omega)
  rw [hdn] at e2
  have b2 := h.lbr.getD (at_ + n)
  have b1 := h.lbr.getD (at_ + n - 1)
  have b0 := h.lbr.getD (at_ + n - 2)
  have c1 := hd.getD (n - 1)
  have c0 := hd.getD (n - 2)
  refine ⟨b2, b1, b0, ⟨by omega, c1.2⟩, c0, ?_⟩
  have h1 : lv r / 4294967296 ^ (at_ + n - 2) < (lv d / 4294967296 ^ (n - 2) + 1) * 4294967296 := by
    have hp : 0 < 4294967296 ^ (n - 2) := Nat.pow_pos (by omega)
    refine (Nat.div_lt_iff_lt_mul (Nat.pow_pos (by omega))).2 ?_
    have h2 : lv d < (lv d / 4294967296 ^ (n - 2) + 1) * 4294967296 ^ (n - 2) := (Nat.div_lt_iff_lt_mul hp).1 (Nat.lt_succ_self _)
    have h3 := h.lt
    have h4 : lv d * 4294967296 ^ (at_ + 1) ≤ (lv d / 4294967296 ^ (n - 2) + 1) * 4294967296 ^ (n - 2) * 4294967296 ^ (at_ + 1) := Nat.mul_le_mul_right _ (by omega)
    have h5 : (lv d / 4294967296 ^ (n - 2) + 1) * 4294967296 ^ (n - 2) * 4294967296 ^ (at_ + 1) = (lv d / 4294967296 ^ (n - 2) + 1) * 4294967296 * 4294967296 ^ (at_ + n - 2) := by
      rw [show at_ + n - 2 = at_ + (n - 2) by omega, Nat.pow_add, Nat.pow_add]
      grind
    omega
  omega

theorem DivInv.near {A n at_ : Nat} {r q d : List Int} {g : Int} (h : DivInv A (lv d) n r q (at_ + 1)) (hd : Lb d) (hn : 2 ≤ n) (hdn : d.length = n) (hat : at_ < q.length) (h0 : d.getD (n - 1) 0 ≠ 0)
    (hg : GuessOK (r.getD (at_ + n) 0) (r.getD (at_ + n - 1) 0) (r.getD (at_ + n - 2) 0) (d.getD (n - 1) 0) (d.getD (n - 2) 0) g) :
    lv r / (4294967296 ^ at_ * lv d) ≤ g.toNat ∧ g.toNat ≤ lv r / (4294967296 ^ at_ * lv d) + 1 := by
  have hD := lv_lt hd
  rw [hdn] at hD
  have e1 := h.top hn hD hat
  have e2 := div_top hd (by omega)
  rw [hdn] at e2
  have b2 := h.lbr.getD (at_ + n)
  have b1 := h.lbr.getD (at_ + n - 1)
  have b0 := h.lbr.getD (at_ + n - 2)
  have c1 := hd.getD (n - 1)
  have c0 := hd.getD (n - 2)
  obtain ⟨g0, g1, g2, g3⟩ := hg
  obtain ⟨g', rfl⟩ := Int.eq_ofNat_of_zero_le g0
  have hDl : 4294967296 ^ (n - 1) ≤ lv d := by
    have := lv_take_drop d (n - 1) (by omega)
    rw [lv_drop_cons d (n - 1)] at this
    have h5 : 4294967296 ^ (n - 1) * 1 ≤ 4294967296 ^ (n - 1) * ((d.getD (n - 1) 0).toNat + 4294967296 * lv (d.drop (n - 1 + 1))) := Nat.mul_le_mul_left _ (by omega)
    omega
  have cast : ∀ k : Nat, (k : Int) * (d.getD (n - 1) 0 * 4294967296 + d.getD (n - 2) 0) ≤ (r.getD (at_ + n) 0 * 4294967296 + r.getD (at_ + n - 1) 0) * 4294967296 + r.getD (at_ + n - 2) 0 ↔
      k * (lv d / 4294967296 ^ (n - 2)) ≤ lv r / 4294967296 ^ (at_ + n - 2) := by
    intro k
    rw [← e1, ← e2]
    have p1 : 0 ≤ d.getD (n - 1) 0 * 4294967296 + d.getD (n - 2) 0 := by omega
    have p2 : 0 ≤ (r.getD (at_ + n) 0 * 4294967296 + r.getD (at_ + n - 1) 0) * 4294967296 + r.getD (at_ + n - 2) 0 := by omega
    generalize d.getD (n - 1) 0 * 4294967296 + d.getD (n - 2) 0 = V at *
    generalize (r.getD (at_ + n) 0 * 4294967296 + r.getD (at_ + n - 1) 0) * 4294967296 + r.getD (at_ + n - 2) 0 = U at *
    obtain ⟨V', rfl⟩ := Int.eq_ofNat_of_zero_le p1
    obtain ⟨U', rfl⟩ := Int.eq_ofNat_of_zero_le p2
    simp only [Int.toNat_natCast]
    rw [← Int.natCast_mul]
    exact Int.ofNat_le
  rw [Int.toNat_natCast]
  exact guess_near hn hDl h.lt ((cast g').1 g2) (fun k hk hk1 => by
    have := g3 k ((cast k).2 hk) (by omega)
    omega)

theorem DivInv.down {A D n at_ : Nat} {r r' q : List Int} {g : Int} (h : DivInv A D n r q (at_ + 1)) (hat : at_ < q.length) (hl : r'.length = r.length) (hb : Lb r') (hg : 0 ≤ g ∧ g < 4294967296)
    (hv : lv r' + 4294967296 ^ at_ * (g.toNat * D) = lv r) (hlt : lv r' < D * 4294967296 ^ at_) : DivInv A D n r' (q.set at_ g) at_ := by
  have e3 := lv_set (l := q) (i := at_) g hat
  rw [h.zero at_ (by omega)] at e3
  refine ⟨by simp [hl, h.lenr], hb, h.lbq.set _ hg.1 hg.2, fun j hj => ?_, ?_, hlt⟩
  · rw [getD_set_ne (by omega)]; exact h.zero j (by omega)
  · have := h.val
    simp only [Int.toNat_zero, Nat.mul_zero, Nat.add_zero] at e3
    rw [e3, Nat.add_mul]
    have : 4294967296 ^ at_ * g.toNat * D = 4294967296 ^ at_ * (g.toNat * D) := Nat.mul_assoc ..
    omega

theorem div_pick {R M s x : Nat} (hM : 0 < M) (h : R / M = s) (hx : x + s * M = R) : x < M := by
  have := Nat.div_add_mod R M
  have h2 := Nat.mod_lt R hM
  rw [h] at this
  have : M * s = s * M := Nat.mul_comm ..
  omega

/-- Where nothing was borrowed. -/
theorem DivInv.same {A D n at_ : Nat} {r r' q : List Int} {g : Int} (h : DivInv A D n r q (at_ + 1)) (hat : at_ < q.length) (hD : 0 < D) (hl : r'.length = r.length) (hb : Lb r') (hg : 0 ≤ g ∧ g < 4294967296)
    (hn : lv r / (4294967296 ^ at_ * D) ≤ g.toNat) (hv : lv r' + 4294967296 ^ at_ * (g.toNat * D) = lv r) : DivInv A D n r' (q.set at_ g) at_ := by
  have hM : 0 < 4294967296 ^ at_ * D := Nat.mul_pos (Nat.pow_pos (by omega)) hD
  have e : 4294967296 ^ at_ * (g.toNat * D) = g.toNat * (4294967296 ^ at_ * D) := Nat.mul_left_comm ..
  have hs : lv r / (4294967296 ^ at_ * D) = g.toNat := by
    have : g.toNat ≤ lv r / (4294967296 ^ at_ * D) := (Nat.le_div_iff_mul_le hM).2 (by omega)
    omega
  refine h.down hat hl hb hg hv ?_
  have := div_pick hM hs (x := lv r') (by omega)
  rw [Nat.mul_comm]
  exact this

set_option maxHeartbeats 1000000 in
/-- Where it was too much. -/
theorem DivInv.less {A D n at_ : Nat} {r r1 r' q : List Int} {g c : Int} (h : DivInv A D n r q (at_ + 1)) (hat : at_ < q.length) (hD : 0 < D) (hDn : D < 4294967296 ^ n) (hl : r'.length = r.length) (hb1 : Lb r1) (hb : Lb r') (hg : 0 ≤ g ∧ g < 4294967296)
    (hn : g.toNat ≤ lv r / (4294967296 ^ at_ * D) + 1) (hs : ∀ j, at_ + n + 1 ≤ j → r'.getD j 0 = r.getD j 0) (hs1 : ∀ j, at_ + n + 1 ≤ j → r1.getD j 0 = r.getD j 0) (hc : 0 ≤ c ∧ c ≤ 1)
    (hv1 : lv r1 + 4294967296 ^ at_ * (g.toNat * D) = lv r + 4294967296 ^ (at_ + n + 1)) (hv : lv r' + 4294967296 ^ (at_ + n + 1) * c.toNat = lv r1 + 4294967296 ^ at_ * D) :
    1 ≤ g ∧ DivInv A D n r' (q.set at_ (g - 1)) at_ := by
  have hM : 0 < 4294967296 ^ at_ * D := Nat.mul_pos (Nat.pow_pos (by omega)) hD
  have hrz : lv r < 4294967296 ^ (at_ + n + 1) := by
    refine Nat.lt_of_lt_of_le h.lt ?_
    have : D * 4294967296 ^ (at_ + 1) ≤ 4294967296 ^ n * 4294967296 ^ (at_ + 1) := Nat.mul_le_mul_right _ (by omega)
    rw [← Nat.pow_add] at this
    rw [show at_ + n + 1 = n + (at_ + 1) by omega]
    exact this
  have hz := zero_of_lv_lt h.lbr hrz
  have l1 := lv_lt_of_zero hb1 (k := at_ + n + 1) (fun j hj => by rw [hs1 j hj]; exact hz j hj)
  have l2 := lv_lt_of_zero hb (k := at_ + n + 1) (fun j hj => by rw [hs j hj]; exact hz j hj)
  have g1 : 1 ≤ g.toNat := by
    rcases Nat.eq_zero_or_pos g.toNat with e | e
    · exfalso
      rw [e] at hv1
      simp only [Nat.zero_mul, Nat.mul_zero] at hv1
      omega
    · exact e
  have e : 4294967296 ^ at_ * (g.toNat * D) = 4294967296 ^ at_ * ((g - 1).toNat * D) + 4294967296 ^ at_ * D := by
    rw [show g.toNat = (g - 1).toNat + 1 by omega, Nat.add_mul, Nat.mul_add, Nat.one_mul]
  have hle : 4294967296 ^ at_ * ((g - 1).toNat * D) ≤ lv r := by
    have h5 : (g - 1).toNat ≤ lv r / (4294967296 ^ at_ * D) := by omega
    have h6 := (Nat.le_div_iff_mul_le hM).1 h5
    have : 4294967296 ^ at_ * ((g - 1).toNat * D) = (g - 1).toNat * (4294967296 ^ at_ * D) := Nat.mul_left_comm ..
    omega
  have hc1 : c = 1 := by
    rcases (show c = 0 ∨ c = 1 by omega) with rfl | rfl
    · exfalso
      simp only [Int.toNat_zero, Nat.mul_zero] at hv
      omega
    · rfl
  subst hc1
  simp only [Int.toNat_one, Nat.mul_one] at hv
  refine ⟨by omega, ?_⟩
  have hv' : lv r' + 4294967296 ^ at_ * ((g - 1).toNat * D) = lv r := by omega
  refine h.same hat hD hl hb (by omega) ?_ hv'
  have h7 : lv r < 4294967296 ^ at_ * (g.toNat * D) := by omega
  have h8 : lv r < g.toNat * (4294967296 ^ at_ * D) := by
    rw [← Nat.mul_left_comm]
    exact h7
  have := (Nat.div_lt_iff_lt_mul hM).2 h8
  omega

theorem DivInv.stop {A D n : Nat} {r q : List Int} (h : DivInv A D n r q 0) : lv q = A / D ∧ lv r = A % D := by
  have h1 := h.val
  have h2 := h.lt
  simp only [Nat.pow_zero, Nat.mul_one] at h2
  have hD : 0 < D := by omega
  constructor
  · rw [← h1, Nat.mul_comm, Nat.add_comm, Nat.add_mul_div_left _ _ hD, Nat.div_eq_of_lt h2, Nat.zero_add]
  · rw [← h1, Nat.mul_comm, Nat.add_comm, Nat.add_mul_mod_self_left, Nat.mod_eq_of_lt h2]
end Go.Proofs.Ytincnfjihffllaa.Ev

/- Square roots of natural numbers: plain Lean. -/
namespace Go.Proofs.Ytincnfjihffllaa.Ev
open Go

def nsqrt : Nat → Nat
  | 0 => 0
  | n + 1 => if (nsqrt n + 1) * (nsqrt n + 1) ≤ n + 1 then nsqrt n + 1 else nsqrt n

theorem nsqrt_spec (n : Nat) : nsqrt n * nsqrt n ≤ n ∧ n < (nsqrt n + 1) * (nsqrt n + 1) := by
  induction n with
  | zero => exact ⟨by decide, by decide⟩
  | succ n ih =>
    obtain ⟨h1, h2⟩ := ih
    simp only [nsqrt]
    have e : ∀ s : Nat, (s + 1 + 1) * (s + 1 + 1) = (s + 1) * (s + 1) + 2 * s + 3 := by intro s; grind
    split
    · rename_i h
      refine ⟨h, ?_⟩
      rw [e]
      omega
    · rename_i h
      exact ⟨by omega, by omega⟩

theorem sq_lt {s t : Nat} (h : s * s < t * t) : s < t := by
  rcases Nat.lt_or_ge s t with h1 | h1
  · exact h1
  · have := Nat.mul_le_mul h1 h1
    omega

theorem nsqrt_eq {n s : Nat} (h1 : s * s ≤ n) (h2 : n < (s + 1) * (s + 1)) : nsqrt n = s := by
  obtain ⟨k1, k2⟩ := nsqrt_spec n
  have a1 := sq_lt (s := s) (t := nsqrt n + 1) (by omega)
  have a2 := sq_lt (s := nsqrt n) (t := s + 1) (by omega)
  omega

theorem am_gm (x y : Nat) : 4 * (x * y) ≤ (x + y) * (x + y) := by
  rcases Nat.le_total x y with h | h
  · obtain ⟨d, rfl⟩ := Nat.exists_eq_add_of_le h
    have : (x + (x + d)) * (x + (x + d)) = 4 * (x * (x + d)) + d * d := by grind
    omega
  · obtain ⟨d, rfl⟩ := Nat.exists_eq_add_of_le h
    have : (y + d + y) * (y + d + y) = 4 * ((y + d) * y) + d * d := by grind
    omega

/-- Newton's step stays above. -/
theorem newton_step {a s : Nat} (hs : 0 < s) : a < ((s + a / s) / 2 + 1) * ((s + a / s) / 2 + 1) := by
  have h1 : a < s * (a / s + 1) := by
    have h0 := Nat.div_add_mod a s
    have h2 := Nat.mod_lt a hs
    rw [Nat.mul_add]
    omega
  have h2 := am_gm s (a / s + 1)
  generalize a / s = q at *
  have h3 : s + (q + 1) ≤ 2 * ((s + q) / 2 + 1) := by omega
  have h4 := Nat.mul_le_mul h3 h3
  have h5 : 2 * ((s + q) / 2 + 1) * (2 * ((s + q) / 2 + 1)) = 4 * (((s + q) / 2 + 1) * ((s + q) / 2 + 1)) := by grind
  omega
theorem newton_pos {a s : Nat} (ha : 0 < a) (hs : 0 < s) : 0 < (s + a / s) / 2 := by
  rcases Nat.lt_or_ge 1 s with h | h
  · generalize a / s = q
    omega
  · have : s = 1 := by omega
    subst this
    rw [Nat.div_one]
    omega
theorem newton_stop {a s : Nat} (hs : 0 < s) (h : s ≤ (s + a / s) / 2) : s * s ≤ a := by
  have h1 : s ≤ a / s := by omega
  exact (Nat.le_div_iff_mul_le hs).1 h1
end Go.Proofs.Ytincnfjihffllaa.Ev

/- Words of 32 bits: plain Lean. -/
namespace Go.Proofs.Ytincnfjihffllaa.Ev
open Go

theorem shr31 (x : Int) : x.fdiv (2 ^ min (Int.toNat 31) IntKind.u32.bits) = x / 2147483648 := shr_lit (by decide)

theorem bit31 (v : BitVec 32) : ((v.toNat : Int)) / 2147483648 = if v.toNat.testBit 31 then 1 else 0 := by
  have h := v.isLt
  rw [Nat.testBit_eq_decide_div_mod_eq]
  by_cases g : v.toNat / 2 ^ 31 % 2 = 1
  · rw [if_pos (by simpa using g)]; omega
  · rw [if_neg (by simpa using g)]; omega
theorem bit31_of {x : Int} (h : 0 ≤ x) (h' : x < 4294967296) : (BitVec.ofInt 32 x).toNat.testBit 31 = decide (2147483648 ≤ x) := by
  rw [toNat_ofInt32 h h', Nat.testBit_eq_decide_div_mod_eq]
  rw [decide_eq_decide]
  omega

theorem w32 (v : BitVec 32) : IntKind.u32.wrap (v.toNat : Int) = v.toNat := by
  have := v.isLt
  rw [wu32]; omega
theorem not32 (x : BitVec 32) : (BitVec.ofInt 32 4294967295 ^^^ x).toNat.testBit 31 = !x.toNat.testBit 31 := by
  rw [BitVec.toNat_xor, Nat.testBit_xor]
  have : (BitVec.ofInt 32 4294967295).toNat.testBit 31 = true := by decide
  rw [this]; simp
theorem ofInt_w32 (v : BitVec 32) : BitVec.ofInt 32 (v.toNat : Int) = v := by
  apply BitVec.eq_of_toNat_eq
  rw [BitVec.toNat_ofInt]
  have := v.isLt
  omega

/-- the borrow of a difference -/
theorem borrow32 {x y d : Int} (hx : 0 ≤ x) (hx' : x < 4294967296) (hy : 0 ≤ y) (hy' : y < 4294967296) (hd : 0 ≤ d) (hd' : d < 4294967296) {b : Int} (hb : b = 0 ∨ b = 1) (h : d = (x - y - b) % 4294967296) :
    IntKind.u32.wrap ((BitVec.ofInt 32 (IntKind.u32.wrap ((BitVec.ofInt 32 (IntKind.u32.wrap ((BitVec.ofInt 32 4294967295 ^^^ BitVec.ofInt 32 x).toNat : Int)) &&& BitVec.ofInt 32 y).toNat : Int)) |||
      BitVec.ofInt 32 (IntKind.u32.wrap ((BitVec.ofInt 32 (IntKind.u32.wrap ((BitVec.ofInt 32 4294967295 ^^^ BitVec.ofInt 32 (IntKind.u32.wrap ((BitVec.ofInt 32 x ^^^ BitVec.ofInt 32 y).toNat : Int))).toNat : Int)) &&& BitVec.ofInt 32 d).toNat : Int))).toNat : Int) / 2147483648
    = if x < y + b then 1 else 0 := by
  simp only [w32, ofInt_w32]
  rw [bit31, BitVec.toNat_or, Nat.testBit_or, BitVec.toNat_and, Nat.testBit_and, BitVec.toNat_and, Nat.testBit_and, not32, not32, BitVec.toNat_xor, Nat.testBit_xor, bit31_of hx hx', bit31_of hy hy', bit31_of hd hd']
  by_cases c1 : 2147483648 ≤ x <;> by_cases c2 : 2147483648 ≤ y <;> by_cases c3 : 2147483648 ≤ d <;> simp only [c1, c2, c3, decide_true, decide_false, Bool.not_true, Bool.not_false, Bool.and_true, Bool.and_false, Bool.or_true, Bool.or_false, Bool.xor_true, Bool.xor_false, Bool.true_and, Bool.false_and, if_true, Bool.false_eq_true, if_false] <;> (split <;> omega)

theorem div32_word {hi lo : Int} (h0 : 0 ≤ hi) (h1 : hi < 4294967296) (l0 : 0 ≤ lo) (l1 : lo < 4294967296) :
    IntKind.u64.wrap ((BitVec.ofInt IntKind.u64.bits (IntKind.u64.wrap (IntKind.u64.wrap hi * 2 ^ min (Int.toNat 32) IntKind.u64.bits)) ||| BitVec.ofInt IntKind.u64.bits (IntKind.u64.wrap lo)).toNat : Int) = hi * 4294967296 + lo := by
  rw [shl32, show IntKind.u64.wrap hi = hi by (rw [wu64]; omega), show IntKind.u64.wrap lo = lo by (rw [wu64]; omega), show IntKind.u64.wrap (hi * 4294967296) = hi * 4294967296 by (rw [wu64]; omega)]
  exact or64' l0 l1 h0 h1
theorem div32_parts {hi lo y : Int} (h0 : 0 ≤ hi) (l0 : 0 ≤ lo) (l1 : lo < 4294967296) (hlt : hi < y) (hy : y < 4294967296) :
    IntKind.u32.wrap (IntKind.u64.wrap ((hi * 4294967296 + lo).tdiv (IntKind.u64.wrap y))) = (hi * 4294967296 + lo) / y ∧ IntKind.u32.wrap ((hi * 4294967296 + lo).tmod (IntKind.u64.wrap y)) = (hi * 4294967296 + lo) % y := by
  have ey : IntKind.u64.wrap y = y := by rw [wu64]; omega
  have n0 : 0 ≤ hi * 4294967296 + lo := by omega
  rw [ey, Int.tdiv_eq_ediv_of_nonneg n0, Int.tmod_eq_emod_of_nonneg n0]
  have q0 : 0 ≤ (hi * 4294967296 + lo) / y := Int.ediv_nonneg n0 (by omega)
  have q1 : (hi * 4294967296 + lo) / y < 4294967296 := by
    refine Int.ediv_lt_of_lt_mul (by omega) ?_
    have : (hi + 1) * 4294967296 ≤ y * 4294967296 := Int.mul_le_mul_of_nonneg_right (by omega) (by omega)
    omega
  have r0 := Int.emod_nonneg (hi * 4294967296 + lo) (show y ≠ 0 by omega)
  have r1 := Int.emod_lt_of_pos (hi * 4294967296 + lo) (show 0 < y by omega)
  generalize (hi * 4294967296 + lo) / y = q at *
  generalize (hi * 4294967296 + lo) % y = r at *
  constructor
  · rw [wu32, wu64]; omega
  · rw [wu32]; omega
theorem shr16' (x : Int) : x.fdiv (2 ^ min (Int.toNat 16) IntKind.u32.bits) = x / 65536 := shr_lit (by decide)
theorem shr8' (x : Int) : x.fdiv (2 ^ min (Int.toNat 8) IntKind.u32.bits) = x / 256 := shr_lit (by decide)
end Go.Proofs.Ytincnfjihffllaa.Ev

/- Steps of the loops over limbs, as the words of the program reckon them. -/
namespace Go.Proofs.Ytincnfjihffllaa.Ev
open Go

theorem wi64_id {n : Int} (h0 : 0 ≤ n) (h1 : n < 9223372036854775808) : IntKind.i64.wrap n = n := by rw [wi64]; omega

theorem mul_next {a b out : List Int} {i k c : Int} (ha : Lb a) (hb : Lb b) (hla : a.length < 134217728) (hlb : b.length < 134217728) (h1 : 0 ≤ i) (h2 : i < a.length) (h3 : 0 ≤ k) (h4 : k < b.length)
    (inv : MulInv a b out i.toNat k.toNat c) {i' k' x y v v2 j : Int} (ei : i' = i) (ek : k' = k) (ex : x = a.getD i.toNat 0) (ey : y = b.getD k.toNat 0)
    (ev : v = intBinR .add .u64 (intBinR .add .u64 (intBinR .mul .u64 (IntKind.u64.wrap x) (IntKind.u64.wrap y)) (IntKind.u64.wrap (out.getD (intBinR .add .i64 i' k').toNat 0))) c)
    (e2 : v2 = intBinR .shr .u64 v 32) (ej : j = intBinR .add .i64 k 1) :
    0 ≤ j ∧ j ≤ b.length ∧ ((b.length : Int) - j).toNat < ((b.length : Int) - k).toNat ∧ MulInv a b (out.set (intBinR .add .i64 i' k').toNat (IntKind.u32.wrap v)) i.toNat j.toNat v2 := by
  have hx := ha.getD i.toNat
  have hy := hb.getD k.toNat
  have hz := inv.lb.getD (i.toNat + k.toNat)
  have hd := mul_digit hx hy hz ⟨inv.c0, inv.c1⟩
  have st := inv.step ha hb (by omega) (by omega)
  subst ei ek ex ey
  have eik : (intBinR .add .i64 i' k').toNat = i'.toNat + k'.toNat := by
    show (IntKind.i64.wrap (i' + k')).toNat = _
    rw [wi64_id (by omega) (by omega)]; omega
  have ej' : j = k' + 1 := by rw [ej]; show IntKind.i64.wrap (k' + 1) = _; rw [wi64_id (by omega) (by omega)]
  rw [eik] at ev ⊢
  generalize a.getD i'.toNat 0 = x at *
  generalize b.getD k'.toNat 0 = y at *
  generalize out.getD (i'.toNat + k'.toNat) 0 = z at *
  have c0 := inv.c0
  have c1 := inv.c1
  have ev' : v = x * y + z + c := by
    rw [ev]
    show IntKind.u64.wrap (IntKind.u64.wrap (IntKind.u64.wrap (IntKind.u64.wrap x * IntKind.u64.wrap y) + IntKind.u64.wrap z) + c) = _
    simp only [wu64]
    rw [Int.emod_eq_of_lt hx.1 (by omega), Int.emod_eq_of_lt hy.1 (by omega), Int.emod_eq_of_lt hz.1 (by omega)]
    generalize x * y = p at *
    omega
  have e2' : v2 = v / 4294967296 := by rw [e2]; exact shr32 v
  rw [wu32, e2', ev', ej', show (k' + 1).toNat = k'.toNat + 1 by omega]
  exact ⟨by omega, by omega, by omega, st⟩

theorem mul_exit {a b out : List Int} {i k c : Int} (hla : a.length < 134217728) (hlb : b.length < 134217728) (h1 : 0 ≤ i) (h2 : i < a.length) (h3 : k ≤ b.length) (h4 : ¬ k < b.length)
    (inv : MulInv a b out i.toNat k.toNat c) {i' j : Int} (ei : i' = i) (ej : j = intBinR .add .i64 i 1) :
    0 ≤ j ∧ j ≤ a.length ∧ ((a.length : Int) - j).toNat < ((a.length : Int) - i).toNat ∧ MulInv a b (out.set (intBinR .add .i64 i' b.length).toNat (IntKind.u32.wrap c)) j.toNat 0 0 := by
  subst ei
  have e : k.toNat = b.length := by omega
  rw [e] at inv
  have st := inv.next (by omega)
  have eik : (intBinR .add .i64 i' b.length).toNat = i'.toNat + b.length := by
    show (IntKind.i64.wrap (i' + b.length)).toNat = _
    rw [wi64_id (by omega) (by omega)]; omega
  have ej' : j = i' + 1 := by rw [ej]; show IntKind.i64.wrap (i' + 1) = _; rw [wi64_id (by omega) (by omega)]
  have c0 := inv.c0
  have c1 := inv.c1
  rw [eik, ej', wu32, Int.emod_eq_of_lt c0 c1, show (i' + 1).toNat = i'.toNat + 1 by omega]
  exact ⟨by omega, by omega, by omega, st⟩
end Go.Proofs.Ytincnfjihffllaa.Ev

/- Steps of the loops that shift limbs, as the words of the program reckon them. -/
namespace Go.Proofs.Ytincnfjihffllaa.Ev
open Go

theorem quo32 {n : Int} (h : 0 ≤ n) (h' : n < 9223372036854775808) : intBinR .quo .i64 n 32 = n / 32 := by
  show IntKind.i64.wrap (n.tdiv 32) = _
  rw [Int.tdiv_eq_ediv_of_nonneg h, wi64_id (by omega) (by omega)]
theorem rem32 {n : Int} (h : 0 ≤ n) : intBinR .rem .i64 n 32 = n % 32 := by
  show n.tmod 32 = _
  exact Int.tmod_eq_emod_of_nonneg h

theorem pow2_cast (k : Nat) : (2 : Int) ^ k = ((2 ^ k : Nat) : Int) := by push_cast; rfl

theorem getD_past {a : List Int} {i : Nat} (h : a.length ≤ i) : a.getD i 0 = 0 := by simp [List.getD, List.getElem?_eq_none h]

theorem shl_next {a out : List Int} {n i i' l r x y j : Int} (ha : Lb a) (hla : a.length < 134217728) (hn : 1 ≤ n) (hn' : n ≤ 16777216) (h1 : 0 ≤ i) (h2 : i < a.length)
    (inv : ShlInv a out (n / 32).toNat (n % 32).toNat i.toNat) (ei : i' = i) (el : l = intBinR .quo .i64 n 32) (er : r = intBinR .rem .i64 n 32) (ex : x = a.getD i.toNat 0)
    (ey : y = intBinR .shl .u64 (IntKind.u64.wrap x) r) (ej : j = intBinR .add .i64 i 1) :
    0 ≤ j ∧ j ≤ a.length ∧ ((a.length : Int) - j).toNat < ((a.length : Int) - i).toNat ∧
    ShlInv a ((out.set (intBinR .add .i64 i' l).toNat (intBinR .or .u32 (out.getD (intBinR .add .i64 i' l).toNat 0) (IntKind.u32.wrap y))).set (intBinR .add .i64 (intBinR .add .i64 i' l) 1).toNat
      (intBinR .or .u32 ((out.set (intBinR .add .i64 i' l).toNat (intBinR .or .u32 (out.getD (intBinR .add .i64 i' l).toNat 0) (IntKind.u32.wrap y))).getD (intBinR .add .i64 (intBinR .add .i64 i' l) 1).toNat 0) (IntKind.u32.wrap (intBinR .shr .u64 y 32))))
      (n / 32).toNat (n % 32).toNat j.toNat := by
  subst ei
  rw [quo32 (by omega) (by omega)] at el
  rw [rem32 (by omega)] at er
  have hk : (n % 32).toNat < 32 := by omega
  have st := inv.step ha hk (by omega)
  have hx := ha.getD i'.toNat
  rw [← ex] at st hx
  have lo := inv.low
  have lb := inv.lb.getD (i'.toNat + (n / 32).toNat)
  have z := inv.zero (i'.toNat + (n / 32).toNat + 1) (by omega)
  have hd := shl_digit hx.1 hx.2 hk
  have ep : (intBinR .add .i64 i' l).toNat = i'.toNat + (n / 32).toNat := by
    show (IntKind.i64.wrap (i' + l)).toNat = _
    rw [wi64_id (by omega) (by omega)]; omega
  have eq : (intBinR .add .i64 (intBinR .add .i64 i' l) 1).toNat = i'.toNat + (n / 32).toNat + 1 := by
    show (IntKind.i64.wrap (IntKind.i64.wrap (i' + l) + 1)).toNat = _
    rw [wi64_id (n := i' + l) (by omega) (by omega), wi64_id (by omega) (by omega)]; omega
  have ey' : y = x * 2 ^ (n % 32).toNat := by
    rw [ey]
    show IntKind.u64.wrap (IntKind.u64.wrap x * 2 ^ (min r.toNat IntKind.u64.bits)) = _
    have e : min r.toNat IntKind.u64.bits = (n % 32).toNat := by
      rw [er]; exact Nat.min_eq_left (by show _ ≤ 64; omega)
    rw [e, wu64 x, Int.emod_eq_of_lt hx.1 (by omega), wu64, Int.emod_eq_of_lt hd.2.1 hd.1]
  have e32 : intBinR .shr .u64 y 32 = y / 4294967296 := shr32 y
  have ej' : j = i' + 1 := by rw [ej]; show IntKind.i64.wrap (i' + 1) = _; rw [wi64_id (by omega) (by omega)]
  obtain ⟨d1, d2, ⟨m, hm0, hm1, hm2⟩, d4, d5⟩ := hd
  have dlt : x * 2 ^ (n % 32).toNat / 4294967296 < 4294967296 := by
    have := two_pow_le (k := (n % 32).toNat) (by omega)
    rw [pow2_cast] at d5
    omega
  rw [ep, eq, e32, ey', getD_set_ne (by omega), z, wu32, wu32, ej', show (i' + 1).toNat = i'.toNat + 1 by omega]
  rw [Int.emod_eq_of_lt (a := x * 2 ^ (n % 32).toNat / 4294967296) d4 dlt]
  have o1 : intBinR .or .u32 (out.getD (i'.toNat + (n / 32).toNat) 0) (x * 2 ^ (n % 32).toNat % 4294967296) = out.getD (i'.toNat + (n / 32).toNat) 0 + x * 2 ^ (n % 32).toNat % 4294967296 := by
    rw [hm1]
    exact or32 lb.1 lo hm0 (by omega)
  have o2 : intBinR .or .u32 0 (x * 2 ^ (n % 32).toNat / 4294967296) = x * 2 ^ (n % 32).toNat / 4294967296 := or32z d4 dlt
  rw [o1, o2]
  exact ⟨by omega, by omega, by omega, st⟩

theorem shr_next {a out : List Int} {n i i' l r v w j : Int} (ha : Lb a) (hla : a.length < 134217728) (hn : 1 ≤ n) (hn' : n < 32 * a.length) (h1 : 0 ≤ i) (h2 : i < (a.length : Int) - n / 32)
    (inv : ShrInv a out (n / 32).toNat (n % 32).toNat i.toNat) (ei : i' = i) (el : l = intBinR .quo .i64 n 32) (er : r = intBinR .rem .i64 n 32)
    (ev : v = IntKind.u64.wrap (a.getD (intBinR .add .i64 i' l).toNat 0))
    (ew : (¬ intBinR .add .i64 (intBinR .add .i64 i' l) 1 < a.length ∧ w = v) ∨ w = intBinR .or .u64 v (intBinR .shl .u64 (IntKind.u64.wrap (a.getD (intBinR .add .i64 (intBinR .add .i64 i' l) 1).toNat 0)) 32))
    (ej : j = intBinR .add .i64 i 1) :
    0 ≤ j ∧ j ≤ (a.length : Int) - n / 32 ∧ ((a.length : Int) - j).toNat < ((a.length : Int) - i).toNat ∧
    ShrInv a (out.set i'.toNat (IntKind.u32.wrap (intBinR .shr .u64 w r))) (n / 32).toNat (n % 32).toNat j.toNat := by
  subst ei
  rw [quo32 (by omega) (by omega)] at el
  rw [rem32 (by omega)] at er
  have hk : (n % 32).toNat < 32 := by omega
  have st := inv.step ha hk (by omega) (by omega)
  have ep : (intBinR .add .i64 i' l).toNat = i'.toNat + (n / 32).toNat := by
    show (IntKind.i64.wrap (i' + l)).toNat = _
    rw [wi64_id (by omega) (by omega)]; omega
  have eq' : intBinR .add .i64 (intBinR .add .i64 i' l) 1 = i' + l + 1 := by
    show IntKind.i64.wrap (IntKind.i64.wrap (i' + l) + 1) = _
    rw [wi64_id (n := i' + l) (by omega) (by omega), wi64_id (by omega) (by omega)]
  have eq : (intBinR .add .i64 (intBinR .add .i64 i' l) 1).toNat = i'.toNat + (n / 32).toNat + 1 := by rw [eq']; omega
  have hx := ha.getD (i'.toNat + (n / 32).toNat)
  have hy := ha.getD (i'.toNat + (n / 32).toNat + 1)
  rw [ep] at ev
  rw [eq] at ew
  have ej' : j = i' + 1 := by rw [ej]; show IntKind.i64.wrap (i' + 1) = _; rw [wi64_id (by omega) (by omega)]
  have past : ¬ intBinR .add .i64 (intBinR .add .i64 i' l) 1 < a.length → a.getD (i'.toNat + (n / 32).toNat + 1) 0 = 0 := by
    intro h; rw [eq'] at h; exact getD_past (by omega)
  generalize a.getD (i'.toNat + (n / 32).toNat) 0 = x at *
  generalize a.getD (i'.toNat + (n / 32).toNat + 1) 0 = y at *
  have ev' : v = x := by rw [ev, wu64, Int.emod_eq_of_lt hx.1 (by omega)]
  have ew' : w = x + y * 4294967296 := by
    rcases ew with ⟨h, e⟩ | e
    · rw [e, past h, ev']; omega
    · rw [e, ev']
      have e2 : intBinR .shl .u64 (IntKind.u64.wrap y) 32 = y * 4294967296 := by
        show IntKind.u64.wrap (IntKind.u64.wrap y * 2 ^ min (Int.toNat 32) IntKind.u64.bits) = _
        rw [shl32, wu64 y, Int.emod_eq_of_lt hy.1 (by omega), wu64]
        omega
      rw [e2]
      exact or64 hx.1 hx.2 hy.1 hy.2
  have e3 : intBinR .shr .u64 w r = w / 2 ^ (n % 32).toNat := by
    have e : min r.toNat IntKind.u64.bits = (n % 32).toNat := by
      rw [er]; exact Nat.min_eq_left (by show _ ≤ 64; omega)
    show w.fdiv (2 ^ (min r.toNat IntKind.u64.bits)) = _
    rw [e, pow2_cast]
    exact fdiv_pos w _
  rw [e3, ew', wu32, ej', show (i' + 1).toNat = i'.toNat + 1 by omega]
  exact ⟨by omega, by omega, by omega, st⟩
end Go.Proofs.Ytincnfjihffllaa.Ev

/- The guess of a limb, as the words of the program reckon it. -/
namespace Go.Proofs.Ytincnfjihffllaa.Ev
open Go

/-- the greatest limb that is not too great -/
def guessQ (r2 r1 r0 d1 d0 : Int) : Int := min (((r2 * 4294967296 + r1) * 4294967296 + r0) / (d1 * 4294967296 + d0)) 4294967295

theorem GuessOK.eq {r2 r1 r0 d1 d0 q : Int} (I : GuessIn r2 r1 r0 d1 d0) (h : GuessOK r2 r1 r0 d1 d0 q) : q = guessQ r2 r1 r0 d1 d0 := by
  have hD : 0 < d1 * 4294967296 + d0 := by have := I.d1b; have := I.d0b; omega
  have h1 := h.q1
  have h2 : q ≤ ((r2 * 4294967296 + r1) * 4294967296 + r0) / (d1 * 4294967296 + d0) := (Int.le_ediv_iff_mul_le hD).2 h.le
  have h3 := h.up (guessQ r2 r1 r0 d1 d0) ((Int.le_ediv_iff_mul_le hD).1 (by unfold guessQ; omega)) (by unfold guessQ; omega)
  unfold guessQ at h3 ⊢
  omega

theorem guessQ_ok {r2 r1 r0 d1 d0 : Int} (I : GuessIn r2 r1 r0 d1 d0) : GuessOK r2 r1 r0 d1 d0 (guessQ r2 r1 r0 d1 d0) := by
  have hD : 0 < d1 * 4294967296 + d0 := by have := I.d1b; have := I.d0b; omega
  have h0 : 0 ≤ ((r2 * 4294967296 + r1) * 4294967296 + r0) / (d1 * 4294967296 + d0) := Int.ediv_nonneg (by have := I.r2b; have := I.r1b; have := I.r0b; omega) (by omega)
  refine ⟨by unfold guessQ; omega, by unfold guessQ; omega, (Int.le_ediv_iff_mul_le hD).1 (by unfold guessQ; omega), fun k hk hk' => ?_⟩
  have := (Int.le_ediv_iff_mul_le hD).2 hk
  unfold guessQ; omega

theorem shl_u64 {x : Int} (h0 : 0 ≤ x) (h1 : x < 4294967296) : intBinR .shl .u64 x 32 = x * 4294967296 := by
  show IntKind.u64.wrap (x * 2 ^ min (Int.toNat 32) IntKind.u64.bits) = _
  rw [shl32, wu64]; omega
theorem wu64_id {x : Int} (h0 : 0 ≤ x) (h1 : x < 18446744073709551616) : IntKind.u64.wrap x = x := by rw [wu64]; exact Int.emod_eq_of_lt h0 h1

theorem guess_top {r2 r1 r0 d1 d0 t : Int} (I : GuessIn r2 r1 r0 d1 d0) (et : t = intBinR .or .u64 (intBinR .shl .u64 (IntKind.u64.wrap r2) 32) (IntKind.u64.wrap r1)) : t = r2 * 4294967296 + r1 := by
  have h2 := I.r2b
  have h1 := I.r1b
  rw [et, wu64_id h2.1 (by omega), wu64_id h1.1 (by omega), shl_u64 h2.1 h2.2]
  exact or64' h1.1 h1.2 h2.1 h2.2

theorem guess_start {r2 r1 r0 d1 d0 t q left : Int} (I : GuessIn r2 r1 r0 d1 d0) (et : t = intBinR .or .u64 (intBinR .shl .u64 (IntKind.u64.wrap r2) 32) (IntKind.u64.wrap r1))
    (eq : q = intBinR .quo .u64 t (IntKind.u64.wrap d1)) (el : left = intBinR .rem .u64 t (IntKind.u64.wrap d1)) : GuessInv r2 r1 r0 d1 d0 q left := by
  have h2 := I.r2b
  have h1 := I.r1b
  have hd := I.d1b
  have ht := guess_top I et
  have t0 : 0 ≤ t := by omega
  have eq' : q = (r2 * 4294967296 + r1) / d1 := by
    rw [eq]
    show IntKind.u64.wrap (t.tdiv (IntKind.u64.wrap d1)) = _
    rw [wu64_id (x := d1) (by omega) (by omega), Int.tdiv_eq_ediv_of_nonneg t0, ht, wu64_id]
    · exact Int.ediv_nonneg (by omega) (by omega)
    · exact Int.lt_of_le_of_lt (Int.ediv_le_self _ (by omega)) (by omega)
  have el' : left = (r2 * 4294967296 + r1) % d1 := by
    rw [el]
    show t.tmod (IntKind.u64.wrap d1) = _
    rw [wu64_id (x := d1) (by omega) (by omega), Int.tmod_eq_emod_of_nonneg t0, ht]
  rw [eq', el']
  exact GuessInv.start I

theorem guess_lt {r2 r1 r0 d1 d0 q left : Int} (I : GuessIn r2 r1 r0 d1 d0) (h : GuessInv r2 r1 r0 d1 d0 q left) : q < 18446744073709551616 := by
  have h2 := I.r2b
  have h1 := I.r1b
  have hd := I.d1b
  have e := h.eq
  have l0 := h.l0
  have q0 := h.q0
  have : q * 1 ≤ q * d1 := Int.mul_le_mul_of_nonneg_left (by omega) q0
  omega

theorem guess_cmp {r2 r1 r0 d1 d0 q left : Int} (I : GuessIn r2 r1 r0 d1 d0) (h : GuessInv r2 r1 r0 d1 d0 q left) (hq : ¬ 4294967295 < q) :
    (intBinR .or .u64 (intBinR .shl .u64 left 32) (IntKind.u64.wrap r0) < intBinR .mul .u64 q (IntKind.u64.wrap d0)) ↔ left * 4294967296 + r0 < q * d0 := by
  have h0 := I.r0b
  have hd := I.d0b
  have q0 := h.q0
  have l0 := h.l0
  have l1 := h.l1
  have m := guess_mul q0 (by omega) hd
  rw [shl_u64 l0 l1, wu64_id h0.1 (by omega), wu64_id hd.1 (by omega)]
  have e1 : intBinR .or .u64 (left * 4294967296) r0 = left * 4294967296 + r0 := or64' h0.1 h0.2 l0 l1
  have e2 : intBinR .mul .u64 q d0 = q * d0 := wu64_id m.1 (by omega)
  rw [e1, e2]

theorem guess_done {r2 r1 r0 d1 d0 q left : Int} (I : GuessIn r2 r1 r0 d1 d0) (h : GuessInv r2 r1 r0 d1 d0 q left) (hq : ¬ 4294967295 < q)
    (hc : ¬ intBinR .or .u64 (intBinR .shl .u64 left 32) (IntKind.u64.wrap r0) < intBinR .mul .u64 q (IntKind.u64.wrap d0)) : IntKind.u32.wrap q = guessQ r2 r1 r0 d1 d0 := by
  rw [guess_cmp I h hq] at hc
  have ok := h.done (by omega) (by omega)
  have := ok.q0
  rw [wu32, Int.emod_eq_of_lt (by omega) (by omega)]
  exact ok.eq I

theorem guess_cond {r2 r1 r0 d1 d0 q left : Int} (I : GuessIn r2 r1 r0 d1 d0) (h : GuessInv r2 r1 r0 d1 d0 q left)
    (hc : 4294967295 < q ∨ (¬ 4294967295 < q ∧ intBinR .or .u64 (intBinR .shl .u64 left 32) (IntKind.u64.wrap r0) < intBinR .mul .u64 q (IntKind.u64.wrap d0))) : 4294967295 < q ∨ left * 4294967296 + r0 < q * d0 := by
  rcases hc with hc | ⟨hq, hc⟩
  · exact .inl hc
  · exact .inr ((guess_cmp I h hq).1 hc)

theorem guess_next {r2 r1 r0 d1 d0 q left q' left' : Int} (I : GuessIn r2 r1 r0 d1 d0) (h : GuessInv r2 r1 r0 d1 d0 q left)
    (hc : 4294967295 < q ∨ (¬ 4294967295 < q ∧ intBinR .or .u64 (intBinR .shl .u64 left 32) (IntKind.u64.wrap r0) < intBinR .mul .u64 q (IntKind.u64.wrap d0)))
    (eq : q' = intBinR .sub .u64 q 1) (el : left' = intBinR .add .u64 left (IntKind.u64.wrap d1)) :
    q' = q - 1 ∧ left' = left + d1 ∧ 1 ≤ q := by
  have hc' := guess_cond I h hc
  have p := h.pos I hc'
  have lt := guess_lt I h
  have hd := I.d1b
  have l0 := h.l0
  have l1 := h.l1
  refine ⟨?_, ?_, p⟩
  · rw [eq]; exact wu64_id (by omega) (by omega)
  · rw [el, wu64_id (x := d1) (by omega) (by omega)]; exact wu64_id (by omega) (by omega)
theorem guess_step {r2 r1 r0 d1 d0 q left q' left' : Int} (I : GuessIn r2 r1 r0 d1 d0) (h : GuessInv r2 r1 r0 d1 d0 q left)
    (hc : 4294967295 < q ∨ (¬ 4294967295 < q ∧ intBinR .or .u64 (intBinR .shl .u64 left 32) (IntKind.u64.wrap r0) < intBinR .mul .u64 q (IntKind.u64.wrap d0)))
    (eq : q' = intBinR .sub .u64 q 1) (el : left' = intBinR .add .u64 left (IntKind.u64.wrap d1)) (hl : ¬ 4294967295 < left') : q'.toNat < q.toNat ∧ GuessInv r2 r1 r0 d1 d0 q' left' := by
  obtain ⟨e1, e2, p⟩ := guess_next I h hc eq el
  have hc' := guess_cond I h hc
  subst e1 e2
  exact ⟨by omega, h.step I hc' (by omega)⟩
theorem guess_brk {r2 r1 r0 d1 d0 q left q' left' : Int} (I : GuessIn r2 r1 r0 d1 d0) (h : GuessInv r2 r1 r0 d1 d0 q left)
    (hc : 4294967295 < q ∨ (¬ 4294967295 < q ∧ intBinR .or .u64 (intBinR .shl .u64 left 32) (IntKind.u64.wrap r0) < intBinR .mul .u64 q (IntKind.u64.wrap d0)))
    (eq : q' = intBinR .sub .u64 q 1) (el : left' = intBinR .add .u64 left (IntKind.u64.wrap d1)) (hl : 4294967295 < left') : IntKind.u32.wrap q' = guessQ r2 r1 r0 d1 d0 := by
  obtain ⟨e1, e2, p⟩ := guess_next I h hc eq el
  have hc' := guess_cond I h hc
  subst e1 e2
  have ok := h.brk I hc' (by omega)
  have := ok.q0
  have := ok.q1
  rw [wu32, Int.emod_eq_of_lt (by omega) (by omega)]
  exact ok.eq I
end Go.Proofs.Ytincnfjihffllaa.Ev

/- The steps of a long division, as the words of the program reckon them. -/
namespace Go.Proofs.Ytincnfjihffllaa.Ev
open Go

theorem less_next {r0 d r : List Int} {q at_ i carry borrow : Int} (hd : Lb d) (hq : 0 ≤ q ∧ q < 4294967296) (hlr : r0.length < 134217728) (h1 : 0 ≤ i) (h2 : i < d.length) (ha : 0 ≤ at_) (hat : at_ + d.length < r0.length)
    (inv : LessInv r0 d q at_.toNat r i.toNat carry borrow) {i' y v b' j : Int} {t : Int × Int} (ei : i' = i) (ey : y = d.getD i.toNat 0)
    (ev : v = intBinR .add .u64 (intBinR .mul .u64 (IntKind.u64.wrap y) (IntKind.u64.wrap q)) carry)
    (et : t = ((r.getD (intBinR .add .i64 at_ i').toNat 0 - IntKind.u32.wrap v - borrow) % 4294967296, if r.getD (intBinR .add .i64 at_ i').toNat 0 < IntKind.u32.wrap v + borrow then 1 else 0))
    (eb : b' = t.2) (ej : j = intBinR .add .i64 i 1) {c' : Int} (ec : c' = intBinR .shr .u64 v 32) :
    0 ≤ j ∧ j ≤ d.length ∧ ((d.length : Int) - j).toNat < ((d.length : Int) - i).toNat ∧ LessInv r0 d q at_.toNat (r.set (intBinR .add .i64 at_ i').toNat t.1) j.toNat c' b' := by
  have hy := hd.getD i.toNat
  subst ei
  have st := inv.step hd hq (by omega)
  rw [← ey] at st hy
  have c0 := inv.c0
  have c1 := inv.c1
  have e := less_digit hy hq ⟨c0, c1⟩
  have eai : (intBinR .add .i64 at_ i').toNat = at_.toNat + i'.toNat := by
    show (IntKind.i64.wrap (at_ + i')).toNat = _
    rw [wi64_id (by omega) (by omega)]; omega
  have ej' : j = i' + 1 := by rw [ej]; show IntKind.i64.wrap (i' + 1) = _; rw [wi64_id (by omega) (by omega)]
  have ev' : v = y * q + carry := by
    rw [ev, wu64_id hy.1 (by omega), wu64_id hq.1 (by omega)]
    have : intBinR .mul .u64 y q = y * q := wu64_id e.1 (by omega)
    rw [this]
    exact wu64_id (by omega) (by omega)
  have ec' : c' = v / 4294967296 := by rw [ec]; exact shr32 v
  rw [eai] at et ⊢
  rw [wu32, ev'] at et
  rw [eb, et, ec', ev', ej', show (i' + 1).toNat = i'.toNat + 1 by omega]
  exact ⟨by omega, by omega, by omega, st⟩

/-- what a guess times the divisor taken away leaves -/
structure LessR (r0 d : List Int) (q : Int) (at_ : Nat) (r : List Int) (b : Bool) : Prop where
  len : r.length = r0.length
  lb : Lb r
  same : ∀ j, at_ + d.length + 1 ≤ j → r.getD j 0 = r0.getD j 0
  val : lv r + 4294967296 ^ at_ * (q.toNat * lv d) = lv r0 + (if b then 4294967296 ^ (at_ + d.length + 1) else 0)

theorem less_stop {r0 d r : List Int} {q at_ i carry borrow : Int} (hlr : r0.length < 134217728) (h2 : i ≤ d.length) (h3 : ¬ i < d.length) (ha : 0 ≤ at_) (hat : at_ + d.length < r0.length)
    (inv : LessInv r0 d q at_.toNat r i.toNat carry borrow) {b' : Int} {b : Bool} {t : Int × Int}
    (et : t = ((r.getD (intBinR .add .i64 at_ d.length).toNat 0 - IntKind.u32.wrap carry - borrow) % 4294967296, if r.getD (intBinR .add .i64 at_ d.length).toNat 0 < IntKind.u32.wrap carry + borrow then 1 else 0))
    (eb : b' = t.2) (e : b = cmpR .neq b' 0) : LessR r0 d q at_.toNat (r.set (intBinR .add .i64 at_ d.length).toNat t.1) b := by
  have c0 := inv.c0
  have c1 := inv.c1
  rw [show i.toNat = d.length by omega] at inv
  obtain ⟨k1, k2, k3, k4⟩ := inv.stop (by omega)
  have eai : (intBinR .add .i64 at_ d.length).toNat = at_.toNat + d.length := by
    show (IntKind.i64.wrap (at_ + d.length)).toNat = _
    rw [wi64_id (by omega) (by omega)]; omega
  rw [eai] at et ⊢
  rw [wu32, Int.emod_eq_of_lt c0 c1] at et
  have e1 : t.1 = (r.getD (at_.toNat + d.length) 0 - carry - borrow) % 4294967296 := by rw [et]
  have e2 : b' = if r.getD (at_.toNat + d.length) 0 < carry + borrow then 1 else 0 := by rw [eb, et]
  rw [e1]
  refine ⟨k1, k2, k3, ?_⟩
  rw [k4]
  congr 1
  rw [e, e2]
  split
  · simp [cmpR]
  · simp [cmpR]

theorem more_next {r0 d r : List Int} {at_ i c : Int} (hd : Lb d) (hlr : r0.length < 134217728) (h1 : 0 ≤ i) (h2 : i < d.length) (ha : 0 ≤ at_) (hat : at_ + d.length < r0.length)
    (inv : MoreInv r0 d at_.toNat r i.toNat c) {i' y c' j : Int} {t : Int × Int} (ei : i' = i) (ey : y = d.getD i.toNat 0)
    (et : t = ((r.getD (intBinR .add .i64 at_ i').toNat 0 + y + c) % 4294967296, (r.getD (intBinR .add .i64 at_ i').toNat 0 + y + c) / 4294967296))
    (ec : c' = t.2) (ej : j = intBinR .add .i64 i 1) :
    0 ≤ j ∧ j ≤ d.length ∧ ((d.length : Int) - j).toNat < ((d.length : Int) - i).toNat ∧ MoreInv r0 d at_.toNat (r.set (intBinR .add .i64 at_ i').toNat t.1) j.toNat c' := by
  subst ei
  have st := inv.step hd (by omega)
  rw [← ey] at st
  have eai : (intBinR .add .i64 at_ i').toNat = at_.toNat + i'.toNat := by
    show (IntKind.i64.wrap (at_ + i')).toNat = _
    rw [wi64_id (by omega) (by omega)]; omega
  have ej' : j = i' + 1 := by rw [ej]; show IntKind.i64.wrap (i' + 1) = _; rw [wi64_id (by omega) (by omega)]
  rw [eai] at et ⊢
  rw [ec, et, ej', show (i' + 1).toNat = i'.toNat + 1 by omega]
  exact ⟨by omega, by omega, by omega, st⟩

structure MoreR (r0 d : List Int) (at_ : Nat) (r : List Int) : Prop where
  len : r.length = r0.length
  lb : Lb r
  same : ∀ j, at_ + d.length + 1 ≤ j → r.getD j 0 = r0.getD j 0
  val : ∃ c : Int, 0 ≤ c ∧ c ≤ 1 ∧ lv r + 4294967296 ^ (at_ + d.length + 1) * c.toNat = lv r0 + 4294967296 ^ at_ * lv d

theorem more_stop {r0 d r : List Int} {at_ i c : Int} (hlr : r0.length < 134217728) (h2 : i ≤ d.length) (h3 : ¬ i < d.length) (ha : 0 ≤ at_) (hat : at_ + d.length < r0.length)
    (inv : MoreInv r0 d at_.toNat r i.toNat c) {v : Int} (ev : v = intBinR .add .u32 (r.getD (intBinR .add .i64 at_ d.length).toNat 0) c) : MoreR r0 d at_.toNat (r.set (intBinR .add .i64 at_ d.length).toNat v) := by
  have c0 := inv.c0
  have c1 := inv.c1
  rw [show i.toNat = d.length by omega] at inv
  have hx := inv.lb.getD (at_.toNat + d.length)
  obtain ⟨k1, k2, k3, k4⟩ := inv.stop (by omega)
  have eai : (intBinR .add .i64 at_ d.length).toNat = at_.toNat + d.length := by
    show (IntKind.i64.wrap (at_ + d.length)).toNat = _
    rw [wi64_id (by omega) (by omega)]; omega
  rw [eai] at ev ⊢
  have ev' : v = (r.getD (at_.toNat + d.length) 0 + c) % 4294967296 := by rw [ev]; exact wu32 _
  rw [ev']
  exact ⟨k1, k2, k3, _, by omega, by omega, k4⟩
end Go.Proofs.Ytincnfjihffllaa.Ev

/- A long division's start, rounds and end, as the words of the program reckon them. -/
namespace Go.Proofs.Ytincnfjihffllaa.Ev
open Go

theorem lim_length_ge {n k : Nat} (h : 0 < k) (hk : 4294967296 ^ (k - 1) ≤ n) : k ≤ (lim n).length := by
  have := lim_length_lt hk
  omega

theorem lv_ge_last {a : List Int} (h : Lb a) (hne : a ≠ []) (h0 : a.getD (a.length - 1) 0 ≠ 0) : 4294967296 ^ (a.length - 1) ≤ lv a := by
  have hl : 0 < a.length := List.length_pos_iff.2 hne
  have e := lv_take_succ (a := a) (i := a.length - 1) (by omega)
  rw [show a.length - 1 + 1 = a.length by omega, lv_take_all] at e
  have hg := h.getD (a.length - 1)
  have : 4294967296 ^ (a.length - 1) * 1 ≤ 4294967296 ^ (a.length - 1) * (a.getD (a.length - 1) 0).toNat := Nat.mul_le_mul_left _ (by omega)
  omega

/-- The divisor, moved up as far as its limbs go. -/
theorem norm_len {y : List Int} {by_ : Int} (h : Lb y) (hne : y ≠ []) (h0 : y.getD (y.length - 1) 0 ≠ 0) (e : by_ = 32 - blen (y.getD (y.length - 1) 0)) :
    0 ≤ by_ ∧ by_ < 32 ∧ (lim (lv y * 2 ^ by_.toNat)).length = y.length := by
  have hl : 0 < y.length := List.length_pos_iff.2 hne
  have hg := h.getD (y.length - 1)
  have b1 := blen_le 32 (x := y.getD (y.length - 1) 0) (by omega)
  obtain ⟨n, q1, q2, q3⟩ := blen_pos (x := y.getD (y.length - 1) 0) (by omega)
  have hb : 0 ≤ by_ ∧ by_ < 32 := by omega
  refine ⟨hb.1, hb.2, ?_⟩
  have hL := blen_len h hne h0
  have hN : blen (lv y : Int) = ((32 * (y.length - 1) + n : Nat) : Int) + 1 := by rw [hL, q1]; omega
  obtain ⟨k1, k2⟩ := (blen_nat_iff _).1 hN
  have p : (4294967296 : Nat) ^ y.length = 2 ^ (32 * (y.length - 1) + n + 1) * 2 ^ by_.toNat := by
    rw [← Nat.pow_add, show (4294967296 : Nat) = 2 ^ 32 by rfl, ← Nat.pow_mul]
    congr 1
    omega
  apply Nat.le_antisymm
  · apply lim_length_le
    rw [p]
    exact Nat.mul_lt_mul_of_pos_right k2 (Nat.two_pow_pos _)
  · apply lim_length_ge hl
    have := lv_ge_last h hne h0
    have h2 : lv y * 1 ≤ lv y * 2 ^ by_.toNat := Nat.mul_le_mul_left _ (Nat.two_pow_pos _)
    omega

theorem div_start {x y : List Int} {k : Nat} (hx : Lb x) (hy : Lb y) (hxn : x ≠ []) (hyn : y ≠ []) (hx0 : x.getD (x.length - 1) 0 ≠ 0) (hy0 : y.getD (y.length - 1) 0 ≠ 0) (hle : y.length ≤ x.length) :
    DivInv (lv x * 2 ^ k) (lv y * 2 ^ k) y.length (lim (lv x * 2 ^ k) ++ [0, 0]) (List.replicate (x.length - y.length + 1) 0) (x.length - y.length + 1) := by
  have hyl : 0 < y.length := List.length_pos_iff.2 hyn
  have hxl : 0 < x.length := List.length_pos_iff.2 hxn
  have g1 := lv_ge_last hx hxn hx0
  have g2 := lv_ge_last hy hyn hy0
  have g3 := lv_lt hx
  have e0 : lv (lim (lv x * 2 ^ k) ++ [0, 0]) = lv x * 2 ^ k := by
    rw [lv_append, lv_lim]
    simp [lv]
  refine ⟨?_, (lim_lb _).append (Lb.cons (by omega) (by omega) (Lb.cons (by omega) (by omega) Lb.nil)), Lb.replicate _, fun j _ => getD_replicate0 _ _, ?_, ?_⟩
  · have : x.length ≤ (lim (lv x * 2 ^ k)).length := by
      apply lim_length_ge hxl
      have : lv x * 1 ≤ lv x * 2 ^ k := Nat.mul_le_mul_left _ (Nat.two_pow_pos _)
      omega
    simp only [List.length_replicate, List.length_append, List.length_cons, List.length_nil]
    omega
  · rw [lv_replicate, e0]; omega
  · rw [e0]
    have e1 : lv y * 2 ^ k * 4294967296 ^ (x.length - y.length + 1) = 2 ^ k * (lv y * 4294967296 ^ (x.length - y.length + 1)) := by grind
    have e2 : 4294967296 ^ (y.length - 1) * 4294967296 ^ (x.length - y.length + 1) = 4294967296 ^ x.length := by
      rw [← Nat.pow_add]; congr 1; omega
    have e3 : 4294967296 ^ (y.length - 1) * 4294967296 ^ (x.length - y.length + 1) ≤ lv y * 4294967296 ^ (x.length - y.length + 1) := Nat.mul_le_mul_right _ g2
    rw [e1, Nat.mul_comm (lv x)]
    exact Nat.mul_lt_mul_of_pos_left (by omega) (Nat.two_pow_pos _)

section
variable {A : Nat} {d R Q : List Int} {at_ top i i' : Int}
/-- where a round works -/
theorem div_at (hl : Q.length < 134217728) (h1 : 0 ≤ i) (h2 : i < Q.length) (ei : i' = i) (ea : at_ = intBinR .sub .i64 (intBinR .sub .i64 Q.length 1) i') : at_ = Q.length - 1 - i := by
  subst ei
  rw [ea]
  show IntKind.i64.wrap (IntKind.i64.wrap ((Q.length : Int) - 1) - i') = _
  rw [wi64_id (n := (Q.length : Int) - 1) (by omega) (by omega), wi64_id (by omega) (by omega)]

theorem div_guess (hi : DivInv A (lv d) d.length R Q (at_.toNat + 1)) (hd : Lb d) (hn : 2 ≤ d.length) (h0 : d.getD (d.length - 1) 0 ≠ 0) (hl : R.length < 134217728) (ha : 0 ≤ at_) (hat : at_ < Q.length)
    (et : top = intBinR .add .i64 at_ d.length) :
    GuessIn (R.getD top.toNat 0) (R.getD (intBinR .sub .i64 top 1).toNat 0) (R.getD (intBinR .sub .i64 top 2).toNat 0) (d.getD (intBinR .sub .i64 d.length 1).toNat 0) (d.getD (intBinR .sub .i64 d.length 2).toNat 0) ∧
    (guessQ (R.getD top.toNat 0) (R.getD (intBinR .sub .i64 top 1).toNat 0) (R.getD (intBinR .sub .i64 top 2).toNat 0) (d.getD (intBinR .sub .i64 d.length 1).toNat 0) (d.getD (intBinR .sub .i64 d.length 2).toNat 0)
      = guessQ (R.getD (at_.toNat + d.length) 0) (R.getD (at_.toNat + d.length - 1) 0) (R.getD (at_.toNat + d.length - 2) 0) (d.getD (d.length - 1) 0) (d.getD (d.length - 2) 0)) := by
  have hr := hi.lenr
  have et' : top = at_ + d.length := by rw [et]; exact wi64_id (by omega) (by omega)
  have e1 : (intBinR .sub .i64 top 1).toNat = at_.toNat + d.length - 1 := by
    have : intBinR .sub .i64 top 1 = top - 1 := wi64_id (by omega) (by omega)
    omega
  have e2 : (intBinR .sub .i64 top 2).toNat = at_.toNat + d.length - 2 := by
    have : intBinR .sub .i64 top 2 = top - 2 := wi64_id (by omega) (by omega)
    omega
  have e3 : (intBinR .sub .i64 d.length 1).toNat = d.length - 1 := by
    have : intBinR .sub .i64 (d.length : Int) 1 = d.length - 1 := wi64_id (by omega) (by omega)
    omega
  have e4 : (intBinR .sub .i64 d.length 2).toNat = d.length - 2 := by
    have : intBinR .sub .i64 (d.length : Int) 2 = d.length - 2 := wi64_id (by omega) (by omega)
    omega
  rw [e1, e2, e3, e4, show top.toNat = at_.toNat + d.length by omega]
  exact ⟨hi.in_ hd hn rfl (by omega) h0, rfl⟩

theorem div_same {g : Int} {r : List Int} (hi : DivInv A (lv d) d.length R Q (at_.toNat + 1)) (hd : Lb d) (hn : 2 ≤ d.length) (h0 : d.getD (d.length - 1) 0 ≠ 0) (ha : 0 ≤ at_) (hat : at_ < Q.length)
    (eg : g = guessQ (R.getD (at_.toNat + d.length) 0) (R.getD (at_.toNat + d.length - 1) 0) (R.getD (at_.toNat + d.length - 2) 0) (d.getD (d.length - 1) 0) (d.getD (d.length - 2) 0))
    (hr : LessR R d g at_.toNat r false) : DivInv A (lv d) d.length r (Q.set at_.toNat g) at_.toNat := by
  have ok := guessQ_ok (hi.in_ hd hn rfl (by omega) h0)
  rw [← eg] at ok
  have nr := hi.near hd hn rfl (by omega) h0 ok
  have g2 := lv_ge_last hd (by intro e; rw [e] at hn; simp at hn) h0
  have hD : 0 < lv d := Nat.lt_of_lt_of_le (Nat.pow_pos (by omega)) g2
  have v := hr.val
  have q0 := ok.q0
  have q1 := ok.q1
  exact hi.same (by omega) hD hr.len hr.lb ⟨q0, by omega⟩ nr.1 (by simpa using v)

theorem div_less {g g' : Int} {r1 r : List Int} (hi : DivInv A (lv d) d.length R Q (at_.toNat + 1)) (hd : Lb d) (hn : 2 ≤ d.length) (h0 : d.getD (d.length - 1) 0 ≠ 0) (ha : 0 ≤ at_) (hat : at_ < Q.length)
    (eg : g = guessQ (R.getD (at_.toNat + d.length) 0) (R.getD (at_.toNat + d.length - 1) 0) (R.getD (at_.toNat + d.length - 2) 0) (d.getD (d.length - 1) 0) (d.getD (d.length - 2) 0))
    (hr1 : LessR R d g at_.toNat r1 true) (hr : MoreR r1 d at_.toNat r) (eg' : g' = intBinR .sub .u32 g 1) : DivInv A (lv d) d.length r (Q.set at_.toNat g') at_.toNat := by
  have ok := guessQ_ok (hi.in_ hd hn rfl (by omega) h0)
  rw [← eg] at ok
  have nr := hi.near hd hn rfl (by omega) h0 ok
  have g2 := lv_ge_last hd (by intro e; rw [e] at hn; simp at hn) h0
  have hD : 0 < lv d := Nat.lt_of_lt_of_le (Nat.pow_pos (by omega)) g2
  have v1 := hr1.val
  obtain ⟨c, c0, c1, v⟩ := hr.val
  have q0 := ok.q0
  have q1 := ok.q1
  obtain ⟨p1, p2⟩ := hi.less (by omega) hD (lv_lt hd) (hr.len.trans hr1.len) hr1.lb hr.lb ⟨q0, by omega⟩ nr.2 (fun j hj => (hr.same j hj).trans (hr1.same j hj)) hr1.same ⟨c0, c1⟩ (by simpa using v1) v
  have e : g' = g - 1 := by rw [eg']; show IntKind.u32.wrap (g - 1) = _; rw [wu32]; omega
  rw [e]; exact p2
end

theorem lv_take_of_lt {R : List Int} {n : Nat} (h : n ≤ R.length) (hlt : lv R < 4294967296 ^ n) : lv (R.take n) = lv R := by
  have e := lv_take_drop R n h
  rcases Nat.eq_zero_or_pos (lv (R.drop n)) with h0 | h0
  · rw [h0] at e; omega
  · have : 4294967296 ^ n * 1 ≤ 4294967296 ^ n * lv (R.drop n) := Nat.mul_le_mul_left _ h0
    omega

theorem div_stop {x y R Q : List Int} {k m : Nat} (hy : Lb y) (hyn : y ≠ []) (hy0 : 0 < lv y) (hm : y.length + 1 ≤ m) (hmR : m ≤ R.length) (hlen : (lim (lv y * 2 ^ k)).length = y.length)
    (hi : DivInv (lv x * 2 ^ k) (lv y * 2 ^ k) y.length R Q 0) : lv Q = lv x / lv y ∧ lv (R.take m) / 2 ^ k = lv x % lv y := by
  obtain ⟨s1, s2⟩ := hi.stop
  have p : 0 < 2 ^ k := Nat.two_pow_pos k
  have hlt : lv R < 4294967296 ^ m := by
    have h1 : lv y * 2 ^ k < 4294967296 ^ y.length := by
      have := lv_lt (lim_lb (lv y * 2 ^ k))
      rwa [lv_lim, hlen] at this
    have h2 : (4294967296 : Nat) ^ y.length ≤ 4294967296 ^ m := Nat.pow_le_pow_right (by omega) (by omega)
    have h3 : lv R < lv y * 2 ^ k := by rw [s2]; exact Nat.mod_lt _ (Nat.mul_pos hy0 p)
    omega
  rw [lv_take_of_lt hmR hlt, s1, s2, Nat.mul_div_mul_right _ _ p, Nat.mul_mod_mul_right, Nat.mul_div_cancel _ p]
  exact ⟨rfl, rfl⟩
end Go.Proofs.Ytincnfjihffllaa.Ev

/- The greatest number whose square is not greater, by Newton's steps: sizes. -/
namespace Go.Proofs.Ytincnfjihffllaa.Ev
open Go

structure RootOK (a s0 s : Nat) : Prop where
  pos : 0 < s
  up : a < (s + 1) * (s + 1)
  le : s ≤ s0

theorem root_first {x : List Int} (hx : Lb x) (hl : x.length < 524288) (hpos : 0 < lv x) : 1 ≤ (blen (lv x) + 1) / 2 ∧ (blen (lv x) + 1) / 2 ≤ 16777216 ∧ RootOK (lv x) (2 ^ ((blen (lv x) + 1) / 2).toNat) (2 ^ ((blen (lv x) + 1) / 2).toNat) := by
  obtain ⟨n, q1, q2, q3⟩ := blen_pos (x := (lv x : Int)) (by omega)
  have e1 : ((2 ^ n : Nat) : Int) = (2 : Int) ^ n := by push_cast; rfl
  have e2 : ((2 ^ (n + 1) : Nat) : Int) = (2 : Int) ^ (n + 1) := by push_cast; rfl
  rw [← e1] at q2
  rw [← e2] at q3
  have h2 : 2 ^ n ≤ lv x := by omega
  have h3 : lv x < 2 ^ (n + 1) := by omega
  have hn : n < 32 * x.length := by
    rcases Nat.lt_or_ge n (32 * x.length) with h | h
    · exact h
    · exfalso
      have b1 := lv_lt hx
      have b2 : (4294967296 : Nat) ^ x.length = 2 ^ (32 * x.length) := by rw [show (4294967296 : Nat) = 2 ^ 32 by rfl, ← Nat.pow_mul]
      have b3 : 2 ^ (32 * x.length) ≤ 2 ^ n := Nat.pow_le_pow_right (by omega) h
      omega
  rw [q1]
  refine ⟨by omega, by omega, Nat.two_pow_pos _, ?_, Nat.le_refl _⟩
  have e : ((n : Int) + 1 + 1) / 2 = ((n / 2 + 1 : Nat) : Int) := by omega
  rw [e, Int.toNat_natCast]
  have h4 : 2 ^ (n + 1) ≤ 2 ^ (n / 2 + 1) * 2 ^ (n / 2 + 1) := by
    rw [← Nat.pow_add]
    exact Nat.pow_le_pow_right (by omega) (by omega)
  have h5 : 2 ^ (n / 2 + 1) * 2 ^ (n / 2 + 1) ≤ (2 ^ (n / 2 + 1) + 1) * (2 ^ (n / 2 + 1) + 1) := Nat.mul_le_mul (by omega) (by omega)
  omega

theorem lim_len_two {s n M : Nat} (h1 : s ≤ 2 ^ n) (hn : n ≤ 32 * M) : (lim s).length ≤ M + 1 := by
  apply lim_length_le
  have h2 : 2 ^ n ≤ 2 ^ (32 * M) := Nat.pow_le_pow_right (by omega) hn
  have h3 : (2 : Nat) ^ (32 * M) < 2 ^ (32 * (M + 1)) := Nat.pow_lt_pow_right (by omega) (by omega)
  have h4 : (4294967296 : Nat) ^ (M + 1) = 2 ^ (32 * (M + 1)) := by rw [Nat.pow_mul]
  rw [h4]
  omega
theorem RootOK.len {a s0 s : Nat} {n : Nat} (h : RootOK a s0 s) (e : s0 = 2 ^ n) (hn : n ≤ 16777216) : (lim s).length ≤ 524289 :=
  lim_len_two (by rw [← e]; exact h.le) (by omega)

theorem lim_add_len {m n k : Nat} (hm : (lim m).length ≤ k) (hn : (lim n).length ≤ k) : (lim (m + n)).length ≤ k + 1 := by
  have h1 := lv_lt (lim_lb m)
  have h2 := lv_lt (lim_lb n)
  rw [lv_lim] at h1 h2
  have h3 : (4294967296 : Nat) ^ (lim m).length ≤ 4294967296 ^ k := Nat.pow_le_pow_right (by omega) hm
  have h4 : (4294967296 : Nat) ^ (lim n).length ≤ 4294967296 ^ k := Nat.pow_le_pow_right (by omega) hn
  apply lim_length_le
  rw [Nat.pow_succ]
  omega
theorem lim_mono {m n : Nat} (h : m ≤ n) : (lim m).length ≤ (lim n).length := by
  have h1 := lv_lt (lim_lb n)
  rw [lv_lim] at h1
  exact lim_length_le (by omega)
theorem lim_mul_len {m n : Nat} : (lim (m * n)).length ≤ (lim m).length + (lim n).length := by
  have h1 := lv_lt (lim_lb m)
  have h2 := lv_lt (lim_lb n)
  rw [lv_lim] at h1 h2
  apply lim_length_le
  rw [Nat.pow_add]
  exact Nat.mul_lt_mul'' h1 h2

theorem RootOK.next {a s0 s : Nat} (ha : 0 < a) (h : RootOK a s0 s) (hlt : (s + a / s) / 2 < s) : RootOK a s0 ((s + a / s) / 2) :=
  ⟨newton_pos ha h.pos, newton_step h.pos, by have := h.le; omega⟩
theorem RootOK.stop {a s0 s : Nat} (h : RootOK a s0 s) (hlt : ¬ (s + a / s) / 2 < s) : nsqrt a = s :=
  nsqrt_eq (newton_stop h.pos (by omega)) h.up
end Go.Proofs.Ytincnfjihffllaa.Ev

/- Contracts: words of 32 bits. Printed by gen.py out of C22.spec. -/
namespace Go.Proofs.Ytincnfjihffllaa.Ev
open Go Go.Proofs
set_option linter.unusedVariables false
set_option linter.unusedSimpArgs false

theorem c_Add32 (x : Int) (y : Int) (c : Int) (hx : 0 ≤ x) (hx' : x < 4294967296) (hy : 0 ≤ y) (hy' : y < 4294967296) (c0 : 0 ≤ c) (c1 : c ≤ 1) : ∃ t : Int × Int, t = ((x + y + c) % 4294967296, (x + y + c) / 4294967296) ∧ CallsA Try.prog 178 [.int .u32 (.s x), .int .u32 (.s y), .int .u32 (.s c)] (.tup [.int .u32 (.s t.1), .int .u32 (.s t.2)]) := by
  refine ⟨_, rfl, ?_⟩
  generalize hr : ((x + y + c) % 4294967296, (x + y + c) / 4294967296) = r
  refine callsA_of hG hm Try.func178 (by kernel_rfl) ?_
  intro E hE lp hl
  cbv
  repeat' (first
    | (refine E_br hE (fun h => ?_) (fun h => ?_) <;> cbv)
    | (refine E_nm hE (fun v hv => ?_); cbv)
    | fail)
  all_goals (subst hE; subst hr)
  all_goals (try simp only [realE, cmp_eql, cmp_neq, cmp_lss, cmp_leq, cmp_gtr, cmp_geq, intBinR, decide_eq_true_eq, decide_eq_false_iff_not, SI.val, SB.val, Num.eta, Iv.eta] at *)
  all_goals (simp only [shr32, wu64, wu32] at *)
  all_goals (refine ⟨?_, ?_, trivial⟩ <;> omega)

theorem c_Sub32 (x : Int) (y : Int) (c : Int) (hx : 0 ≤ x) (hx' : x < 4294967296) (hy : 0 ≤ y) (hy' : y < 4294967296) (c0 : 0 ≤ c) (c1 : c ≤ 1) : ∃ t : Int × Int, t = ((x - y - c) % 4294967296, (if x < y + c then 1 else 0 : Int)) ∧ CallsA Try.prog 181 [.int .u32 (.s x), .int .u32 (.s y), .int .u32 (.s c)] (.tup [.int .u32 (.s t.1), .int .u32 (.s t.2)]) := by
  refine ⟨_, rfl, ?_⟩
  generalize hr : ((x - y - c) % 4294967296, (if x < y + c then 1 else 0 : Int)) = r
  refine callsA_of hG hm Try.func181 (by kernel_rfl) ?_
  intro E hE lp hl
  cbv
  repeat' (first
    | (refine E_br hE (fun h => ?_) (fun h => ?_) <;> cbv)
    | (refine E_nm hE (fun v hv => ?_); cbv)
    | fail)
  all_goals (subst hE; subst hr)
  all_goals (try simp only [realE, cmp_eql, cmp_neq, cmp_lss, cmp_leq, cmp_gtr, cmp_geq, intBinR, decide_eq_true_eq, decide_eq_false_iff_not, SI.val, SB.val, Num.eta, Iv.eta] at *)
  rename_i d hd
  rw [shr31] at hv
  have e : d = (x - y - c) % 4294967296 := by rw [hd, wu32, wu32]; omega
  refine ⟨e, ?_, trivial⟩
  rw [hv]
  exact borrow32 hx hx' hy hy' (by omega) (by omega) (b := c) (by omega) e

theorem c_Div32 (hi : Int) (lo : Int) (y : Int) (hhi : 0 ≤ hi) (hhi' : hi < 4294967296) (hlo : 0 ≤ lo) (hlo' : lo < 4294967296) (hy : 0 ≤ y) (hy' : y < 4294967296) (hlt : hi < y) : ∃ t : Int × Int, t = ((hi * 4294967296 + lo) / y, (hi * 4294967296 + lo) % y) ∧ CallsA Try.prog 180 [.int .u32 (.s hi), .int .u32 (.s lo), .int .u32 (.s y)] (.tup [.int .u32 (.s t.1), .int .u32 (.s t.2)]) := by
  refine ⟨_, rfl, ?_⟩
  generalize hr : ((hi * 4294967296 + lo) / y, (hi * 4294967296 + lo) % y) = r
  refine callsA_of hG hm Try.func180 (by kernel_rfl) ?_
  intro E hE lp hl
  cbv
  repeat' (first
    | (refine E_br hE (fun h => ?_) (fun h => ?_) <;> cbv)
    | (refine E_nm hE (fun v hv => ?_); cbv)
    | fail)
  all_goals (subst hE; subst hr)
  all_goals (try simp only [realE, cmp_eql, cmp_neq, cmp_lss, cmp_leq, cmp_gtr, cmp_geq, intBinR, decide_eq_true_eq, decide_eq_false_iff_not, SI.val, SB.val, Num.eta, Iv.eta] at *)
  all_goals (try (exfalso; rw [wu64] at *; omega))
  all_goals (try (exfalso; omega))
  rename_i v1 v2 e1 e2 _ _ _
  rw [div32_word hhi hhi' hlo hlo'] at e1
  subst e1
  obtain ⟨q1, q2⟩ := div32_parts hhi hlo hlo' hlt hy'
  exact ⟨e2.trans q1, hv.trans q2, trivial⟩

theorem c_Len32 (x : Int) (hx : 0 ≤ x) (hx' : x < 4294967296) : ∃ t : Int, t = blen x ∧ CallsA Try.prog 152 [.int .u32 (.s x)] (.int .i64 (.s t)) := by
  refine ⟨_, rfl, ?_⟩
  generalize hr : blen x = r
  refine callsA_of hG hm Try.func152 (by kernel_rfl) ?_
  intro E hE lp hl
  cbv
  repeat' (first
    | (refine E_br hE (fun h => ?_) (fun h => ?_) <;> cbv)
    | (refine E_nm hE (fun v hv => ?_); cbv)
    | fail)
  all_goals (try (generalize hL : (⟨⟨[0, 1, 2, 2, 3, 3, 3, 3, 4, 4, 4, 4, 4, 4, 4, 4, 5, 5, 5, 5, 5, 5, 5, 5, 5, 5, 5, 5, 5, 5, 5, 5, 6, 6, 6, 6, 6, 6, 6, 6, 6, 6, 6, 6, 6, 6, 6, 6, 6, 6, 6, 6, 6, 6, 6, 6, 6, 6, 6, 6, 6, 6, 6, 6, 7, 7, 7, 7, 7, 7, 7, 7, 7, 7, 7, 7, 7, 7, 7, 7, 7, 7, 7, 7, 7, 7, 7, 7, 7, 7, 7, 7, 7, 7, 7, 7, 7, 7, 7, 7, 7, 7, 7, 7, 7, 7, 7, 7, 7, 7, 7, 7, 7, 7, 7, 7, 7, 7, 7, 7, 7, 7, 7, 7, 7, 7, 7, 7, 8, 8, 8, 8, 8, 8, 8, 8, 8, 8, 8, 8, 8, 8, 8, 8, 8, 8, 8, 8, 8, 8, 8, 8, 8, 8, 8, 8, 8, 8, 8, 8, 8, 8, 8, 8, 8, 8, 8, 8, 8, 8, 8, 8, 8, 8, 8, 8, 8, 8, 8, 8, 8, 8, 8, 8, 8, 8, 8, 8, 8, 8, 8, 8, 8, 8, 8, 8, 8, 8, 8, 8, 8, 8, 8, 8, 8, 8, 8, 8, 8, 8, 8, 8, 8, 8, 8, 8, 8, 8, 8, 8, 8, 8, 8, 8, 8, 8, 8, 8, 8, 8, 8, 8, 8, 8, 8, 8, 8, 8, 8, 8, 8, 8, 8, 8, 8, 8, 8, 8, 8, 8, 8, 8, 8, 8, 8, 8]⟩⟩ : ByteArray) = L at *; replace hL := len8_str hL; obtain ⟨hL1, hL2⟩ := hL))
  all_goals (subst hE; subst hr)
  all_goals (try simp only [realE, cmp_eql, cmp_neq, cmp_lss, cmp_leq, cmp_gtr, cmp_geq, intBinR, decide_eq_true_eq, decide_eq_false_iff_not, SI.val, SB.val, Num.eta, Iv.eta] at *)
  all_goals (simp only [shr8', shr16', wu8, wi64] at *)
  all_goals (try omega)
  all_goals (try rw [hL2 _ (by omega) (by omega)] at hv)
  all_goals (have b1 := blen_nonneg x; have b2 := blen_le 32 (x := x) (by omega))
  all_goals (try have s2 := len16 ‹(65536 : Int) ≤ _› ‹_ = _ / (65536 : Int)›)
  all_goals (try have s3 := len8 ‹(256 : Int) ≤ _› ‹_ = _ / (256 : Int)›)
  all_goals omega

theorem c_LZ32 (x : Int) (hx : 0 ≤ x) (hx' : x < 4294967296) : ∃ t : Int, t = 32 - blen x ∧ CallsA Try.prog 154 [.int .u32 (.s x)] (.int .i64 (.s t)) := by
  refine ⟨_, rfl, ?_⟩
  generalize hr : 32 - blen x = r
  refine callsA_of hG hm Try.func154 (by kernel_rfl) ?_
  intro E hE lp hl
  cbv
  repeat' (first
    | (refine E_br hE (fun h => ?_) (fun h => ?_) <;> cbv)
    | (refine E_nm hE (fun v hv => ?_); cbv)
    | (apply E_callX hE (c_Len32 _ ?_ ?_); (case hf => rfl); (case hc => (cbv <;> trivial)); (case hle => (repeat' (first | exact u_nil | apply u_cons | apply u2_agg | exact u2_int | exact u1_int | exact u2_bool | exact u1_bool | exact u2_sli | exact u1_sli | exact u2_s0 | exact u1_s0))); all_goals (first | (intro t ht; cbv) | (subst hE; (try simp only [realE, cmp_eql, cmp_neq, cmp_lss, cmp_leq, cmp_gtr, cmp_geq, intBinR, decide_eq_true_eq, decide_eq_false_iff_not, SI.val, SB.val, Num.eta, Iv.eta] at *); first | assumption | omega)))
    | (apply E_pcallX hE (c_Len32 _ ?_ ?_); (case hm => rfl); (case hle => (repeat' (first | exact u_nil | apply u_cons | apply u2_agg | exact u2_int | exact u1_int | exact u2_bool | exact u1_bool | exact u2_sli | exact u1_sli | exact u2_s0 | exact u1_s0))); all_goals (first | (intro t ht; cbv) | (subst hE; (try simp only [realE, cmp_eql, cmp_neq, cmp_lss, cmp_leq, cmp_gtr, cmp_geq, intBinR, decide_eq_true_eq, decide_eq_false_iff_not, SI.val, SB.val, Num.eta, Iv.eta] at *); first | assumption | omega)))
    | fail)
  all_goals (subst hE; subst hr)
  all_goals (try simp only [realE, cmp_eql, cmp_neq, cmp_lss, cmp_leq, cmp_gtr, cmp_geq, intBinR, decide_eq_true_eq, decide_eq_false_iff_not, SI.val, SB.val, Num.eta, Iv.eta] at *)
  all_goals (try simp only [wi64] at *)
  all_goals (have b1 := blen_nonneg x; have b2 := blen_le 32 (x := x) (by omega); omega)

end Go.Proofs.Ytincnfjihffllaa.Ev

/- Calls that write the caller's memory, or hand back memory that they have made: contracts of them. -/
namespace Go.Proofs.Ytincnfjihffllaa.Ev
open Go Go.RowKit
set_option linter.unusedVariables false
set_option linter.unusedSimpArgs false
variable {P : Program} {G : Nat → TI}

/-- A result and the memory behind the call, told under other names; the first n0 blocks keep theirs. -/
def ResLe (n0 : Nat) (ρ : List Nat) (v : AV) (h : List Blk) (r : AV) (h' : List Blk) : Prop :=
  blksM ρ h ρ h' ∧ apartN ρ h' [] = true ∧ idPre ρ n0 = true ∧ n0 ≤ lenB h' ∧ blksIn (lenB h') h' ∧ AVle v (rn3 ρ r) ∧ in3 (lenB h') r = true

theorem callsH_named {f : FuncId} {args : List AV} {h : List Blk} {K K' : AV → List Blk → Prop} (hC : CallsH P f args h K')
    (hK : ∀ v h1, K' v h1 → ∃ ρ r h2, ResLe (lenB h) ρ v h1 r h2 ∧ K r h2) : CallsH P f args h K := by
  intro base O0 μ w vals H hl ha
  refine (hC base O0 μ w vals H hl ha).mono ?_
  rintro e w' ⟨val, v, h1, μ1, rfl, hk, hv, H1, X1, hB⟩
  obtain ⟨ρ, r, h2, ⟨q1, q2, q3, q4, q5, q6, q7⟩, hr⟩ := hK v h1 hk
  have hlen := blksM_len q1
  have N : Named ρ h1 h2 := by
    refine ⟨hlen, fun b x hb hx => ?_, (apartN_at q2 hlen).2, q5⟩
    have := blksM_at q1 hb hx
    exact getBlk_some this (rnB_dead hx)
  refine ⟨val, r, h2, fun b => μ1 (nth0 ρ b), rfl, hr, rel_named N (q6 _ _ hv) q7, H1.named N, ?_, hB⟩
  rw [lenB_eq] at q3
  rw [lenB_eq, lenB_eq] at q4
  refine ⟨fun n hn => N.ok (X1.o n hn), fun b hb => ?_, by simp only [mkX]; omega, fun b hb n hn => ?_, X1.cell, X1.shape⟩
  · have := idPre_at q3 b (by simpa only [mkX] using hb)
    show μ1 (nth0 ρ b) = _
    rw [this]
    exact X1.mu b hb
  · have := idPre_at q3 b (by simpa only [mkX] using hb)
    have hd := N.dim hn
    rw [this] at hd
    exact X1.dim b hb n hd

theorem callsH_mono {f : FuncId} {args : List AV} {h : List Blk} {K K' : AV → List Blk → Prop} (hC : CallsH P f args h K') (hK : ∀ v h1, K' v h1 → K v h1) : CallsH P f args h K := by
  intro base O0 μ w vals H hl ha
  refine (hC base O0 μ w vals H hl ha).mono ?_
  rintro e w' ⟨val, v, h1, μ1, rfl, hk, hr⟩
  exact ⟨val, v, h1, μ1, rfl, hK v h1 hk, hr⟩

/-- A contract of a call over memory, out of a run. -/
theorem callsH_of (hG : GOK P G) (hm : P.follows .mixedOrders = true) {f : FuncId} {fn : Func} (hf : P.funcs[f]? = some fn) {args : List AV} (ho : fnOK fn args.length = true)
    {h : List Blk} {K : AV → List Blk → Prop} (hv : ∀ E, E = realE P → ∀ lp, Loops P fn.ntmps lp → evF E G lp fn args h K) : CallsH P f args h K :=
  E_in rfl hG hm hf ho (fz := none) (fun lp hl => hv _ rfl lp hl)

theorem E_callH {E : Env} (hE : E = realE P) {f : FuncId} {args : List AV} {h : List Blk} {K K' : AV → List Blk → Prop} {fz : Option (List AV × List Blk)} (hC : CallsH P f args h K') (hK : ∀ v h1, K' v h1 → K v h1) : E.call f args h fz K := by
  subst hE; exact callsH_mono hC hK
end Go.Proofs.Ytincnfjihffllaa.Ev

/- Contracts: limbs cut of their noughts, their copies, which of two is less. Printed by gen.py. -/
namespace Go.Proofs.Ytincnfjihffllaa.Ev
open Go Go.Proofs
set_option linter.unusedVariables false
set_option linter.unusedSimpArgs false

attribute [local irreducible] Lb
theorem E_nilS {E : Env} (hE : E = realE Try.prog) {n : Int} {K : Bool → Prop} (h : ∀ b, (b = true → n = 0) → K b) : E.nilS n K := by
  subst hE; exact h
theorem lss_t {a b : Int} (h : (realE Try.prog).cmp .lss a b = true) : a < b := of_decide_eq_true h
theorem lss_f {a b : Int} (h : (realE Try.prog).cmp .lss a b = false) : ¬ a < b := of_decide_eq_false h
theorem gtr_t {a b : Int} (h : (realE Try.prog).cmp .gtr a b = true) : b < a := of_decide_eq_true h
theorem gtr_f {a b : Int} (h : (realE Try.prog).cmp .gtr a b = false) : ¬ b < a := of_decide_eq_false h
theorem leq_t {a b : Int} (h : (realE Try.prog).cmp .leq a b = true) : a ≤ b := of_decide_eq_true h
theorem leq_f {a b : Int} (h : (realE Try.prog).cmp .leq a b = false) : ¬ a ≤ b := of_decide_eq_false h
theorem geq_t {a b : Int} (h : (realE Try.prog).cmp .geq a b = true) : b ≤ a := of_decide_eq_true h
theorem geq_f {a b : Int} (h : (realE Try.prog).cmp .geq a b = false) : ¬ b ≤ a := of_decide_eq_false h
theorem eql_t {a b : Int} (h : (realE Try.prog).cmp .eql a b = true) : a = b := by simpa only [realE, cmp_eql, decide_eq_true_eq] using h
theorem eql_f {a b : Int} (h : (realE Try.prog).cmp .eql a b = false) : ¬ a = b := by simpa only [realE, cmp_eql, decide_eq_false_iff_not] using h
theorem wi64_pred {n : Int} (h0 : 0 < n) (h1 : n < 9223372036854775808) : IntKind.i64.wrap (n - 1) = n - 1 := by rw [wi64]; omega

theorem c_cut (a : List Int) (ha : Lb a) (hb : a.length < 9223372036854775808) : ∃ t : List Int, t = lim (lv a) ∧ CallsA Try.prog 137 [.sli .u32 a] (.sli .u32 t) := by
  refine ⟨_, rfl, ?_⟩
  generalize hr : lim (lv a) = r
  refine callsA_of hG hm Try.func137 (by kernel_rfl) ?_
  intro E hE lp hl
  cbv
  refine E_loop hE hG hm hl (fun (p : List Int) => (⟨[(0, .sli .u32 p), (2, .s0)], []⟩ : St)) (fun p => p.length) (fun p => ∃ k : Nat, k ≤ a.length ∧ p = a.take k ∧ lv (a.take k) = lv a) ⟨a, ⟨a.length, Nat.le_refl _, by simp, by simp⟩, stLe rfl ?_⟩ ?_
  · (repeat' (first | exact t_nil | apply t_cons | exact u2_sli | exact u2_int | exact u2_bool | exact u2_ms | exact u2_ptr | exact (rfl : sle2 .s0 .s0)))
  rintro p ⟨k, hk, hp, hv⟩
  have hpl : p.length = k := by rw [hp]; simp; omega
  cbv
  repeat' (first
    | (refine E_br hE (fun h => ?_) (fun h => ?_) <;> cbv)
    | (refine E_nm hE (fun v hv => ?_); cbv)
    | (refine E_nilS hE (fun b hb => ?_); cbv)
    | fail)
  case refine_2.refine_1.refine_1.refine_1.refine_1.refine_1.refine_1 =>
    refine ⟨E.sub p 0 (E.bin .sub .i64 (E.len p) 1), ?_, ⟨k - 1, ?_, ?_, ?_⟩, stLe rfl ?_⟩
    rotate_right
    · (repeat' (first | exact t_nil | apply t_cons | exact u2_sli | exact u2_int | exact u2_bool | exact u2_ms | exact u2_ptr | exact (rfl : sle2 .s0 .s0)))
    all_goals (subst hE; simp only [NatCast.natCast, Int.ofNat_eq_natCast, realE, cmp_eql, cmp_neq, cmp_lss, cmp_leq, cmp_gtr, cmp_geq, intBinR, decide_eq_true_eq, decide_eq_false_iff_not, SI.val, SB.val, Num.eta, Iv.eta] at *)
    all_goals (rw [hpl] at *; rw [wi64_pred (by omega) (by omega)] at *)
    all_goals (have e0 : ((k : Int) - 1).toNat = k - 1 := by omega)
    · simp; omega
    · omega
    · rw [e0, hp]; simp [List.take_take]
    · rw [lv_cut_step (by omega) hk ?_, hv]
      rw [← getD_take (k := k) (by omega), ← hp, ← e0]; assumption
  all_goals (subst hE; simp only [NatCast.natCast, Int.ofNat_eq_natCast, realE, cmp_eql, cmp_neq, cmp_lss, cmp_leq, cmp_gtr, cmp_geq, intBinR, decide_eq_true_eq, decide_eq_false_iff_not, SI.val, SB.val, Num.eta, Iv.eta] at *)
  all_goals (rw [hpl] at *)
  all_goals (try (rw [wi64_pred (by omega) (by omega)] at *))
  all_goals (try (exfalso; omega))
  all_goals (rw [← hr, hp])
  · exact cut_end ha hk (.inr (by rw [← getD_take (k := k) (by omega), ← hp]; rw [show ((k : Int) - 1).toNat = k - 1 by omega] at h; exact h)) hv
  · exact cut_end ha hk (.inl (by omega)) hv

theorem c_Clone (a : List Int) (hlb : a.length ≤ 268435456) : ∃ t : List Int, t = a ∧ CallsA Try.prog 142 [.sli .u32 a] (.sli .u32 t) := by
  refine ⟨_, rfl, ?_⟩
  generalize hr : a = r
  refine callsA_of hG hm Try.func142 (by kernel_rfl) ?_
  intro E hE lp hl
  cbv
  repeat' (first
    | (refine E_br hE (fun h => ?_) (fun h => ?_) <;> cbv)
    | (refine E_nm hE (fun v hv => ?_); cbv)
    | (refine E_nilS hE (fun b hb => ?_); cbv)
    | fail)
  all_goals (subst hE; simp only [NatCast.natCast, Int.ofNat_eq_natCast, realE, cmp_eql, cmp_neq, cmp_lss, cmp_leq, cmp_gtr, cmp_geq, intBinR, decide_eq_true_eq, decide_eq_false_iff_not, SI.val, SB.val, Num.eta, Iv.eta] at *)
  · exact List.length_eq_zero_iff.1 (by have := hb h; omega)
  · simp
  · subst hr; omega

theorem lim_length_le' {a : List Int} (ha : Lb a) : (lim (lv a)).length ≤ a.length := lim_length_le (lv_lt ha)
theorem c_Trim (a : List Int) (ha : Lb a) (hb : a.length ≤ 268435456) : ∃ t : List Int, t = lim (lv a) ∧ CallsA Try.prog 182 [.sli .u32 a] (.sli .u32 t) := by
  refine ⟨_, rfl, ?_⟩
  generalize hr : lim (lv a) = r
  have hl' := lim_length_le' ha
  refine callsA_of hG hm Try.func182 (by kernel_rfl) ?_
  intro E hE lp hl
  cbv
  repeat' (first
    | (refine E_br hE (fun h => ?_) (fun h => ?_) <;> cbv)
    | (refine E_nm hE (fun v hv => ?_); cbv)
    | (refine E_nilS hE (fun b hb => ?_); cbv)
    | (apply E_callX hE (c_cut _ ha ?_); (case hf => rfl); (case hc => (cbv <;> trivial)); (case hle => (repeat' (first | exact u_nil | apply u_cons | apply u2_agg | exact u2_int | exact u1_int | exact u2_bool | exact u1_bool | exact u2_sli | exact u1_sli | exact u2_s0 | exact u1_s0))); all_goals (first | (intro t ht; cbv) | (omega)))
    | (apply E_callX hE (c_Clone _ ?_); (case hf => rfl); (case hc => (cbv <;> trivial)); (case hle => (repeat' (first | exact u_nil | apply u_cons | apply u2_agg | exact u2_int | exact u1_int | exact u2_bool | exact u1_bool | exact u2_sli | exact u1_sli | exact u2_s0 | exact u1_s0))); all_goals (first | (intro t ht; cbv) | ((subst_vars; omega))))
    | fail)
  subst_vars
  rfl

theorem c_natCmp (a b : List Int) (ha : Lb a) (hb : Lb b) (hla : a.length ≤ 268435456) (hlb : b.length ≤ 268435456) : ∃ t : Int, t = (if lv a < lv b then -1 else if lv b < lv a then 1 else 0 : Int) ∧ CallsA Try.prog 140 [.sli .u32 a, .sli .u32 b] (.int .i64 (.s t)) := by
  refine ⟨_, rfl, ?_⟩
  generalize hr : (if lv a < lv b then -1 else if lv b < lv a then 1 else 0 : Int) = r
  have hl1 := lim_length_le' ha
  have hl2 := lim_length_le' hb
  have l1 := lim_lb (lv a)
  have l2 := lim_lb (lv b)
  have v1 := lv_lim (lv a)
  have v2 := lv_lim (lv b)
  have k1 : (lim (lv a)).length < (lim (lv b)).length → r = -1 := by
    intro h; rw [← hr, if_pos (lim_len_lt h)]
  have k2 : (lim (lv b)).length < (lim (lv a)).length → r = 1 := by
    intro h; have := lim_len_lt h; rw [← hr, if_neg (by omega), if_pos this]
  have k3 : lv (lim (lv a)) < lv (lim (lv b)) → r = -1 := by
    intro h; rw [v1, v2] at h; rw [← hr, if_pos h]
  have k4 : lv (lim (lv b)) < lv (lim (lv a)) → r = 1 := by
    intro h; rw [v1, v2] at h; rw [← hr, if_neg (by omega), if_pos h]
  have k5 : lim (lv a) = lim (lv b) → r = 0 := by
    intro h; have := lim_inj h; rw [← hr, if_neg (by omega), if_neg (by omega)]
  refine callsA_of hG hm Try.func140 (by kernel_rfl) ?_
  intro E hE lp hl
  cbv
  (apply E_callX hE (c_cut a ha (by omega)); (case hf => rfl); (case hc => (cbv <;> trivial)); (case hle => exact ⟨u2_sli, trivial⟩); intro x hx; cbv)
  (apply E_callX hE (c_cut b hb (by omega)); (case hf => rfl); (case hc => (cbv <;> trivial)); (case hle => exact ⟨u2_sli, trivial⟩); intro y hy; cbv)
  repeat' (first
    | (refine E_br hE (fun h => ?_) (fun h => ?_) <;> cbv)
    | (refine E_nm hE (fun v hv => ?_); cbv)
    | (refine E_nilS hE (fun b hb => ?_); cbv)
    | fail)
  case hK.hK.refine_1 => subst hE; simp only [NatCast.natCast, Int.ofNat_eq_natCast, realE, cmp_eql, cmp_neq, cmp_lss, cmp_leq, cmp_gtr, cmp_geq, intBinR, decide_eq_true_eq, decide_eq_false_iff_not, SI.val, SB.val, Num.eta, Iv.eta] at *; rw [k1 (by rw [← hx, ← hy]; omega)]
  case hK.hK.refine_2.refine_1 => subst hE; simp only [NatCast.natCast, Int.ofNat_eq_natCast, realE, cmp_eql, cmp_neq, cmp_lss, cmp_leq, cmp_gtr, cmp_geq, intBinR, decide_eq_true_eq, decide_eq_false_iff_not, SI.val, SB.val, Num.eta, Iv.eta] at *; rw [k2 (by rw [← hx, ← hy]; omega)]
  have hlen : x.length = y.length := by subst hE; simp only [NatCast.natCast, Int.ofNat_eq_natCast, realE, cmp_eql, cmp_neq, cmp_lss, cmp_leq, cmp_gtr, cmp_geq, intBinR, decide_eq_true_eq, decide_eq_false_iff_not, SI.val, SB.val, Num.eta, Iv.eta] at *; omega
  rw [← hx] at k1 k2 k3 k4 k5 hl1 l1
  rw [← hy] at k1 k2 k3 k4 k5 hl2 l2
  obtain ⟨m, em⟩ : ∃ m : Int → Nat, ∀ i, m i = (x.length - i).toNat := ⟨_, fun _ => rfl⟩
  obtain ⟨ok, eok⟩ : ∃ ok : Int → Prop, ∀ i, ok i ↔ 0 ≤ i ∧ i ≤ x.length ∧ x.drop (x.length - i).toNat = y.drop (x.length - i).toNat := ⟨_, fun _ => Iff.rfl⟩
  refine E_loop hE hG hm hl (fun i : Int => (⟨[(0, .sli .u32 x), (1, .sli .u32 y), (24, .int .i64 (.s (E.len x))), (25, .int .i64 (.s i))], []⟩ : St)) m ok ⟨0, (eok 0).2 ⟨by omega, by omega, ?_⟩, stLe rfl ?_⟩ ?_
  · rw [show ((x.length : Int) - 0).toNat = x.length by omega, List.drop_length, List.drop_eq_nil_of_le (by omega)]
  · (repeat' (first | exact t_nil | apply t_cons | exact u2_sli | exact u2_int | exact u2_bool | exact u2_ms | exact u2_ptr | exact (rfl : sle2 .s0 .s0)))
  intro i hok
  obtain ⟨h1, h2, h3⟩ := (eok i).1 hok
  have low : ∀ v : Int, v = x.length - 1 - i → i < x.length → x.getD v.toNat 0 < y.getD v.toNat 0 → -1 = r := by
    intro v hv hi h
    exact (k3 (cmp_step l1 l2 (k := v.toNat) hlen (by omega) (by rw [show v.toNat + 1 = ((x.length : Int) - i).toNat by omega]; exact h3) h)).symm
  have high : ∀ v : Int, v = x.length - 1 - i → i < x.length → y.getD v.toNat 0 < x.getD v.toNat 0 → 1 = r := by
    intro v hv hi h
    exact (k4 (cmp_step l2 l1 (k := v.toNat) hlen.symm (by omega) (by rw [show v.toNat + 1 = ((x.length : Int) - i).toNat by omega]; exact h3.symm) h)).symm
  have same : ∀ v : Int, v = x.length - 1 - i → i < x.length → ¬ y.getD v.toNat 0 < x.getD v.toNat 0 → ¬ x.getD v.toNat 0 < y.getD v.toNat 0 → x.drop (x.length - (i + 1)).toNat = y.drop (x.length - (i + 1)).toNat := by
    intro v hv hi h h'
    rw [show ((x.length : Int) - (i + 1)).toNat = v.toNat by omega]
    exact drop_step hlen (by omega) (by rw [show v.toNat + 1 = ((x.length : Int) - i).toNat by omega]; exact h3) (by omega)
  have done : ¬ i < x.length → 0 = r := by
    intro h
    rw [k5 (by rw [show ((x.length : Int) - i).toNat = 0 by omega] at h3; simpa using h3)]
  clear h3 k1 k2 k3 k4 k5
  cbv
  repeat' (first
    | (refine E_br hE (fun h => ?_) (fun h => ?_) <;> cbv)
    | (refine E_nm hE (fun v hv => ?_); cbv)
    | (refine E_nilS hE (fun b hb => ?_); cbv)
    | fail)
  all_goals (try refine ⟨E.bin .add .i64 i 1, ?_, ?_, stLe rfl ?_⟩)
  all_goals (try ((repeat' (first | exact t_nil | apply t_cons | exact u2_sli | exact u2_int | exact u2_bool | exact u2_ms | exact u2_ptr | exact (rfl : sle2 .s0 .s0))); done))
  all_goals (subst hE; simp only [NatCast.natCast, Int.ofNat_eq_natCast, realE, cmp_eql, cmp_neq, cmp_lss, cmp_leq, cmp_gtr, cmp_geq, intBinR, decide_eq_true_eq, decide_eq_false_iff_not, SI.val, SB.val, Num.eta, Iv.eta] at *)
  all_goals (try exact done ‹_›)
  all_goals (have hi : i < x.length := ‹_›; try rw [wi64_succ h1 hi (by omega)])
  all_goals (have hv : ∀ v w, w = i → v = IntKind.i64.wrap (IntKind.i64.wrap ((x.length : Int) - 1) - w) → v = x.length - 1 - i := by (intro v w h h'; rw [wi64, wi64] at h'; omega))
  all_goals (replace hv := hv _ _ ‹_ = i› ‹_›)
  all_goals (first | omega | (rw [em, em]; omega) | exact low _ hv hi ‹_› | exact high _ hv hi ‹_› | exact (eok _).2 ⟨by omega, by omega, same _ hv hi ‹_› ‹_›⟩)

end Go.Proofs.Ytincnfjihffllaa.Ev

/- Contracts: the sum of limbs. Printed by gen.py. -/
namespace Go.Proofs.Ytincnfjihffllaa.Ev
open Go Go.Proofs
set_option linter.unusedVariables false
set_option linter.unusedSimpArgs false


attribute [local irreducible] Lb
theorem sub_all {l : List Int} {n : Int} (h : n = l.length) : (l.drop (0 : Int).toNat).take n.toNat = l := by subst h; simp

def addI (E : Env) (x y : List Int) : Int × Int × List Int → St := fun p => ⟨[(0, .sli .u32 x), (1, .sli .u32 y), (5, .ms 0 1 (.l 0) (.s (E.bin .add .i64 (E.len x) 1))), (6, .int .u32 (.s p.2.1)), (21, .int .i64 (.s (E.len x))), (22, .int .i64 (.s p.1))], [.ints true .u32 p.2.2]⟩

theorem c_natAdd (a b : List Int) (ha : Lb a) (hb : Lb b) (hla : a.length < 268435456) (hlb : b.length < 268435456) : ∃ t : List Int, t = lim (lv a + lv b) ∧ CallsA Try.prog 139 [.sli .u32 a, .sli .u32 b] (.sli .u32 t) := by
  refine ⟨_, rfl, ?_⟩
  generalize hr : lim (lv a + lv b) = r
  refine callsA_of hG hm Try.func139 (by kernel_rfl) ?_
  intro E hE lp hl
  cbv
  refine E_br hE (fun h => ?_) (fun h => ?_)
  · have hsum : lv b + lv a = lv a + lv b := Nat.add_comm _ _
    have hxy : a.length ≤ b.length := by subst hE; simp only [NatCast.natCast, Int.ofNat_eq_natCast, realE, cmp_eql, cmp_neq, cmp_lss, cmp_leq, cmp_gtr, cmp_geq, intBinR, decide_eq_true_eq, decide_eq_false_iff_not, SI.val, SB.val, Num.eta, Iv.eta] at *; omega

    have h32 : IntKind.i64.wrap ((b.length : Int) + 1) = b.length + 1 := wi64_id (by omega) (by omega)
    cbv
    repeat' (first
    | (refine E_br hE (fun h => ?_) (fun h => ?_) <;> cbv)
    | (refine E_nm hE (fun v hv => ?_); cbv)
    | (refine E_nilS hE (fun b hb => ?_); cbv)
    | fail)
    all_goals (try (exfalso; subst hE; simp only [NatCast.natCast, Int.ofNat_eq_natCast, realE, cmp_eql, cmp_neq, cmp_lss, cmp_leq, cmp_gtr, cmp_geq, intBinR, decide_eq_true_eq, decide_eq_false_iff_not, SI.val, SB.val, Num.eta, Iv.eta] at *; rw [h32] at *; omega))
    obtain ⟨m, em⟩ : ∃ m : Int × Int × List Int → Nat, ∀ p, m p = (b.length - p.1).toNat := ⟨_, fun _ => rfl⟩
    obtain ⟨ok, eok⟩ : ∃ ok : Int × Int × List Int → Prop, ∀ p, ok p ↔ 0 ≤ p.1 ∧ p.1 ≤ b.length ∧ AddInv b a p.2.2 p.1.toNat p.2.1 := ⟨_, fun _ => Iff.rfl⟩
    refine E_loop hE hG hm hl (addI E b a) m ok ⟨(0, 0, E.rep (E.bin .add .i64 (E.len b) 1)), (eok _).2 ?_, stLe rfl ?_⟩ ?_
    · refine ⟨by show (0 : Int) ≤ 0; omega, by show (0 : Int) ≤ b.length; omega, ?_⟩
      have := AddInv.start b a
      subst hE; simp only [NatCast.natCast, Int.ofNat_eq_natCast, realE, cmp_eql, cmp_neq, cmp_lss, cmp_leq, cmp_gtr, cmp_geq, intBinR, decide_eq_true_eq, decide_eq_false_iff_not, SI.val, SB.val, Num.eta, Iv.eta] at *; rw [h32]
      exact this
    · (repeat' (first | exact t_nil | apply t_cons | exact u2_sli | exact u2_int | exact u2_bool | exact u2_ms | exact u2_ptr | exact (rfl : sle2 .s0 .s0)))
    rintro ⟨i, c, out⟩ hok
    obtain ⟨h1, h2, inv⟩ := (eok _).1 hok
    dsimp only at h1 h2 inv
    have hgx := hb.getD i.toNat
    have hgy := ha.getD i.toNat
    have hc0 := inv.c0
    have hc1 := inv.c1
    have hol := inv.len
    have next : ∀ (j k c' z : Int) (v : Int × Int), i < b.length → k = i → j = IntKind.i64.wrap (i + 1) → (z = a.getD k.toNat 0 ∨ (¬ k < a.length ∧ z = 0)) →
        v = ((b.getD k.toNat 0 + z + c) % 4294967296, (b.getD k.toNat 0 + z + c) / 4294967296) → c' = v.2 →
        m (j, c', out.set k.toNat v.1) < m (i, c, out) ∧ ok (j, c', out.set k.toNat v.1) := by
      intro j k c' z v h hk hj hz hv hc
      subst hk
      have hz : z = a.getD k.toNat 0 := by
        rcases hz with hz | ⟨hz, h0⟩
        · exact hz
        · rw [h0, getD_past (by omega)]
      have hj : j = k + 1 := by rw [hj, wi64_id (by omega) (by omega)]
      refine ⟨by rw [em, em]; show ((b.length : Int) - j).toNat < ((b.length : Int) - k).toNat; omega, (eok _).2 ⟨by show 0 ≤ j; omega, by show j ≤ (b.length : Int); omega, ?_⟩⟩
      have := inv.step hb ha (by omega)
      rw [← hz] at this
      rw [hc, hv, hj]
      show AddInv b a (out.set k.toNat ((b.getD k.toNat 0 + z + c) % 4294967296)) (k + 1).toNat ((b.getD k.toNat 0 + z + c) / 4294967296)
      rw [show (k + 1).toNat = k.toNat + 1 by omega]
      exact this
    have fin : ¬ i < b.length → Lb (out.set (b.length : Int).toNat c) ∧ lim (lv (out.set (b.length : Int).toNat c)) = r := by
      intro h
      rw [show i.toNat = b.length by omega] at inv
      obtain ⟨k1, k2⟩ := inv.stop hxy
      rw [Int.toNat_natCast]
      exact ⟨k1, by rw [k2, hsum, hr]⟩
    clear inv hok hr
    cbv
    repeat' (first
    | (refine E_br hE (fun h => ?_) (fun h => ?_) <;> cbv)
    | (refine E_nm hE (fun v hv => ?_); cbv)
    | (refine E_nilS hE (fun b hb => ?_); cbv)
    | (apply E_callX hE (c_Add32 _ _ _ ?_ ?_ ?_ ?_ ?_ ?_); (case hf => rfl); (case hc => (cbv <;> trivial)); (case hle => (repeat' (first | exact u_nil | apply u_cons | apply u2_agg | exact u2_int | exact u1_int | exact u2_bool | exact u1_bool | exact u2_sli | exact u1_sli | exact u2_s0 | exact u1_s0))); all_goals (first | (intro t ht; cbv) | (subst hE; (try simp only [NatCast.natCast, Int.ofNat_eq_natCast, realE, cmp_eql, cmp_neq, cmp_lss, cmp_leq, cmp_gtr, cmp_geq, intBinR, decide_eq_true_eq, decide_eq_false_iff_not, SI.val, SB.val, Num.eta, Iv.eta] at *); subst_vars; (first | assumption | omega))))
    | (apply E_callX hE (c_cut _ ?_ ?_); (case hf => rfl); (case hc => (cbv <;> trivial)); (case hle => (repeat' (first | exact u_nil | apply u_cons | apply u2_agg | exact u2_int | exact u1_int | exact u2_bool | exact u1_bool | exact u2_sli | exact u1_sli | exact u2_s0 | exact u1_s0))); all_goals (first | (intro t ht; cbv) | ((subst hE; simp only [NatCast.natCast, Int.ofNat_eq_natCast, realE, cmp_eql, cmp_neq, cmp_lss, cmp_leq, cmp_gtr, cmp_geq, intBinR, decide_eq_true_eq, decide_eq_false_iff_not, SI.val, SB.val, Num.eta, Iv.eta] at *; rw [h32] at *; rw [sub_all (by rw [List.length_set]; omega)]; first | exact (fin ‹_›).1 | (rw [List.length_set]; omega)))))
    | fail)
    all_goals (try refine ⟨(E.bin .add .i64 i 1, v, E.set out _ t.1), ?_, ?_, stLe rfl ?_⟩)
    all_goals (try ((repeat' (first | exact t_nil | apply t_cons | exact u2_sli | exact u2_int | exact u2_bool | exact u2_ms | exact u2_ptr | exact (rfl : sle2 .s0 .s0))); done))
    all_goals (subst hE; simp only [NatCast.natCast, Int.ofNat_eq_natCast, realE, cmp_eql, cmp_neq, cmp_lss, cmp_leq, cmp_gtr, cmp_geq, intBinR, decide_eq_true_eq, decide_eq_false_iff_not, SI.val, SB.val, Num.eta, Iv.eta] at *)
    all_goals (first | exact (next _ _ _ _ _ ‹_› ‹_› rfl (by first | exact .inl ‹_› | exact .inr ⟨‹_›, rfl⟩) ‹t = _› ‹_›).1 | exact (next _ _ _ _ _ ‹_› ‹_› rfl (by first | exact .inl ‹_› | exact .inr ⟨‹_›, rfl⟩) ‹t = _› ‹_›).2 | (exfalso; clear next fin; rw [h32] at *; omega) | skip)
    rw [‹t = _›, h32, sub_all (by rw [List.length_set]; omega), (fin ‹_›).2]
  · have hsum : lv a + lv b = lv a + lv b := rfl
    have hxy : b.length ≤ a.length := by subst hE; simp only [NatCast.natCast, Int.ofNat_eq_natCast, realE, cmp_eql, cmp_neq, cmp_lss, cmp_leq, cmp_gtr, cmp_geq, intBinR, decide_eq_true_eq, decide_eq_false_iff_not, SI.val, SB.val, Num.eta, Iv.eta] at *; omega

    have h32 : IntKind.i64.wrap ((a.length : Int) + 1) = a.length + 1 := wi64_id (by omega) (by omega)
    cbv
    repeat' (first
    | (refine E_br hE (fun h => ?_) (fun h => ?_) <;> cbv)
    | (refine E_nm hE (fun v hv => ?_); cbv)
    | (refine E_nilS hE (fun b hb => ?_); cbv)
    | fail)
    all_goals (try (exfalso; subst hE; simp only [NatCast.natCast, Int.ofNat_eq_natCast, realE, cmp_eql, cmp_neq, cmp_lss, cmp_leq, cmp_gtr, cmp_geq, intBinR, decide_eq_true_eq, decide_eq_false_iff_not, SI.val, SB.val, Num.eta, Iv.eta] at *; rw [h32] at *; omega))
    obtain ⟨m, em⟩ : ∃ m : Int × Int × List Int → Nat, ∀ p, m p = (a.length - p.1).toNat := ⟨_, fun _ => rfl⟩
    obtain ⟨ok, eok⟩ : ∃ ok : Int × Int × List Int → Prop, ∀ p, ok p ↔ 0 ≤ p.1 ∧ p.1 ≤ a.length ∧ AddInv a b p.2.2 p.1.toNat p.2.1 := ⟨_, fun _ => Iff.rfl⟩
    refine E_loop hE hG hm hl (addI E a b) m ok ⟨(0, 0, E.rep (E.bin .add .i64 (E.len a) 1)), (eok _).2 ?_, stLe rfl ?_⟩ ?_
    · refine ⟨by show (0 : Int) ≤ 0; omega, by show (0 : Int) ≤ a.length; omega, ?_⟩
      have := AddInv.start a b
      subst hE; simp only [NatCast.natCast, Int.ofNat_eq_natCast, realE, cmp_eql, cmp_neq, cmp_lss, cmp_leq, cmp_gtr, cmp_geq, intBinR, decide_eq_true_eq, decide_eq_false_iff_not, SI.val, SB.val, Num.eta, Iv.eta] at *; rw [h32]
      exact this
    · (repeat' (first | exact t_nil | apply t_cons | exact u2_sli | exact u2_int | exact u2_bool | exact u2_ms | exact u2_ptr | exact (rfl : sle2 .s0 .s0)))
    rintro ⟨i, c, out⟩ hok
    obtain ⟨h1, h2, inv⟩ := (eok _).1 hok
    dsimp only at h1 h2 inv
    have hgx := ha.getD i.toNat
    have hgy := hb.getD i.toNat
    have hc0 := inv.c0
    have hc1 := inv.c1
    have hol := inv.len
    have next : ∀ (j k c' z : Int) (v : Int × Int), i < a.length → k = i → j = IntKind.i64.wrap (i + 1) → (z = b.getD k.toNat 0 ∨ (¬ k < b.length ∧ z = 0)) →
        v = ((a.getD k.toNat 0 + z + c) % 4294967296, (a.getD k.toNat 0 + z + c) / 4294967296) → c' = v.2 →
        m (j, c', out.set k.toNat v.1) < m (i, c, out) ∧ ok (j, c', out.set k.toNat v.1) := by
      intro j k c' z v h hk hj hz hv hc
      subst hk
      have hz : z = b.getD k.toNat 0 := by
        rcases hz with hz | ⟨hz, h0⟩
        · exact hz
        · rw [h0, getD_past (by omega)]
      have hj : j = k + 1 := by rw [hj, wi64_id (by omega) (by omega)]
      refine ⟨by rw [em, em]; show ((a.length : Int) - j).toNat < ((a.length : Int) - k).toNat; omega, (eok _).2 ⟨by show 0 ≤ j; omega, by show j ≤ (a.length : Int); omega, ?_⟩⟩
      have := inv.step ha hb (by omega)
      rw [← hz] at this
      rw [hc, hv, hj]
      show AddInv a b (out.set k.toNat ((a.getD k.toNat 0 + z + c) % 4294967296)) (k + 1).toNat ((a.getD k.toNat 0 + z + c) / 4294967296)
      rw [show (k + 1).toNat = k.toNat + 1 by omega]
      exact this
    have fin : ¬ i < a.length → Lb (out.set (a.length : Int).toNat c) ∧ lim (lv (out.set (a.length : Int).toNat c)) = r := by
      intro h
      rw [show i.toNat = a.length by omega] at inv
      obtain ⟨k1, k2⟩ := inv.stop hxy
      rw [Int.toNat_natCast]
      exact ⟨k1, by rw [k2, hsum, hr]⟩
    clear inv hok hr
    cbv
    repeat' (first
    | (refine E_br hE (fun h => ?_) (fun h => ?_) <;> cbv)
    | (refine E_nm hE (fun v hv => ?_); cbv)
    | (refine E_nilS hE (fun b hb => ?_); cbv)
    | (apply E_callX hE (c_Add32 _ _ _ ?_ ?_ ?_ ?_ ?_ ?_); (case hf => rfl); (case hc => (cbv <;> trivial)); (case hle => (repeat' (first | exact u_nil | apply u_cons | apply u2_agg | exact u2_int | exact u1_int | exact u2_bool | exact u1_bool | exact u2_sli | exact u1_sli | exact u2_s0 | exact u1_s0))); all_goals (first | (intro t ht; cbv) | (subst hE; (try simp only [NatCast.natCast, Int.ofNat_eq_natCast, realE, cmp_eql, cmp_neq, cmp_lss, cmp_leq, cmp_gtr, cmp_geq, intBinR, decide_eq_true_eq, decide_eq_false_iff_not, SI.val, SB.val, Num.eta, Iv.eta] at *); subst_vars; (first | assumption | omega))))
    | (apply E_callX hE (c_cut _ ?_ ?_); (case hf => rfl); (case hc => (cbv <;> trivial)); (case hle => (repeat' (first | exact u_nil | apply u_cons | apply u2_agg | exact u2_int | exact u1_int | exact u2_bool | exact u1_bool | exact u2_sli | exact u1_sli | exact u2_s0 | exact u1_s0))); all_goals (first | (intro t ht; cbv) | ((subst hE; simp only [NatCast.natCast, Int.ofNat_eq_natCast, realE, cmp_eql, cmp_neq, cmp_lss, cmp_leq, cmp_gtr, cmp_geq, intBinR, decide_eq_true_eq, decide_eq_false_iff_not, SI.val, SB.val, Num.eta, Iv.eta] at *; rw [h32] at *; rw [sub_all (by rw [List.length_set]; omega)]; first | exact (fin ‹_›).1 | (rw [List.length_set]; omega)))))
    | fail)
    all_goals (try refine ⟨(E.bin .add .i64 i 1, v, E.set out _ t.1), ?_, ?_, stLe rfl ?_⟩)
    all_goals (try ((repeat' (first | exact t_nil | apply t_cons | exact u2_sli | exact u2_int | exact u2_bool | exact u2_ms | exact u2_ptr | exact (rfl : sle2 .s0 .s0))); done))
    all_goals (subst hE; simp only [NatCast.natCast, Int.ofNat_eq_natCast, realE, cmp_eql, cmp_neq, cmp_lss, cmp_leq, cmp_gtr, cmp_geq, intBinR, decide_eq_true_eq, decide_eq_false_iff_not, SI.val, SB.val, Num.eta, Iv.eta] at *)
    all_goals (first | exact (next _ _ _ _ _ ‹_› ‹_› rfl (by first | exact .inl ‹_› | exact .inr ⟨‹_›, rfl⟩) ‹t = _› ‹_›).1 | exact (next _ _ _ _ _ ‹_› ‹_› rfl (by first | exact .inl ‹_› | exact .inr ⟨‹_›, rfl⟩) ‹t = _› ‹_›).2 | (exfalso; clear next fin; rw [h32] at *; omega) | skip)
    rw [‹t = _›, h32, sub_all (by rw [List.length_set]; omega), (fin ‹_›).2]

end Go.Proofs.Ytincnfjihffllaa.Ev

/- Contracts: the product of limbs. Printed by gen.py. -/
namespace Go.Proofs.Ytincnfjihffllaa.Ev
open Go Go.Proofs
set_option linter.unusedVariables false
set_option linter.unusedSimpArgs false


attribute [local irreducible] Lb
def mulO (E : Env) (a b : List Int) : Int × List Int → St := fun p => ⟨[(0, .sli .u32 a), (1, .sli .u32 b), (5, .ms 0 1 (.l 0) (.s (E.bin .add .i64 (E.len a) (E.len b)))), (18, .sli .u32 a), (19, .int .i64 (.s (E.len a))), (20, .int .i64 (.s p.1))], [.ints true .u32 p.2]⟩
def mulI (E : Env) (a b : List Int) (i i' x : Int) : Int × Int × List Int → St := fun p => ⟨[(0, .sli .u32 a), (1, .sli .u32 b), (5, .ms 0 1 (.l 0) (.s (E.bin .add .i64 (E.len a) (E.len b)))), (18, .sli .u32 a), (19, .int .i64 (.s (E.len a))), (20, .int .i64 (.s i)),
   (6, .int .i64 (.s i')), (7, .int .u32 (.s x)), (8, .int .u64 (.s p.2.1)), (25, .sli .u32 b), (26, .int .i64 (.s (E.len b))), (27, .int .i64 (.s p.1))], [.ints true .u32 p.2.2]⟩
set_option maxHeartbeats 1000000 in
theorem c_natMul (a b : List Int) (ha : Lb a) (hb : Lb b) (hla : a.length < 134217728) (hlb : b.length < 134217728) : ∃ t : List Int, t = lim (lv a * lv b) ∧ CallsA Try.prog 141 [.sli .u32 a, .sli .u32 b] (.sli .u32 t) := by
  refine ⟨_, rfl, ?_⟩
  generalize hr : lim (lv a * lv b) = r
  have h32 : IntKind.i64.wrap ((a.length : Int) + b.length) = a.length + b.length := wi64_id (by omega) (by omega)
  obtain ⟨m, em⟩ : ∃ m : Int × List Int → Nat, ∀ p, m p = (a.length - p.1).toNat := ⟨_, fun _ => rfl⟩
  obtain ⟨ok, eok⟩ : ∃ ok : Int × List Int → Prop, ∀ p, ok p ↔ 0 ≤ p.1 ∧ p.1 ≤ a.length ∧ MulInv a b p.2 p.1.toNat 0 0 := ⟨_, fun _ => Iff.rfl⟩
  obtain ⟨m2, em2⟩ : ∃ m : Int × Int × List Int → Nat, ∀ p, m p = (b.length - p.1).toNat := ⟨_, fun _ => rfl⟩
  obtain ⟨ok2, eok2⟩ : ∃ ok : Int → Int × Int × List Int → Prop, ∀ i p, ok i p ↔ 0 ≤ p.1 ∧ p.1 ≤ b.length ∧ MulInv a b p.2.2 i.toNat p.1.toNat p.2.1 := ⟨_, fun _ _ => Iff.rfl⟩
  refine callsA_of hG hm Try.func141 (by kernel_rfl) ?_
  intro E hE lp hl
  cbv
  repeat' (first
    | (refine E_br hE (fun h => ?_) (fun h => ?_) <;> cbv)
    | (refine E_nm hE (fun v hv => ?_); cbv)
    | (refine E_nilS hE (fun b hb => ?_); cbv)
    | fail)
  all_goals (try (exfalso; subst hE; simp only [NatCast.natCast, Int.ofNat_eq_natCast, realE, cmp_eql, cmp_neq, cmp_lss, cmp_leq, cmp_gtr, cmp_geq, intBinR, decide_eq_true_eq, decide_eq_false_iff_not, SI.val, SB.val, Num.eta, Iv.eta] at *; rw [h32] at *; omega))
  refine E_loop hE hG hm hl (mulO E a b) m ok ⟨(0, E.rep (E.bin .add .i64 (E.len a) (E.len b))), (eok _).2 ?_, stLe rfl ?_⟩ ?_
  · refine ⟨by show (0 : Int) ≤ 0; omega, by show (0 : Int) ≤ a.length; omega, ?_⟩
    have := MulInv.start a b
    subst hE; simp only [NatCast.natCast, Int.ofNat_eq_natCast, realE, cmp_eql, cmp_neq, cmp_lss, cmp_leq, cmp_gtr, cmp_geq, intBinR, decide_eq_true_eq, decide_eq_false_iff_not, SI.val, SB.val, Num.eta, Iv.eta] at *; rw [h32]
    exact this
  · (repeat' (first | exact t_nil | apply t_cons | exact u2_sli | exact u2_int | exact u2_bool | exact u2_ms | exact u2_ptr | exact (rfl : sle2 .s0 .s0)))
  rintro ⟨i, out⟩ hok
  obtain ⟨h1, h2, inv⟩ := (eok _).1 hok
  dsimp only at h1 h2 inv
  simp only [NatCast.natCast, Int.ofNat_eq_natCast] at h2 em eok em2 eok2
  have hol := inv.len
  have fin : ¬ i < a.length → Lb out ∧ lim (lv out) = r := by
    intro h
    rw [show i.toNat = a.length by omega] at inv
    exact ⟨inv.lb, by rw [inv.stop, hr]⟩
  clear hr hok
  cbv
  repeat' (first
    | (refine E_br hE (fun h => ?_) (fun h => ?_) <;> cbv)
    | (refine E_nm hE (fun v hv => ?_); cbv)
    | (refine E_nilS hE (fun b hb => ?_); cbv)
    | (apply E_callX hE (c_cut _ ?_ ?_); (case hf => rfl); (case hc => (cbv <;> trivial)); (case hle => (repeat' (first | exact u_nil | apply u_cons | apply u2_agg | exact u2_int | exact u1_int | exact u2_bool | exact u1_bool | exact u2_sli | exact u1_sli | exact u2_s0 | exact u1_s0))); all_goals (first | (intro t ht; cbv) | ((subst hE; simp only [NatCast.natCast, Int.ofNat_eq_natCast, realE, cmp_eql, cmp_neq, cmp_lss, cmp_leq, cmp_gtr, cmp_geq, intBinR, decide_eq_true_eq, decide_eq_false_iff_not, SI.val, SB.val, Num.eta, Iv.eta] at *; rw [h32] at *; rw [sub_all (by omega)]; first | exact (fin ‹_›).1 | omega))))
    | fail)
  case hK => subst hE; simp only [NatCast.natCast, Int.ofNat_eq_natCast, realE, cmp_eql, cmp_neq, cmp_lss, cmp_leq, cmp_gtr, cmp_geq, intBinR, decide_eq_true_eq, decide_eq_false_iff_not, SI.val, SB.val, Num.eta, Iv.eta] at *; rw [‹t = _›, h32, sub_all (by omega), (fin ‹_›).2]
  all_goals (try (exfalso; subst hE; simp only [NatCast.natCast, Int.ofNat_eq_natCast, realE, cmp_eql, cmp_neq, cmp_lss, cmp_leq, cmp_gtr, cmp_geq, intBinR, decide_eq_true_eq, decide_eq_false_iff_not, SI.val, SB.val, Num.eta, Iv.eta] at *; clear fin; rw [h32] at *; omega))
  rename_i i' ei
  have ex := hv
  clear hv
  have hilt : i < a.length := by subst hE; exact lss_t ‹_›
  refine E_loop hE hG hm hl (mulI E a b i i' v) m2 (ok2 i) ⟨(0, 0, out), (eok2 _ _).2 ⟨by show (0 : Int) ≤ 0; omega, by show (0 : Int) ≤ b.length; omega, inv⟩, stLe rfl ?_⟩ ?_
  · (repeat' (first | exact t_nil | apply t_cons | exact u2_sli | exact u2_int | exact u2_bool | exact u2_ms | exact u2_ptr | exact (rfl : sle2 .s0 .s0)))
  rintro ⟨k, c, out⟩ hok
  have h3 : 0 ≤ k := ((eok2 _ _).1 hok).1
  have h4 : k ≤ b.length := ((eok2 _ _).1 hok).2.1
  have inv2 : MulInv a b out i.toNat k.toNat c := ((eok2 _ _).1 hok).2.2
  have hol2 := inv2.len
  clear inv hol fin
  cbv
  repeat' (first
    | (refine E_br hE (fun h => ?_) (fun h => ?_) <;> cbv)
    | (refine E_nm hE (fun v hv => ?_); cbv)
    | (refine E_nilS hE (fun b hb => ?_); cbv)
    | fail)
  all_goals (try refine ⟨(E.bin .add .i64 k 1, v, E.set out (E.bin .add .i64 i' _) (E.conv .u32 _)), ?_, ?_, stLe rfl ?_⟩)
  all_goals (try refine ⟨(E.bin .add .i64 i 1, E.set out (E.bin .add .i64 i' (E.len b)) (E.conv .u32 c)), ?_, ?_, stLe rfl ?_⟩)
  all_goals (try ((repeat' (first | exact t_nil | apply t_cons | exact u2_sli | exact u2_int | exact u2_bool | exact u2_ms | exact u2_ptr | exact (rfl : sle2 .s0 .s0))); done))
  all_goals (subst hE)
  all_goals (try (first | (rw [em2, em2]; exact (mul_next ha hb hla hlb h1 hilt h3 (lss_t ‹_›) inv2 ei ‹_› ex ‹_› ‹_› ‹_› rfl).2.2.1) | (rw [eok2]; have q := mul_next ha hb hla hlb h1 hilt h3 (lss_t ‹_›) inv2 ei ‹_› ex ‹_› ‹_› ‹_› rfl; exact ⟨q.1, q.2.1, q.2.2.2⟩) | (rw [em, em]; exact (mul_exit hla hlb h1 hilt h4 (lss_f ‹_›) inv2 ei rfl).2.2.1) | (rw [eok]; have q := mul_exit hla hlb h1 hilt h4 (lss_f ‹_›) inv2 ei rfl; exact ⟨q.1, q.2.1, q.2.2.2⟩)))
  all_goals (clear inv2 hok eok eok2 em em2; simp only [NatCast.natCast, Int.ofNat_eq_natCast, realE, cmp_eql, cmp_neq, cmp_lss, cmp_leq, cmp_gtr, cmp_geq, intBinR, decide_eq_true_eq, decide_eq_false_iff_not, SI.val, SB.val, Num.eta, Iv.eta] at *; (try rw [h32] at *); clear h32; (try simp only [wi64] at *); omega)

end Go.Proofs.Ytincnfjihffllaa.Ev

/- Contracts: limbs shifted. Printed by gen.py. -/
namespace Go.Proofs.Ytincnfjihffllaa.Ev
open Go Go.Proofs
set_option linter.unusedVariables false
set_option linter.unusedSimpArgs false


attribute [local irreducible] Lb
def shlS (E : Env) (x : List Int) (l r : Int) : Int × List Int → St := fun p => ⟨[(0, .sli .u32 x), (5, .int .i64 (.s l)), (6, .int .i64 (.s r)), (7, .ms 0 1 (.l 0) (.s (E.bin .add .i64 (E.bin .add .i64 (E.len x) l) 1))), (36, .sli .u32 x), (37, .int .i64 (.s (E.len x))), (38, .int .i64 (.s p.1))], [.ints true .u32 p.2]⟩
set_option maxHeartbeats 1000000 in
theorem c_natShl (a : List Int) (n : Int) (ha : Lb a) (hla : a.length < 67108864) : ∃ t : List Int, t = (if n < 1 then lim (lv a) else if 16777216 < n then [] else lim (lv a * 2 ^ n.toNat)) ∧ CallsA Try.prog 75 [.sli .u32 a, .int .i64 (.s n)] (.sli .u32 t) := by
  refine ⟨_, rfl, ?_⟩
  generalize hr : (if n < 1 then lim (lv a) else if 16777216 < n then [] else lim (lv a * 2 ^ n.toNat)) = r
  have hlx := lim_length_le' ha
  have hx := lim_lb (lv a)
  have vx := lv_lim (lv a)
  obtain ⟨x, ex⟩ : ∃ x, lim (lv a) = x := ⟨_, rfl⟩
  rw [ex] at hlx hx vx
  obtain ⟨m, em⟩ : ∃ m : Int × List Int → Nat, ∀ p, m p = (x.length - p.1).toNat := ⟨_, fun _ => rfl⟩
  obtain ⟨ok, eok⟩ : ∃ ok : Int × List Int → Prop, ∀ p, ok p ↔ 0 ≤ p.1 ∧ p.1 ≤ x.length ∧ ShlInv x p.2 (n / 32).toNat (n % 32).toNat p.1.toNat := ⟨_, fun _ => Iff.rfl⟩
  have eN : ∀ l : Int, 1 ≤ n → n ≤ 16777216 → l = intBinR .quo .i64 n 32 → IntKind.i64.wrap (IntKind.i64.wrap ((x.length : Int) + l) + 1) = x.length + n / 32 + 1 := by
    intro l n1 n2 el
    have : l = n / 32 := by rw [el]; exact quo32 (by omega) (by omega)
    rw [this, wi64_id (n := (x.length : Int) + n / 32) (by omega) (by omega), wi64_id (by omega) (by omega)]
  refine callsA_of hG hm Try.func75 (by kernel_rfl) ?_
  intro E hE lp hl
  cbv
  (apply E_callX hE (c_cut a ha (by omega)); (case hf => rfl); (case hc => (cbv <;> trivial)); (case hle => exact ⟨u2_sli, trivial⟩); intro x' hx'; cbv)
  rw [hx'.trans ex]
  clear hx' x'
  refine E_br hE (fun h => ?_) (fun h => ?_)
  · have e : x = r := by subst hE; rw [← hr, if_pos (lss_t h), ex]
    cbv
    repeat' (first
    | (refine E_br hE (fun h => ?_) (fun h => ?_) <;> cbv)
    | (refine E_nm hE (fun v hv => ?_); cbv)
    | (refine E_nilS hE (fun b hb => ?_); cbv)
    | (apply E_callX hE (c_Clone _ ?_); (case hf => rfl); (case hc => (cbv <;> trivial)); (case hle => (repeat' (first | exact u_nil | apply u_cons | apply u2_agg | exact u2_int | exact u1_int | exact u2_bool | exact u1_bool | exact u2_sli | exact u1_sli | exact u2_s0 | exact u1_s0))); all_goals (first | (intro t ht; cbv) | (omega)))
    | fail)
    exact ‹_ = x›.trans e
  have n1 : 1 ≤ n := by subst hE; have := lss_f h; omega
  cbv
  repeat' (first
    | (refine E_br hE (fun h => ?_) (fun h => ?_) <;> cbv)
    | (refine E_nm hE (fun v hv => ?_); cbv)
    | (refine E_nilS hE (fun b hb => ?_); cbv)
    | fail)
  · have n2 : 16777216 < n := by subst hE; exact gtr_t ‹_›
    rw [← hr, if_neg (by omega), if_pos n2]
  · have e0 : x.length = 0 := by subst hE; have := eql_t h; simp only [realE] at this; omega
    have e1 : x = [] := List.length_eq_zero_iff.1 e0
    rw [e1] at vx
    rw [← hr, if_neg (by omega)]
    split
    · rfl
    · rw [← vx]; simp [lv, lim_zero]
  all_goals (have n2 : n ≤ 16777216 := (by subst hE; have := gtr_f ‹(realE Try.prog).cmp .gtr n 16777216 = false›; omega))
  all_goals (try (exfalso; have := eN _ n1 n2 (by subst hE; assumption); subst hE; simp only [NatCast.natCast, Int.ofNat_eq_natCast, realE, cmp_eql, cmp_neq, cmp_lss, cmp_leq, cmp_gtr, cmp_geq, intBinR, decide_eq_true_eq, decide_eq_false_iff_not, SI.val, SB.val, Num.eta, Iv.eta] at *; rw [this] at *; omega))
  rename_i l el _ _
  replace eN := eN l n1 n2 (by subst hE; exact el)
  simp only [NatCast.natCast, Int.ofNat_eq_natCast] at eN
  have er := hv
  have l1 : l = n / 32 := by subst hE; rw [el]; exact quo32 (by omega) (by omega)
  have r1 : 0 ≤ v := by
    have : v = n % 32 := by subst hE; rw [hv]; exact rem32 (by omega)
    omega
  clear hv
  refine E_loop hE hG hm hl (shlS E x l v) m ok ⟨(0, E.rep (E.bin .add .i64 (E.bin .add .i64 (E.len x) l) 1)), (eok _).2 ?_, stLe rfl ?_⟩ ?_
  · refine ⟨by show (0 : Int) ≤ 0; omega, by show (0 : Int) ≤ x.length; omega, ?_⟩
    have := ShlInv.start x (n / 32).toNat (n % 32).toNat
    subst hE; simp only [NatCast.natCast, Int.ofNat_eq_natCast, realE, cmp_eql, cmp_neq, cmp_lss, cmp_leq, cmp_gtr, cmp_geq, intBinR, decide_eq_true_eq, decide_eq_false_iff_not, SI.val, SB.val, Num.eta, Iv.eta] at *; rw [eN, show ((x.length : Int) + n / 32 + 1).toNat = x.length + (n / 32).toNat + 1 by omega]
    exact this
  · (repeat' (first | exact t_nil | apply t_cons | exact u2_sli | exact u2_int | exact u2_bool | exact u2_ms | exact u2_ptr | exact (rfl : sle2 .s0 .s0)))
  rintro ⟨i, out⟩ hok
  have h1 : 0 ≤ i := ((eok _).1 hok).1
  have h2 : i ≤ x.length := ((eok _).1 hok).2.1
  have inv : ShlInv x out (n / 32).toNat (n % 32).toNat i.toNat := ((eok _).1 hok).2.2
  have hol := inv.len
  have fin : ¬ i < x.length → Lb out ∧ lim (lv out) = r := by
    intro h
    have inv' := inv
    rw [show i.toNat = x.length by omega] at inv'
    refine ⟨inv.lb, ?_⟩
    rw [inv'.stop, ← hr, if_neg (by omega), if_neg (by omega), vx, show 32 * (n / 32).toNat + (n % 32).toNat = n.toNat by omega]
  have ht : lim (lv a * 2 ^ n.toNat) = r := by rw [← hr, if_neg (by omega), if_neg (by omega)]
  clear hok hr ex
  cbv
  repeat' (first
    | (refine E_br hE (fun h => ?_) (fun h => ?_) <;> cbv)
    | (refine E_nm hE (fun v hv => ?_); cbv)
    | (refine E_nilS hE (fun b hb => ?_); cbv)
    | (apply E_callX hE (c_cut _ ?_ ?_); (case hf => rfl); (case hc => (cbv <;> trivial)); (case hle => (repeat' (first | exact u_nil | apply u_cons | apply u2_agg | exact u2_int | exact u1_int | exact u2_bool | exact u1_bool | exact u2_sli | exact u1_sli | exact u2_s0 | exact u1_s0))); all_goals (first | (intro t ht; cbv) | ((subst hE; simp only [NatCast.natCast, Int.ofNat_eq_natCast, realE, cmp_eql, cmp_neq, cmp_lss, cmp_leq, cmp_gtr, cmp_geq, intBinR, decide_eq_true_eq, decide_eq_false_iff_not, SI.val, SB.val, Num.eta, Iv.eta] at *; rw [eN] at *; rw [sub_all (by omega)]; first | exact (fin ‹_›).1 | omega))))
    | fail)
  case hK => subst hE; simp only [NatCast.natCast, Int.ofNat_eq_natCast, realE, cmp_eql, cmp_neq, cmp_lss, cmp_leq, cmp_gtr, cmp_geq, intBinR, decide_eq_true_eq, decide_eq_false_iff_not, SI.val, SB.val, Num.eta, Iv.eta] at *; rw [‹t = _›, eN, sub_all (by omega), (fin ‹_›).2]
  all_goals (try refine ⟨(E.bin .add .i64 i 1, _), ?_, ?_, stLe rfl ?_⟩)
  all_goals (try ((repeat' (first | exact t_nil | apply t_cons | exact u2_sli | exact u2_int | exact u2_bool | exact u2_ms | exact u2_ptr | exact (rfl : sle2 .s0 .s0))); done))
  all_goals (subst hE)
  all_goals (try (first | (rw [em, em]; exact (shl_next hx (by omega) n1 n2 h1 (lss_t ‹_›) inv ‹_› el er ‹_› ‹_› rfl).2.2.1) | (rw [eok]; have q := shl_next hx (by omega) n1 n2 h1 (lss_t ‹_›) inv ‹_› el er ‹_› ‹_› rfl; exact ⟨q.1, q.2.1, q.2.2.2⟩)))
  all_goals (clear inv eok em fin ht er el; simp only [NatCast.natCast, Int.ofNat_eq_natCast, realE, cmp_eql, cmp_neq, cmp_lss, cmp_leq, cmp_gtr, cmp_geq, intBinR, decide_eq_true_eq, decide_eq_false_iff_not, SI.val, SB.val, Num.eta, Iv.eta] at *; (try rw [eN] at *); clear eN; (try simp only [wi64] at *); omega)
def shrS (E : Env) (x : List Int) (l r : Int) : Int × List Int → St := fun p => ⟨[(0, .sli .u32 x), (5, .int .i64 (.s l)), (6, .int .i64 (.s r)), (7, .ms 0 1 (.l 0) (.s (E.bin .sub .i64 (E.len x) l))), (33, .int .i64 (.s (E.bin .sub .i64 (E.len x) l))), (34, .int .i64 (.s p.1))], [.ints true .u32 p.2]⟩
set_option maxHeartbeats 1000000 in
theorem c_natShr (a : List Int) (n : Int) (ha : Lb a) (hla : a.length < 67108864) : ∃ t : List Int, t = lim (lv a / 2 ^ n.toNat) ∧ CallsA Try.prog 138 [.sli .u32 a, .int .i64 (.s n)] (.sli .u32 t) := by
  refine ⟨_, rfl, ?_⟩
  generalize hr : lim (lv a / 2 ^ n.toNat) = r
  have hlx := lim_length_le' ha
  have hx := lim_lb (lv a)
  have vx := lv_lim (lv a)
  obtain ⟨x, ex⟩ : ∃ x, lim (lv a) = x := ⟨_, rfl⟩
  rw [ex] at hlx hx vx
  obtain ⟨m, em⟩ : ∃ m : Int × List Int → Nat, ∀ p, m p = (x.length - p.1).toNat := ⟨_, fun _ => rfl⟩
  obtain ⟨ok, eok⟩ : ∃ ok : Int × List Int → Prop, ∀ p, ok p ↔ 0 ≤ p.1 ∧ p.1 ≤ (x.length : Int) - n / 32 ∧ ShrInv x p.2 (n / 32).toNat (n % 32).toNat p.1.toNat := ⟨_, fun _ => Iff.rfl⟩
  have eN : ∀ l : Int, 1 ≤ n → n < 32 * x.length → l = intBinR .quo .i64 n 32 → IntKind.i64.wrap ((x.length : Int) - l) = x.length - n / 32 := by
    intro l n1 n2 el
    have : l = n / 32 := by rw [el]; exact quo32 (by omega) (by omega)
    rw [this, wi64_id (by omega) (by omega)]
  have e32 : IntKind.i64.wrap (32 * (x.length : Int)) = 32 * x.length := wi64_id (by omega) (by omega)
  have big : 32 * (x.length : Int) ≤ n → lv a / 2 ^ n.toNat = 0 := by
    intro h
    have h1 := lv_lt hx
    rw [vx] at h1
    apply Nat.div_eq_of_lt
    have h2 : 4294967296 ^ x.length = 2 ^ (32 * x.length) := by rw [Nat.pow_mul]
    have h3 : 2 ^ (32 * x.length) ≤ 2 ^ n.toNat := Nat.pow_le_pow_right (by omega) (by omega)
    omega
  refine callsA_of hG hm Try.func138 (by kernel_rfl) ?_
  intro E hE lp hl
  cbv
  (apply E_callX hE (c_cut a ha (by omega)); (case hf => rfl); (case hc => (cbv <;> trivial)); (case hle => exact ⟨u2_sli, trivial⟩); intro x' hx'; cbv)
  rw [hx'.trans ex]
  clear hx' x'
  refine E_br hE (fun h => ?_) (fun h => ?_)
  · have e : x = r := by subst hE; have := lss_t h; rw [← hr, ← ex, show n.toNat = 0 by omega, Nat.pow_zero, Nat.div_one]
    cbv
    repeat' (first
    | (refine E_br hE (fun h => ?_) (fun h => ?_) <;> cbv)
    | (refine E_nm hE (fun v hv => ?_); cbv)
    | (refine E_nilS hE (fun b hb => ?_); cbv)
    | (apply E_callX hE (c_Clone _ ?_); (case hf => rfl); (case hc => (cbv <;> trivial)); (case hle => (repeat' (first | exact u_nil | apply u_cons | apply u2_agg | exact u2_int | exact u1_int | exact u2_bool | exact u1_bool | exact u2_sli | exact u1_sli | exact u2_s0 | exact u1_s0))); all_goals (first | (intro t ht; cbv) | (omega)))
    | fail)
    exact ‹_ = x›.trans e
  have n1 : 1 ≤ n := by subst hE; have := lss_f h; omega
  refine E_br hE (fun h => ?_) (fun h => ?_)
  · have e : [] = r := by
      rw [← hr, big (by subst hE; have := geq_t h; simp only [realE, intBinR, NatCast.natCast, Int.ofNat_eq_natCast] at this e32; rw [e32] at this; omega)]; rfl
    cbv
    exact e.symm
  have n2 : n < 32 * x.length := by subst hE; have := geq_f h; simp only [realE, intBinR, NatCast.natCast, Int.ofNat_eq_natCast] at this e32; rw [e32] at this; omega
  cbv
  repeat' (first
    | (refine E_br hE (fun h => ?_) (fun h => ?_) <;> cbv)
    | (refine E_nm hE (fun v hv => ?_); cbv)
    | (refine E_nilS hE (fun b hb => ?_); cbv)
    | fail)
  all_goals (try (exfalso; have := eN _ n1 n2 (by subst hE; assumption); subst hE; simp only [NatCast.natCast, Int.ofNat_eq_natCast, realE, cmp_eql, cmp_neq, cmp_lss, cmp_leq, cmp_gtr, cmp_geq, intBinR, decide_eq_true_eq, decide_eq_false_iff_not, SI.val, SB.val, Num.eta, Iv.eta] at *; rw [this] at *; omega))
  rename_i l el _ _
  replace n2 : n < 32 * (x.length : Int) := n2
  replace eN := eN l n1 n2 (by subst hE; exact el)
  simp only [NatCast.natCast, Int.ofNat_eq_natCast] at eN
  have er := hv
  have l1 : l = n / 32 := by subst hE; rw [el]; exact quo32 (by omega) (by omega)
  have r1 : 0 ≤ v := by
    have : v = n % 32 := by subst hE; rw [hv]; exact rem32 (by omega)
    omega
  clear hv
  refine E_loop hE hG hm hl (shrS E x l v) m ok ⟨(0, E.rep (E.bin .sub .i64 (E.len x) l)), (eok _).2 ?_, stLe rfl ?_⟩ ?_
  · refine ⟨by show (0 : Int) ≤ 0; omega, by show (0 : Int) ≤ x.length - n / 32; omega, ?_⟩
    have := ShrInv.start x (n / 32).toNat (n % 32).toNat
    subst hE; simp only [NatCast.natCast, Int.ofNat_eq_natCast, realE, cmp_eql, cmp_neq, cmp_lss, cmp_leq, cmp_gtr, cmp_geq, intBinR, decide_eq_true_eq, decide_eq_false_iff_not, SI.val, SB.val, Num.eta, Iv.eta] at *; rw [eN, show ((x.length : Int) - n / 32).toNat = x.length - (n / 32).toNat by omega]
    exact this
  · (repeat' (first | exact t_nil | apply t_cons | exact u2_sli | exact u2_int | exact u2_bool | exact u2_ms | exact u2_ptr | exact (rfl : sle2 .s0 .s0)))
  rintro ⟨i, out⟩ hok
  have h1 : 0 ≤ i := ((eok _).1 hok).1
  have h2 : i ≤ x.length - n / 32 := ((eok _).1 hok).2.1
  have inv : ShrInv x out (n / 32).toNat (n % 32).toNat i.toNat := ((eok _).1 hok).2.2
  have hol := inv.len
  have fin : ¬ i < (x.length : Int) - n / 32 → Lb out ∧ lim (lv out) = r := by
    intro h
    have inv' := inv
    rw [show i.toNat = x.length - (n / 32).toNat by omega] at inv'
    refine ⟨inv.lb, ?_⟩
    rw [inv'.stop hx (by omega), ← hr, vx, show 32 * (n / 32).toNat + (n % 32).toNat = n.toNat by omega]
  clear hok hr ex
  cbv
  repeat' (first
    | (refine E_br hE (fun h => ?_) (fun h => ?_) <;> cbv)
    | (refine E_nm hE (fun v hv => ?_); cbv)
    | (refine E_nilS hE (fun b hb => ?_); cbv)
    | (apply E_callX hE (c_cut _ ?_ ?_); (case hf => rfl); (case hc => (cbv <;> trivial)); (case hle => (repeat' (first | exact u_nil | apply u_cons | apply u2_agg | exact u2_int | exact u1_int | exact u2_bool | exact u1_bool | exact u2_sli | exact u1_sli | exact u2_s0 | exact u1_s0))); all_goals (first | (intro t ht; cbv) | ((subst hE; simp only [NatCast.natCast, Int.ofNat_eq_natCast, realE, cmp_eql, cmp_neq, cmp_lss, cmp_leq, cmp_gtr, cmp_geq, intBinR, decide_eq_true_eq, decide_eq_false_iff_not, SI.val, SB.val, Num.eta, Iv.eta] at *; rw [eN] at *; rw [sub_all (by omega)]; first | exact (fin ‹_›).1 | omega))))
    | fail)
  case hK => subst hE; simp only [NatCast.natCast, Int.ofNat_eq_natCast, realE, cmp_eql, cmp_neq, cmp_lss, cmp_leq, cmp_gtr, cmp_geq, intBinR, decide_eq_true_eq, decide_eq_false_iff_not, SI.val, SB.val, Num.eta, Iv.eta] at *; rw [‹t = _›, eN, sub_all (by omega), (fin (by rw [← eN]; assumption)).2]
  all_goals (try refine ⟨(E.bin .add .i64 i 1, _), ?_, ?_, stLe rfl ?_⟩)
  all_goals (try ((repeat' (first | exact t_nil | apply t_cons | exact u2_sli | exact u2_int | exact u2_bool | exact u2_ms | exact u2_ptr | exact (rfl : sle2 .s0 .s0))); done))
  all_goals (subst hE)
  all_goals (try (
    have hi : i < IntKind.i64.wrap ((x.length : Int) - l) := lss_t ‹_›
    rw [eN] at hi
    first
      | (rw [em, em]; exact (shr_next hx (by omega) n1 n2 h1 hi inv ‹_› el er ‹_› (by first | exact .inr ‹_› | exact .inl ⟨lss_f ‹_›, rfl⟩) rfl).2.2.1)
      | (rw [eok]; have q := shr_next hx (by omega) n1 n2 h1 hi inv ‹_› el er ‹_› (by first | exact .inr ‹_› | exact .inl ⟨lss_f ‹_›, rfl⟩) rfl; exact ⟨q.1, q.2.1, q.2.2.2⟩)))
  all_goals (clear inv eok em fin er el e32 big; simp only [NatCast.natCast, Int.ofNat_eq_natCast, realE, cmp_eql, cmp_neq, cmp_lss, cmp_leq, cmp_gtr, cmp_geq, intBinR, decide_eq_true_eq, decide_eq_false_iff_not, SI.val, SB.val, Num.eta, Iv.eta] at *; (try rw [eN] at *); clear eN; (try simp only [wi64] at *); omega)

end Go.Proofs.Ytincnfjihffllaa.Ev

/- Contracts: how many bits limbs have; a short division. Printed by gen.py. -/
namespace Go.Proofs.Ytincnfjihffllaa.Ev
open Go Go.Proofs
set_option linter.unusedVariables false
set_option linter.unusedSimpArgs false


attribute [local irreducible] Lb
theorem c_natLen (a : List Int) (ha : Lb a) (hla : a.length < 67108864) : ∃ t : Int, t = blen (lv a) ∧ CallsA Try.prog 85 [.sli .u32 a] (.int .i64 (.s t)) := by
  refine ⟨_, rfl, ?_⟩
  generalize hr : blen (lv a : Int) = r
  have hlx := lim_length_le' ha
  have hx := lim_lb (lv a)
  have vx := lv_lim (lv a)
  have lx := (lim_cn (lv a)).last
  obtain ⟨x, ex⟩ : ∃ x, lim (lv a) = x := ⟨_, rfl⟩
  rw [ex] at hlx hx vx lx
  have k1 : x.length = 0 → r = 0 := by
    intro h
    have : x = [] := List.length_eq_zero_iff.1 h
    rw [this] at vx
    rw [← hr, ← vx]; rfl
  have k2 : ¬ (x.length : Int) = 0 → ∀ t : Int, t = blen (x.getD (intBinR .sub .i64 x.length 1).toNat 0) → r = intBinR .add .i64 (intBinR .mul .i64 32 (intBinR .sub .i64 x.length 1)) t := by
    intro h t ht
    have hne : x ≠ [] := by intro e; rw [e] at h; simp at h
    have := blen_len hx hne (lx hne)
    have e1 : intBinR .sub .i64 x.length 1 = (x.length : Int) - 1 := by show IntKind.i64.wrap _ = _; rw [wi64_id (by omega) (by omega)]
    rw [e1] at ht ⊢
    have e2 : intBinR .mul .i64 32 ((x.length : Int) - 1) = 32 * ((x.length : Int) - 1) := by show IntKind.i64.wrap _ = _; rw [wi64_id (by omega) (by omega)]
    rw [e2, ← hr, ← vx, this]
    rw [show ((x.length : Int) - 1).toNat = x.length - 1 by omega] at ht
    have hg := hx.getD (x.length - 1)
    have b1 := blen_nonneg (x.getD (x.length - 1) 0)
    have b2 := blen_le 32 (x := x.getD (x.length - 1) 0) (by omega)
    rw [ht]
    show _ = IntKind.i64.wrap _
    rw [wi64_id (by omega) (by omega)]
  refine callsA_of hG hm Try.func85 (by kernel_rfl) ?_
  intro E hE lp hl
  cbv
  (apply E_callX hE (c_cut a ha (by omega)); (case hf => rfl); (case hc => (cbv <;> trivial)); (case hle => exact ⟨u2_sli, trivial⟩); intro x' hx'; cbv)
  rw [hx'.trans ex]
  clear hx' x'
  repeat' (first
    | (refine E_br hE (fun h => ?_) (fun h => ?_) <;> cbv)
    | (refine E_nm hE (fun v hv => ?_); cbv)
    | (refine E_nilS hE (fun b hb => ?_); cbv)
    | (apply E_callX hE (c_Len32 _ ?_ ?_); (case hf => rfl); (case hc => (cbv <;> trivial)); (case hle => (repeat' (first | exact u_nil | apply u_cons | apply u2_agg | exact u2_int | exact u1_int | exact u2_bool | exact u1_bool | exact u2_sli | exact u1_sli | exact u2_s0 | exact u1_s0))); all_goals (first | (intro t ht; cbv) | ((subst hE; first | exact (hx.getD _).1 | exact (hx.getD _).2))))
    | fail)
  all_goals (try (subst hE; first | exact (k1 (by have := eql_t h; simp only [realE] at this; omega)).symm | exact hv.trans (k2 (eql_f ‹_›) t ht).symm))
  all_goals (clear k1 k2 hr; subst hE; simp only [NatCast.natCast, Int.ofNat_eq_natCast, realE, cmp_eql, cmp_neq, cmp_lss, cmp_leq, cmp_gtr, cmp_geq, intBinR, decide_eq_true_eq, decide_eq_false_iff_not, SI.val, SB.val, Num.eta, Iv.eta] at *; (try simp only [wi64] at *); omega)

theorem short_next {a q : List Int} {d i k left j : Int} (ha : Lb a) (hla : a.length < 67108864) (hd : d < 4294967296) (h1 : 0 ≤ i) (h2 : i < a.length)
    (inv : ShortInv a q d (a.length - i.toNat) left) {i' : Int} (ei : i' = i) (ek : k = intBinR .sub .i64 (intBinR .sub .i64 a.length 1) i') (ej : j = intBinR .add .i64 i 1) {t : Int × Int}
    (et : t = ((left * 4294967296 + a.getD k.toNat 0) / d, (left * 4294967296 + a.getD k.toNat 0) % d)) {t2 : Int} (e2 : t2 = t.2) :
    0 ≤ j ∧ j ≤ a.length ∧ ((a.length : Int) - j).toNat < ((a.length : Int) - i).toNat ∧ ShortInv a (q.set k.toNat t.1) d (a.length - j.toNat) t2 := by
  subst ei
  have ej' : j = i' + 1 := by rw [ej]; show IntKind.i64.wrap (i' + 1) = _; rw [wi64_id (by omega) (by omega)]
  have ek' : k = a.length - 1 - i' := by
    rw [ek]; show IntKind.i64.wrap (IntKind.i64.wrap ((a.length : Int) - 1) - i') = _
    rw [wi64_id (n := (a.length : Int) - 1) (by omega) (by omega), wi64_id (by omega) (by omega)]
  rw [show a.length - i'.toNat = k.toNat + 1 by omega] at inv
  have st := inv.step ha hd (by omega)
  rw [e2, et, show a.length - j.toNat = k.toNat by omega]
  exact ⟨by omega, by omega, by omega, st⟩

def shortS (E : Env) (a : List Int) (d : Int) : Int × Int × List Int → St := fun p => ⟨[(0, .sli .u32 a), (1, .int .u32 (.s d)), (4, .ms 0 1 (.l 0) (.s (E.len a))), (6, .int .u32 (.s p.2.1)), (13, .int .i64 (.s (E.len a))), (14, .int .i64 (.s p.1))], [.ints true .u32 p.2.2]⟩
set_option maxHeartbeats 1000000 in
theorem c_short (a : List Int) (d : Int) (ha : Lb a) (hla : a.length < 67108864) (hd0 : 0 < d) (hd : d < 4294967296) : ∃ t : List Int × List Int, t = (lim (lv a / d.toNat), lim (lv a % d.toNat)) ∧ CallsA Try.prog 153 [.sli .u32 a, .int .u32 (.s d)] (.tup [.sli .u32 t.1, .sli .u32 t.2]) := by
  refine ⟨_, rfl, ?_⟩
  generalize hr : (lim (lv a / d.toNat), lim (lv a % d.toNat)) = r
  obtain ⟨m, em⟩ : ∃ m : Int × Int × List Int → Nat, ∀ p, m p = (a.length - p.1).toNat := ⟨_, fun _ => rfl⟩
  obtain ⟨ok, eok⟩ : ∃ ok : Int × Int × List Int → Prop, ∀ p, ok p ↔ 0 ≤ p.1 ∧ p.1 ≤ a.length ∧ ShortInv a p.2.2 d (a.length - p.1.toNat) p.2.1 := ⟨_, fun _ => Iff.rfl⟩
  refine callsA_of hG hm Try.func153 (by kernel_rfl) ?_
  intro E hE lp hl
  cbv
  repeat' (first
    | (refine E_br hE (fun h => ?_) (fun h => ?_) <;> cbv)
    | (refine E_nm hE (fun v hv => ?_); cbv)
    | (refine E_nilS hE (fun b hb => ?_); cbv)
    | fail)
  all_goals (try (exfalso; subst hE; simp only [NatCast.natCast, Int.ofNat_eq_natCast, realE, cmp_eql, cmp_neq, cmp_lss, cmp_leq, cmp_gtr, cmp_geq, intBinR, decide_eq_true_eq, decide_eq_false_iff_not, SI.val, SB.val, Num.eta, Iv.eta] at *; omega))
  refine E_loop hE hG hm hl (shortS E a d) m ok ⟨(0, 0, E.rep (E.len a)), (eok _).2 ?_, stLe rfl ?_⟩ ?_
  · refine ⟨by show (0 : Int) ≤ 0; omega, by show (0 : Int) ≤ a.length; omega, ?_⟩
    have := ShortInv.start a hd0
    subst hE; simp only [NatCast.natCast, Int.ofNat_eq_natCast, realE, cmp_eql, cmp_neq, cmp_lss, cmp_leq, cmp_gtr, cmp_geq, intBinR, decide_eq_true_eq, decide_eq_false_iff_not, SI.val, SB.val, Num.eta, Iv.eta] at *
    exact this
  · (repeat' (first | exact t_nil | apply t_cons | exact u2_sli | exact u2_int | exact u2_bool | exact u2_ms | exact u2_ptr | exact (rfl : sle2 .s0 .s0)))
  rintro ⟨i, left, q⟩ hok
  have h1 : 0 ≤ i := ((eok _).1 hok).1
  have h2 : i ≤ a.length := ((eok _).1 hok).2.1
  have inv : ShortInv a q d (a.length - i.toNat) left := ((eok _).1 hok).2.2
  have hol := inv.len
  have l0 := inv.l0
  have l1 := inv.l1
  have lq : Lb q := inv.lb
  have ll : Lb [left] := Lb.cons l0 (by omega) Lb.nil
  have fin : ¬ i < a.length → (lim (lv q), lim (lv [left])) = r := by
    intro h
    rw [show a.length - i.toNat = 0 by omega] at inv
    obtain ⟨f1, f2⟩ := inv.stop
    rw [← hr, f1]
    congr 2
    simp only [lv]
    omega
  clear hok hr
  cbv
  repeat' (first
    | (refine E_br hE (fun h => ?_) (fun h => ?_) <;> cbv)
    | (refine E_nm hE (fun v hv => ?_); cbv)
    | (refine E_nilS hE (fun b hb => ?_); cbv)
    | (apply E_callX hE (c_Div32 _ _ _ ?_ ?_ ?_ ?_ ?_ ?_ ?_); (case hf => rfl); (case hc => (cbv <;> trivial)); (case hle => (repeat' (first | exact u_nil | apply u_cons | apply u2_agg | exact u2_int | exact u1_int | exact u2_bool | exact u1_bool | exact u2_sli | exact u1_sli | exact u2_s0 | exact u1_s0))); all_goals (first | (intro t ht; cbv) | (((try simp only [SI.val]); first | omega | (subst hE; first | exact (ha.getD _).1 | exact (ha.getD _).2)))))
    | (apply E_callX hE (c_cut _ ?_ ?_); (case hf => rfl); (case hc => (cbv <;> trivial)); (case hle => (repeat' (first | exact u_nil | apply u_cons | apply u2_agg | exact u2_int | exact u1_int | exact u2_bool | exact u1_bool | exact u2_sli | exact u1_sli | exact u2_s0 | exact u1_s0))); all_goals (first | (intro t ht; cbv) | ((subst hE; first | exact ll | (simp only [NatCast.natCast, Int.ofNat_eq_natCast, realE, cmp_eql, cmp_neq, cmp_lss, cmp_leq, cmp_gtr, cmp_geq, intBinR, decide_eq_true_eq, decide_eq_false_iff_not, SI.val, SB.val, Num.eta, Iv.eta] at *; (try rw [sub_all (by omega)]); first | assumption | omega | (simp; done))))))
    | fail)
  all_goals (try refine ⟨(E.bin .add .i64 i 1, v, E.set q _ t.1), ?_, ?_, stLe rfl ?_⟩)
  all_goals (try ((repeat' (first | exact t_nil | apply t_cons | exact u2_sli | exact u2_int | exact u2_bool | exact u2_ms | exact u2_ptr | exact (rfl : sle2 .s0 .s0))); done))
  all_goals (subst hE)
  all_goals (try (first | (rw [em, em]; exact (short_next ha hla hd h1 (lss_t ‹_›) inv ‹_ = i› ‹_› rfl ‹t = _› ‹_›).2.2.1) | (rw [eok]; have q := short_next ha hla hd h1 (lss_t ‹_›) inv ‹_ = i› ‹_› rfl ‹t = _› ‹_›; exact ⟨q.1, q.2.1, q.2.2.2⟩)))
  case refine_1.refine_1.refine_1.refine_3.refine_2.hK.hK => have f := fin (lss_f ‹_›); rename_i q' hq'; rw [← f]; simp only [NatCast.natCast, Int.ofNat_eq_natCast, realE, cmp_eql, cmp_neq, cmp_lss, cmp_leq, cmp_gtr, cmp_geq, intBinR, decide_eq_true_eq, decide_eq_false_iff_not, SI.val, SB.val, Num.eta, Iv.eta] at *; refine ⟨?_, ‹_ = _›, trivial⟩; rw [hq', sub_all (by omega)]
  all_goals (clear inv eok em fin; simp only [NatCast.natCast, Int.ofNat_eq_natCast, realE, cmp_eql, cmp_neq, cmp_lss, cmp_leq, cmp_gtr, cmp_geq, intBinR, decide_eq_true_eq, decide_eq_false_iff_not, SI.val, SB.val, Num.eta, Iv.eta] at *; (try simp only [wi64] at *); omega)

end Go.Proofs.Ytincnfjihffllaa.Ev

/- Contracts: the guess of a limb of a quotient. Printed by gen.py. -/
namespace Go.Proofs.Ytincnfjihffllaa.Ev
open Go Go.Proofs
set_option linter.unusedVariables false
set_option linter.unusedSimpArgs false


def guessS (r2 r1 r0 d1 d0 t : Int) : Int × Int → St := fun p => ⟨[(0, .int .u32 (.s r2)), (1, .int .u32 (.s r1)), (2, .int .u32 (.s r0)), (3, .int .u32 (.s d1)), (4, .int .u32 (.s d0)), (11, .int .u64 (.s t)), (12, .int .u64 (.s p.1)), (13, .int .u64 (.s p.2))], []⟩
theorem c_guess (r2 r1 r0 d1 d0 : Int) (I : GuessIn r2 r1 r0 d1 d0) : ∃ t : Int, t = guessQ r2 r1 r0 d1 d0 ∧ CallsA Try.prog 155 [.int .u32 (.s r2), .int .u32 (.s r1), .int .u32 (.s r0), .int .u32 (.s d1), .int .u32 (.s d0)] (.int .u32 (.s t)) := by
  refine ⟨_, rfl, ?_⟩
  generalize hr : guessQ r2 r1 r0 d1 d0 = r
  obtain ⟨m, em⟩ : ∃ m : Int × Int → Nat, ∀ p, m p = p.1.toNat := ⟨_, fun _ => rfl⟩
  obtain ⟨ok, eok⟩ : ∃ ok : Int × Int → Prop, ∀ p, ok p ↔ GuessInv r2 r1 r0 d1 d0 p.1 p.2 := ⟨_, fun _ => Iff.rfl⟩
  have hd := I.d1b
  refine callsA_of hG hm Try.func155 (by kernel_rfl) ?_
  intro E hE lp hl
  cbv
  repeat' (first
    | (refine E_br hE (fun h => ?_) (fun h => ?_) <;> cbv)
    | (refine E_nm hE (fun v hv => ?_); cbv)
    | (refine E_nilS hE (fun b hb => ?_); cbv)
    | fail)
  · subst hE; have h' : IntKind.u64.wrap d1 = 0 := eql_t h; rw [wu64_id (by omega) (by omega)] at h'; omega
  · subst hE; have h' : IntKind.u64.wrap d1 = 0 := eql_t h; rw [wu64_id (by omega) (by omega)] at h'; omega
  rename_i t et _ q eq
  refine E_loop hE hG hm hl (guessS r2 r1 r0 d1 d0 t) m ok ⟨(q, v), (eok _).2 ?_, stLe rfl ?_⟩ ?_
  · subst hE; exact guess_start I et eq hv
  · (repeat' (first | exact t_nil | apply t_cons | exact u2_sli | exact u2_int | exact u2_bool | exact u2_ms | exact u2_ptr | exact (rfl : sle2 .s0 .s0)))
  clear eq hv et
  rintro ⟨q, left⟩ hok
  have inv : GuessInv r2 r1 r0 d1 d0 q left := (eok _).1 hok
  clear hok
  cbv
  repeat' (first
    | (refine E_br hE (fun h => ?_) (fun h => ?_) <;> cbv)
    | (refine E_nm hE (fun v hv => ?_); cbv)
    | (refine E_nilS hE (fun b hb => ?_); cbv)
    | fail)
  all_goals (try (rename_i q' eq'; refine ⟨(q', v), ?_, ?_, stLe rfl ?_⟩))
  all_goals (try ((repeat' (first | exact t_nil | apply t_cons | exact u2_sli | exact u2_int | exact u2_bool | exact u2_ms | exact u2_ptr | exact (rfl : sle2 .s0 .s0))); done))
  all_goals (subst hE)
  all_goals (first
    | (rw [em, em]; exact (guess_step I inv (by first | exact .inl (gtr_t ‹_›) | exact .inr ⟨gtr_f ‹_›, gtr_t ‹_›⟩) ‹_› ‹_› (gtr_f ‹_›)).1)
    | (rw [eok]; exact (guess_step I inv (by first | exact .inl (gtr_t ‹_›) | exact .inr ⟨gtr_f ‹_›, gtr_t ‹_›⟩) ‹_› ‹_› (gtr_f ‹_›)).2)
    | (rw [← hr, hv]; exact guess_brk I inv (by first | exact .inl (gtr_t ‹_›) | exact .inr ⟨gtr_f ‹_›, gtr_t ‹_›⟩) ‹_› ‹_› (gtr_t ‹_›))
    | (rw [← hr, hv]; exact guess_done I inv (gtr_f ‹_›) (gtr_f ‹_›)))

end Go.Proofs.Ytincnfjihffllaa.Ev

/- Contracts: a guess times the divisor taken away, and given back: both write the caller's memory. Printed by gen.py. -/
namespace Go.Proofs.Ytincnfjihffllaa.Ev
open Go Go.Proofs
set_option linter.unusedVariables false
set_option linter.unusedSimpArgs false


attribute [local irreducible] Lb
def lessS (E : Env) (d z Q : List Int) (q at_ n : Int) : Int × Int × Int × List Int → St := fun p => ⟨[(0, .ms 2 1 (.l 0) (.s n)), (1, .sli .u32 d), (2, .int .u32 (.s q)), (3, .int .i64 (.s at_)), (9, .int .u32 (.s p.2.2.1)), (10, .int .u64 (.s p.2.1)), (14, .sli .u32 d), (15, .int .i64 (.s (E.len d))), (16, .int .i64 (.s p.1))],
  [.dead, .ints true .u32 z, .ints true .u32 p.2.2.2, .ints true .u32 Q]⟩
set_option maxHeartbeats 2000000 in
theorem h_less (d z R Q : List Int) (q at_ n : Int) (hd : Lb d) (hR : Lb R) (hq : 0 ≤ q ∧ q < 4294967296) (hlr : R.length < 134217728) (ha : 0 ≤ at_) (hat : at_ + d.length < R.length) (hn : at_ + d.length < n) (hn2 : n ≤ R.length) :
    CallsH Try.prog 156 [.ms 2 1 (.l 0) (.s n), .sli .u32 d, .int .u32 (.s q), .int .i64 (.s at_)] [.dead, .ints true .u32 z, .ints true .u32 R, .ints true .u32 Q]
      (fun v h => ∃ r b, v = .bool (.s b) ∧ h = [.dead, .ints true .u32 z, .ints true .u32 r, .ints true .u32 Q] ∧ LessR R d q at_.toNat r b) := by
  obtain ⟨m, em⟩ : ∃ m : Int × Int × Int × List Int → Nat, ∀ p, m p = (d.length - p.1).toNat := ⟨_, fun _ => rfl⟩
  obtain ⟨ok, eok⟩ : ∃ ok : Int × Int × Int × List Int → Prop, ∀ p, ok p ↔ 0 ≤ p.1 ∧ p.1 ≤ d.length ∧ LessInv R d q at_.toNat p.2.2.2 p.1.toNat p.2.1 p.2.2.1 := ⟨_, fun _ => Iff.rfl⟩
  refine callsH_of hG hm Try.func156 (by kernel_rfl) ?_
  intro E hE lp hl
  cbv
  repeat' (first
    | (refine E_br hE (fun h => ?_) (fun h => ?_) <;> cbv)
    | (refine E_nm hE (fun v hv => ?_); cbv)
    | (refine E_nilS hE (fun b hb => ?_); cbv)
    | fail)
  refine E_loop hE hG hm hl (lessS E d z Q q at_ n) m ok ⟨(0, 0, 0, R), (eok _).2 ⟨by show (0 : Int) ≤ 0; omega, by show (0 : Int) ≤ d.length; omega, LessInv.start d q at_.toNat hR⟩, stLe rfl ?_⟩ ?_
  · (repeat' (first | exact t_nil | apply t_cons | exact u2_sli | exact u2_int | exact u2_bool | exact u2_ms | exact u2_ptr | exact (rfl : sle2 .s0 .s0)))
  rintro ⟨i, carry, borrow, r⟩ hok
  have h1 : 0 ≤ i := ((eok _).1 hok).1
  have h2 : i ≤ d.length := ((eok _).1 hok).2.1
  have inv : LessInv R d q at_.toNat r i.toNat carry borrow := ((eok _).1 hok).2.2
  have lr := inv.lb
  have hol := inv.len
  have b0 := inv.b0
  have b1 := inv.b1
  have w1 : ∀ x : Int, 0 ≤ IntKind.u32.wrap x := fun x => by rw [wu32]; omega
  have w2 : ∀ x : Int, IntKind.u32.wrap x < 4294967296 := fun x => by rw [wu32]; omega
  clear hok
  cbv
  repeat' (first
    | (refine E_br hE (fun h => ?_) (fun h => ?_) <;> cbv)
    | (refine E_nm hE (fun v hv => ?_); cbv)
    | (refine E_nilS hE (fun b hb => ?_); cbv)
    | (apply E_callX hE (c_Sub32 _ _ _ ?_ ?_ ?_ ?_ ?_ ?_); (case hf => rfl); (case hc => (cbv <;> trivial)); (case hle => (repeat' (first | exact u_nil | apply u_cons | apply u2_agg | exact u2_int | exact u1_int | exact u2_bool | exact u1_bool | exact u2_sli | exact u1_sli | exact u2_s0 | exact u1_s0))); all_goals (first | (intro t ht; cbv) | (((try simp only [SI.val]); first | omega | (subst hE; first | exact (lr.getD _).1 | exact (lr.getD _).2 | exact w1 _ | exact w2 _)))))
    | fail)
  all_goals (try (rename_i c' ec _ _ _; refine ⟨(E.bin .add .i64 i 1, c', v, E.set r (E.bin .add .i64 at_ _) t.1), ?_, ?_, stLe rfl ?_⟩))
  all_goals (try ((repeat' (first | exact t_nil | apply t_cons | exact u2_sli | exact u2_int | exact u2_bool | exact u2_ms | exact u2_ptr | exact (rfl : sle2 .s0 .s0))); done))
  all_goals (subst hE)
  all_goals (try (first
    | (rw [em, em]; exact (less_next hd hq hlr h1 (lss_t ‹_›) ha hat inv ‹_ = i› ‹_› ‹_› ‹t = _› ‹_› rfl ‹_›).2.2.1)
    | (rw [eok]; have q := less_next hd hq hlr h1 (lss_t ‹_›) ha hat inv ‹_ = i› ‹_› ‹_› ‹t = _› ‹_› rfl ‹_›; exact ⟨q.1, q.2.1, q.2.2.2⟩)
    | exact ⟨_, _, rfl, rfl, less_stop hlr h2 (lss_f ‹_›) ha hat inv ‹t = _› ‹_› rfl⟩))
  all_goals (clear inv eok em w1 w2; simp only [NatCast.natCast, Int.ofNat_eq_natCast, realE, cmp_eql, cmp_neq, cmp_lss, cmp_leq, cmp_gtr, cmp_geq, intBinR, decide_eq_true_eq, decide_eq_false_iff_not, SI.val, SB.val, Num.eta, Iv.eta] at *; (try simp only [wi64] at *); subst_vars; omega)

def moreS (E : Env) (d z Q : List Int) (at_ n : Int) : Int × Int × List Int → St := fun p => ⟨[(0, .ms 2 1 (.l 0) (.s n)), (1, .sli .u32 d), (2, .int .i64 (.s at_)), (6, .int .u32 (.s p.2.1)), (9, .sli .u32 d), (10, .int .i64 (.s (E.len d))), (11, .int .i64 (.s p.1))],
  [.dead, .ints true .u32 z, .ints true .u32 p.2.2, .ints true .u32 Q]⟩
set_option maxHeartbeats 2000000 in
theorem h_more (d z R Q : List Int) (at_ n : Int) (hd : Lb d) (hR : Lb R) (hlr : R.length < 134217728) (ha : 0 ≤ at_) (hat : at_ + d.length < R.length) (hn : at_ + d.length < n) (hn2 : n ≤ R.length) :
    CallsH Try.prog 157 [.ms 2 1 (.l 0) (.s n), .sli .u32 d, .int .i64 (.s at_)] [.dead, .ints true .u32 z, .ints true .u32 R, .ints true .u32 Q]
      (fun v h => ∃ r, v = .tup [] ∧ h = [.dead, .ints true .u32 z, .ints true .u32 r, .ints true .u32 Q] ∧ MoreR R d at_.toNat r) := by
  obtain ⟨m, em⟩ : ∃ m : Int × Int × List Int → Nat, ∀ p, m p = (d.length - p.1).toNat := ⟨_, fun _ => rfl⟩
  obtain ⟨ok, eok⟩ : ∃ ok : Int × Int × List Int → Prop, ∀ p, ok p ↔ 0 ≤ p.1 ∧ p.1 ≤ d.length ∧ MoreInv R d at_.toNat p.2.2 p.1.toNat p.2.1 := ⟨_, fun _ => Iff.rfl⟩
  refine callsH_of hG hm Try.func157 (by kernel_rfl) ?_
  intro E hE lp hl
  cbv
  repeat' (first
    | (refine E_br hE (fun h => ?_) (fun h => ?_) <;> cbv)
    | (refine E_nm hE (fun v hv => ?_); cbv)
    | (refine E_nilS hE (fun b hb => ?_); cbv)
    | fail)
  refine E_loop hE hG hm hl (moreS E d z Q at_ n) m ok ⟨(0, 0, R), (eok _).2 ⟨by show (0 : Int) ≤ 0; omega, by show (0 : Int) ≤ d.length; omega, MoreInv.start d at_.toNat hR⟩, stLe rfl ?_⟩ ?_
  · (repeat' (first | exact t_nil | apply t_cons | exact u2_sli | exact u2_int | exact u2_bool | exact u2_ms | exact u2_ptr | exact (rfl : sle2 .s0 .s0)))
  rintro ⟨i, c, r⟩ hok
  have h1 : 0 ≤ i := ((eok _).1 hok).1
  have h2 : i ≤ d.length := ((eok _).1 hok).2.1
  have inv : MoreInv R d at_.toNat r i.toNat c := ((eok _).1 hok).2.2
  have lr := inv.lb
  have hol := inv.len
  have c0 := inv.c0
  have c1 := inv.c1
  have g1 : ∀ v, v = E.get d i → 0 ≤ v := by subst hE; intro v e; rw [e]; exact (hd.getD _).1
  have g2 : ∀ v, v = E.get d i → v < 4294967296 := by subst hE; intro v e; rw [e]; exact (hd.getD _).2
  clear hok
  cbv
  repeat' (first
    | (refine E_br hE (fun h => ?_) (fun h => ?_) <;> cbv)
    | (refine E_nm hE (fun v hv => ?_); cbv)
    | (refine E_nilS hE (fun b hb => ?_); cbv)
    | (apply E_callX hE (c_Add32 _ _ _ ?_ ?_ ?_ ?_ ?_ ?_); (case hf => rfl); (case hc => (cbv <;> trivial)); (case hle => (repeat' (first | exact u_nil | apply u_cons | apply u2_agg | exact u2_int | exact u1_int | exact u2_bool | exact u1_bool | exact u2_sli | exact u1_sli | exact u2_s0 | exact u1_s0))); all_goals (first | (intro t ht; cbv) | (((try simp only [SI.val]); first | omega | exact g1 _ ‹_› | exact g2 _ ‹_› | (subst hE; first | exact (lr.getD _).1 | exact (lr.getD _).2)))))
    | fail)
  all_goals (try (refine ⟨(E.bin .add .i64 i 1, v, E.set r (E.bin .add .i64 at_ _) t.1), ?_, ?_, stLe rfl ?_⟩))
  all_goals (try ((repeat' (first | exact t_nil | apply t_cons | exact u2_sli | exact u2_int | exact u2_bool | exact u2_ms | exact u2_ptr | exact (rfl : sle2 .s0 .s0))); done))
  all_goals (subst hE)
  all_goals (try (first
    | (rw [em, em]; exact (more_next hd hlr h1 (lss_t ‹_›) ha hat inv ‹_ = i› ‹_› ‹t = _› ‹_› rfl).2.2.1)
    | (rw [eok]; have q := more_next hd hlr h1 (lss_t ‹_›) ha hat inv ‹_ = i› ‹_› ‹t = _› ‹_› rfl; exact ⟨q.1, q.2.1, q.2.2.2⟩)
    | exact ⟨_, rfl, rfl, more_stop hlr h2 (lss_f ‹_›) ha hat inv rfl⟩))
  all_goals (clear inv eok em g1 g2; simp only [NatCast.natCast, Int.ofNat_eq_natCast, realE, cmp_eql, cmp_neq, cmp_lss, cmp_leq, cmp_gtr, cmp_geq, intBinR, decide_eq_true_eq, decide_eq_false_iff_not, SI.val, SB.val, Num.eta, Iv.eta] at *; (try simp only [wi64] at *); subst_vars; omega)
  all_goals trace_state

end Go.Proofs.Ytincnfjihffllaa.Ev

/- Contracts: limbs shifted, into memory that the caller writes. Printed by gen.py. -/
namespace Go.Proofs.Ytincnfjihffllaa.Ev
open Go Go.Proofs
set_option linter.unusedVariables false
set_option linter.unusedSimpArgs false


attribute [local irreducible] Lb
set_option maxHeartbeats 1000000 in
theorem h_cut (L : List Int) (n : Int) (hL : Lb L) (hl : L.length < 268435456) (hn : n = L.length) :
    CallsH Try.prog 137 [.ms 0 1 (.l 0) (.s n)] [.ints true .u32 L] (fun v h => ∃ k : Int, v = .ms 0 1 (.l 0) (.s k) ∧ h = [.ints true .u32 L] ∧ 0 ≤ k ∧ k ≤ L.length ∧ L.take k.toNat = lim (lv L)) := by
  obtain ⟨m, em⟩ : ∃ m : Int → Nat, ∀ p, m p = p.toNat := ⟨_, fun _ => rfl⟩
  obtain ⟨ok, eok⟩ : ∃ ok : Int → Prop, ∀ p, ok p ↔ 0 ≤ p ∧ p ≤ L.length ∧ lv (L.take p.toNat) = lv L := ⟨_, fun _ => Iff.rfl⟩
  have s0 : 0 ≤ n ∧ n ≤ L.length ∧ lv (L.take n.toNat) = lv L := ⟨by omega, by omega, by rw [hn, Int.toNat_natCast, List.take_length]⟩
  refine callsH_of hG hm Try.func137 (by kernel_rfl) ?_
  intro E hE lp hl'
  cbv
  refine E_loop hE hG hm hl' (fun p : Int => (⟨[(0, .ms 0 1 (.l 0) (.s p)), (2, .s0)], [.ints true .u32 L]⟩ : St)) m ok ⟨n, (eok _).2 s0, stLe rfl ?_⟩ ?_
  · (repeat' (first | exact t_nil | apply t_cons | exact u2_sli | exact u2_int | exact u2_bool | exact u2_ms | exact u2_ptr | exact (rfl : sle2 .s0 .s0)))
  intro k hok
  have h1 : 0 ≤ k := ((eok _).1 hok).1
  have h2 : k ≤ L.length := ((eok _).1 hok).2.1
  have h3 : lv (L.take k.toNat) = lv L := ((eok _).1 hok).2.2
  have next : ∀ j : Int, 0 < k → j = intBinR .sub .i64 k 1 → L.getD j.toNat 0 = 0 → 0 ≤ j ∧ j ≤ L.length ∧ j.toNat < k.toNat ∧ lv (L.take j.toNat) = lv L := by
    intro j h0 hj hz
    have hj' : j = k - 1 := by rw [hj]; exact wi64_id (by omega) (by omega)
    refine ⟨by omega, by omega, by omega, ?_⟩
    rw [show j.toNat = k.toNat - 1 by omega] at hz ⊢
    rw [lv_cut_step (by omega) (by omega) hz, h3]
  have fin : (k = 0 ∨ L.getD (intBinR .sub .i64 k 1).toNat 0 ≠ 0) → L.take k.toNat = lim (lv L) := by
    intro h
    refine cut_end hL (by omega) ?_ h3
    rcases h with h | h
    · exact .inl (by omega)
    · rcases Int.lt_or_le 0 k with h0 | h0
      · have e : intBinR .sub .i64 k 1 = k - 1 := wi64_id (by omega) (by omega)
        rw [e, show (k - 1).toNat = k.toNat - 1 by omega] at h
        exact .inr h
      · exact .inl (by omega)
  clear hok
  cbv
  repeat' (first
    | (refine E_br hE (fun h => ?_) (fun h => ?_) <;> cbv)
    | (refine E_nm hE (fun v hv => ?_); cbv)
    | (refine E_nilS hE (fun b hb => ?_); cbv)
    | fail)
  all_goals (try (refine ⟨E.bin .sub .i64 k 1, ?_, ?_, stLe rfl ?_⟩))
  all_goals (try ((repeat' (first | exact t_nil | apply t_cons | exact u2_sli | exact u2_int | exact u2_bool | exact u2_ms | exact u2_ptr | exact (rfl : sle2 .s0 .s0))); done))
  all_goals (subst hE)
  all_goals (try (first
    | (rw [em, em]; exact (next _ (gtr_t ‹_›) rfl (eql_t ‹_›)).2.2.1)
    | (rw [eok]; have q := next _ (gtr_t ‹_›) rfl (eql_t ‹_›); exact ⟨q.1, q.2.1, q.2.2.2⟩)
    | exact ⟨k, rfl, rfl, h1, h2, fin (.inr (eql_f ‹_›))⟩
    | exact ⟨k, rfl, rfl, h1, h2, fin (.inl (by have := gtr_f ‹_›; omega))⟩))
  all_goals (clear next fin eok em s0; simp only [NatCast.natCast, Int.ofNat_eq_natCast, realE, cmp_eql, cmp_neq, cmp_lss, cmp_leq, cmp_gtr, cmp_geq, intBinR, decide_eq_true_eq, decide_eq_false_iff_not, SI.val, SB.val, Num.eta, Iv.eta] at *; (try simp only [wi64] at *); omega)

theorem h_Clone (a : List Int) (ha : 0 < a.length) (hl : a.length ≤ 268435456) :
    CallsH Try.prog 142 [.sli .u32 a] [] (fun v h => ∃ L k, v = .ms 0 1 (.l 0) (.s k) ∧ h = [.ints true .u32 L] ∧ k = (a.length : Int) ∧ L = a) := by
  refine callsH_named (callsH_of (K := fun v h => ∃ L k, v = .ms 1 1 (.l 0) (.s k) ∧ h = [.dead, .ints true .u32 L] ∧ k = (a.length : Int) ∧ L = a) hG hm Try.func142 (by kernel_rfl) ?_) ?_
  · intro E hE lp hl'
    cbv
    repeat' (first
    | (refine E_br hE (fun h => ?_) (fun h => ?_) <;> cbv)
    | (refine E_nm hE (fun v hv => ?_); cbv)
    | (refine E_nilS hE (fun b hb => ?_); cbv)
    | fail)
    all_goals (subst hE)
    · exfalso; have := hb h; simp only [realE] at this; omega
    · exact ⟨_, _, rfl, rfl, rfl, rfl⟩
    · have := leq_f h; simp only [realE] at this; omega
  · rintro v h ⟨L, k, rfl, rfl, hk, hL⟩
    exact ⟨[1], .ms 0 1 (.l 0) (.s k), [.ints true .u32 L], ⟨⟨rfl, trivial⟩, rfl, rfl, Nat.zero_le _, trivial, ms_le rfl rfl, rfl⟩, L, k, rfl, rfl, hk, hL⟩
set_option maxHeartbeats 1000000 in
theorem h_Shl (a : List Int) (n : Int) (ha : Lb a) (hla : a.length < 67108864) (ha0 : 0 < lv a) (hn0 : 0 ≤ n) (hn1 : n ≤ 16777216) :
    CallsH Try.prog 75 [.sli .u32 a, .int .i64 (.s n)] [] (fun v h => ∃ L k, v = .ms 0 1 (.l 0) (.s k) ∧ h = [.ints true .u32 L] ∧ 0 ≤ k ∧ k ≤ L.length ∧ L.take k.toNat = lim (lv a * 2 ^ n.toNat) ∧ L.length ≤ 134217728) := by
  generalize hr : lim (lv a * 2 ^ n.toNat) = r
  have hlx := lim_length_le' ha
  have hx := lim_lb (lv a)
  have vx := lv_lim (lv a)
  obtain ⟨x, ex⟩ : ∃ x, lim (lv a) = x := ⟨_, rfl⟩
  rw [ex] at hlx hx vx
  have hx0 : 0 < x.length := by
    rcases Nat.eq_zero_or_pos x.length with h | h
    · rw [List.length_eq_zero_iff.1 h] at vx; simp only [lv] at vx; omega
    · exact h
  obtain ⟨m, em⟩ : ∃ m : Int × List Int → Nat, ∀ p, m p = (x.length - p.1).toNat := ⟨_, fun _ => rfl⟩
  obtain ⟨ok, eok⟩ : ∃ ok : Int × List Int → Prop, ∀ p, ok p ↔ 0 ≤ p.1 ∧ p.1 ≤ x.length ∧ ShlInv x p.2 (n / 32).toNat (n % 32).toNat p.1.toNat := ⟨_, fun _ => Iff.rfl⟩
  have eN : ∀ l : Int, 1 ≤ n → n ≤ 16777216 → l = intBinR .quo .i64 n 32 → IntKind.i64.wrap (IntKind.i64.wrap ((x.length : Int) + l) + 1) = x.length + n / 32 + 1 := by
    intro l n1 n2 el
    have : l = n / 32 := by rw [el]; exact quo32 (by omega) (by omega)
    rw [this, wi64_id (n := (x.length : Int) + n / 32) (by omega) (by omega), wi64_id (by omega) (by omega)]
  refine callsH_of hG hm Try.func75 (by kernel_rfl) ?_
  intro E hE lp hl
  cbv
  (apply E_callX hE (c_cut a ha (by omega)); (case hf => rfl); (case hc => (cbv <;> trivial)); (case hle => exact ⟨u2_sli, trivial⟩); intro x' hx'; cbv)
  rw [hx'.trans ex]
  clear hx' x'
  refine E_br hE (fun h => ?_) (fun h => ?_)
  · have e : x = r := by subst hE; have := lss_t h; rw [← hr, show n.toNat = 0 by omega, Nat.pow_zero, Nat.mul_one, ex]
    cbv
    refine E_callH hE (h_Clone x hx0 (by omega)) ?_
    rintro v h1 ⟨L, k, rfl, rfl, hk, hL⟩
    cbv
    exact ⟨L, k, rfl, rfl, by rw [hk]; exact Int.natCast_nonneg _, by rw [hk, hL]; exact Int.le_refl _, by rw [hk, hL, Int.toNat_natCast, List.take_length]; exact e, by rw [hL]; omega⟩
  have n1 : 1 ≤ n := by subst hE; have := lss_f h; omega
  cbv
  repeat' (first
    | (refine E_br hE (fun h => ?_) (fun h => ?_) <;> cbv)
    | (refine E_nm hE (fun v hv => ?_); cbv)
    | (refine E_nilS hE (fun b hb => ?_); cbv)
    | fail)
  · exfalso; subst hE; have := gtr_t ‹_›; omega
  · exfalso
    have e0 : x.length = 0 := by subst hE; have := eql_t h; simp only [realE] at this; omega
    omega
  all_goals (have n2 : n ≤ 16777216 := (by subst hE; have := gtr_f ‹(realE Try.prog).cmp .gtr n 16777216 = false›; omega))
  all_goals (try (exfalso; have := eN _ n1 n2 (by subst hE; assumption); subst hE; simp only [NatCast.natCast, Int.ofNat_eq_natCast, realE, cmp_eql, cmp_neq, cmp_lss, cmp_leq, cmp_gtr, cmp_geq, intBinR, decide_eq_true_eq, decide_eq_false_iff_not, SI.val, SB.val, Num.eta, Iv.eta] at *; rw [this] at *; omega))
  rename_i l el _ _
  replace eN := eN l n1 n2 (by subst hE; exact el)
  simp only [NatCast.natCast, Int.ofNat_eq_natCast] at eN
  have er := hv
  have l1 : l = n / 32 := by subst hE; rw [el]; exact quo32 (by omega) (by omega)
  have r1 : 0 ≤ v := by
    have : v = n % 32 := by subst hE; rw [hv]; exact rem32 (by omega)
    omega
  clear hv
  refine E_loop hE hG hm hl (shlS E x l v) m ok ⟨(0, E.rep (E.bin .add .i64 (E.bin .add .i64 (E.len x) l) 1)), (eok _).2 ?_, stLe rfl ?_⟩ ?_
  · refine ⟨by show (0 : Int) ≤ 0; omega, by show (0 : Int) ≤ x.length; omega, ?_⟩
    have := ShlInv.start x (n / 32).toNat (n % 32).toNat
    subst hE; simp only [NatCast.natCast, Int.ofNat_eq_natCast, realE, cmp_eql, cmp_neq, cmp_lss, cmp_leq, cmp_gtr, cmp_geq, intBinR, decide_eq_true_eq, decide_eq_false_iff_not, SI.val, SB.val, Num.eta, Iv.eta] at *; rw [eN, show ((x.length : Int) + n / 32 + 1).toNat = x.length + (n / 32).toNat + 1 by omega]
    exact this
  · (repeat' (first | exact t_nil | apply t_cons | exact u2_sli | exact u2_int | exact u2_bool | exact u2_ms | exact u2_ptr | exact (rfl : sle2 .s0 .s0)))
  rintro ⟨i, out⟩ hok
  have h1 : 0 ≤ i := ((eok _).1 hok).1
  have h2 : i ≤ x.length := ((eok _).1 hok).2.1
  have inv : ShlInv x out (n / 32).toNat (n % 32).toNat i.toNat := ((eok _).1 hok).2.2
  have hol := inv.len
  have fin : ¬ i < x.length → lim (lv out) = r := by
    intro h
    have inv' := inv
    rw [show i.toNat = x.length by omega] at inv'
    rw [inv'.stop, ← hr, vx, show 32 * (n / 32).toNat + (n % 32).toNat = n.toNat by omega]
  have lo := inv.lb
  have hol2 : out.length ≤ 134217728 := by omega
  have eNN : E.bin .add .i64 (E.bin .add .i64 (E.len x) l) 1 = (out.length : Int) := by
    subst hE; show IntKind.i64.wrap (IntKind.i64.wrap ((x.length : Int) + l) + 1) = _; rw [eN]; omega
  clear hok hr ex
  cbv
  repeat' (first
    | (refine E_br hE (fun h => ?_) (fun h => ?_) <;> cbv)
    | (refine E_nm hE (fun v hv => ?_); cbv)
    | (refine E_nilS hE (fun b hb => ?_); cbv)
    | fail)
  all_goals (try (
    refine E_callH hE (h_cut out (E.bin .add .i64 (E.bin .add .i64 (E.len x) l) 1) lo (by omega) eNN) ?_
    rintro v h1 ⟨k, rfl, rfl, k1, k2, k3⟩
    cbv
    exact ⟨out, k, rfl, rfl, k1, k2, k3.trans (fin (by subst hE; exact lss_f ‹_›)), hol2⟩))
  all_goals (try refine ⟨(E.bin .add .i64 i 1, _), ?_, ?_, stLe rfl ?_⟩)
  all_goals (try ((repeat' (first | exact t_nil | apply t_cons | exact u2_sli | exact u2_int | exact u2_bool | exact u2_ms | exact u2_ptr | exact (rfl : sle2 .s0 .s0))); done))
  all_goals (subst hE)
  all_goals (try (first | (rw [em, em]; exact (shl_next hx (by omega) n1 n2 h1 (lss_t ‹_›) inv ‹_› el er ‹_› ‹_› rfl).2.2.1) | (rw [eok]; have q := shl_next hx (by omega) n1 n2 h1 (lss_t ‹_›) inv ‹_› el er ‹_› ‹_› rfl; exact ⟨q.1, q.2.1, q.2.2.2⟩)))
  all_goals (clear inv eok em fin er el; simp only [NatCast.natCast, Int.ofNat_eq_natCast, realE, cmp_eql, cmp_neq, cmp_lss, cmp_leq, cmp_gtr, cmp_geq, intBinR, decide_eq_true_eq, decide_eq_false_iff_not, SI.val, SB.val, Num.eta, Iv.eta] at *; (try rw [eN] at *); clear eN; (try simp only [wi64] at *); omega)
end Go.Proofs.Ytincnfjihffllaa.Ev
