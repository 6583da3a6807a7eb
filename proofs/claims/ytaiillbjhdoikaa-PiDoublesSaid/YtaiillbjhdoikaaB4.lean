/- Texts of the proof, joined: Pu9 Pu11 Pu7 Pu12 Pu13 Pu10 Pu14 Pu15 Pu16 Pu17 Br5 Br8 W1 N4 C3 C4 C5 C6 C7 C8 C22 N5 N6 Bn10 Ev26 Ev28 N7 N8 Bn11 N9 Bn12 N10 C9 N11 W2 N12 W5 W6 Br16 -/
import Derived.Test.YtaiillbjhdoikaaB3
set_option linter.unusedVariables false
set_option linter.unusedSimpArgs false

/- The quotient of two numbers; products and quotients of intervals hold what they ought to: plain Lean. -/
namespace Go.Proofs.Ytaiillbjhdoikaa.Ev
open Go

def Num.divF (a b : Num) (up : Bool) : Num :=
  if b.m ≤ a.m then Num.grow (a.neg != b.neg) (a.m * 9223372036854775808 / b.m) (a.e - b.e - 63) (decide (a.m * 9223372036854775808 % b.m ≠ 0)) (up != (a.neg != b.neg))
  else Num.grow (a.neg != b.neg) (a.m * 18446744073709551616 / b.m) (a.e - b.e - 64) (decide (a.m * 18446744073709551616 % b.m ≠ 0)) (up != (a.neg != b.neg))
def Num.div (a b : Num) (up : Bool) : Num :=
  if b.fair.kind = 0 then Num.inf (!up) else if a.fair.kind = 0 ∨ b.fair.kind = 2 then Num.zero else if a.fair.kind = 2 then Num.inf (a.fair.neg != b.fair.neg) else Num.divF a.fair b.fair up

def Iv.corners (F : Num → Num → Bool → Num) (a b : Iv) : Iv :=
  Iv.make (Num.least [F a.lo b.lo false, F a.lo b.hi false, F a.hi b.lo false, F a.hi b.hi false]) (Num.most [F a.lo b.lo true, F a.lo b.hi true, F a.hi b.lo true, F a.hi b.hi true])
def Iv.mul (a b : Iv) : Iv := if Iv.anyBad [a, b] then Iv.none else Iv.corners Num.mul a b

def Iv.half (near fin : Num) : Iv :=
  if near.sign = fin.sign then Iv.make (Num.div near fin false) (Num.inf false) else Iv.make (Num.inf true) (Num.div near fin true)
def Iv.div (a b : Iv) : Iv :=
  if Iv.anyBad [a, b] ∨ (b.lo.sign = 0 ∧ b.hi.sign = 0) then Iv.none
  else if 0 < b.lo.sign ∨ b.hi.sign < 0 then Iv.corners Num.div a b
  else if (b.lo.sign < 0 ∧ 0 < b.hi.sign) ∨ Iv.has a Num.zero then Iv.all
  else Iv.half (if a.lo.sign < 0 then a.hi else a.lo) (if b.hi.sign = 0 then b.lo else b.hi)

theorem divF_side {a b : Num} (ha : a.Fin) (hb : b.Fin) (up : Bool) : Side (Num.divF a b up) up (if (a.neg != b.neg) then -(a.W * pw 0) else a.W * pw 0) b.W := by
  have := ha.lo; have := ha.hi; have := ha.elo; have := ha.ehi
  have := hb.lo; have := hb.hi; have := hb.elo; have := hb.ehi
  have p0 := pw_pos 0
  have hT : 0 ≤ a.W * pw 0 := Int.mul_nonneg (Int.le_of_lt ha.lt.1) (Int.le_of_lt p0)
  have hb0 : 0 < b.m := by omega
  unfold Num.divF
  split
  · rename_i h
    have e1 := Int.mul_ediv_add_emod (a.m * 9223372036854775808) b.m
    have e2 := Int.emod_nonneg (a.m * 9223372036854775808) (show b.m ≠ 0 by omega)
    have e3 := Int.emod_lt_of_pos (a.m * 9223372036854775808) hb0
    generalize hq : a.m * 9223372036854775808 / b.m = q at *
    generalize hr : a.m * 9223372036854775808 % b.m = r at *
    have q1 : 9223372036854775808 ≤ q := by
      rcases Int.lt_or_le q 9223372036854775808 with g | g
      · exfalso
        have : b.m * q ≤ b.m * 9223372036854775807 := Int.mul_le_mul_of_nonneg_left (by omega) (by omega)
        omega
      · exact g
    have q2 : q < 18446744073709551616 := by
      rcases Int.lt_or_le q 18446744073709551616 with g | g
      · exact g
      · exfalso
        have : b.m * 18446744073709551616 ≤ b.m * q := Int.mul_le_mul_of_nonneg_left g (by omega)
        omega
    have R := grow_rnd (neg := a.neg != b.neg) (cut := decide (r ≠ 0)) (away := up != (a.neg != b.neg)) (m := q) (e := a.e - b.e - 63) q1 q2 (by omega) (by omega)
    have E : ∀ k : Int, k * pw (a.e - b.e - 63) * b.W = (b.m * k) * (pw (a.e - 63) * pw 0) := by
      intro k
      rw [hb.W]
      have e := pw_mul (e := b.e) (f := a.e - b.e - 63) (by omega) (by omega) (by omega)
      rw [show b.e + (a.e - b.e - 63) = a.e - 63 by omega] at e
      have e' : k * pw (a.e - b.e - 63) * (b.m * pw b.e) = b.m * k * (pw b.e * pw (a.e - b.e - 63)) := by grind
      rw [e', e]; grind
    have ET : a.W * pw 0 = (a.m * 9223372036854775808) * (pw (a.e - 63) * pw 0) := by
      rw [ha.W]
      have e := pw_63 (e := a.e - 63) (by omega)
      rw [show a.e - 63 + 63 = a.e by omega] at e
      rw [e]; grind
    have pp : 0 ≤ pw (a.e - 63) * pw 0 := Int.le_of_lt (Int.mul_pos (pw_pos _) p0)
    refine R.side ?_ ?_ hT (Int.le_of_lt hb.lt.1)
    · rw [E, ET]; exact Int.mul_le_mul_of_nonneg_right (by omega) pp
    · rw [E, ET]
      refine Int.mul_le_mul_of_nonneg_right ?_ pp
      split
      · have : b.m * (q + 1) = b.m * q + b.m := by grind
        omega
      · rename_i h; simp only [decide_eq_true_eq] at h; omega
  · rename_i h
    have e1 := Int.mul_ediv_add_emod (a.m * 18446744073709551616) b.m
    have e2 := Int.emod_nonneg (a.m * 18446744073709551616) (show b.m ≠ 0 by omega)
    have e3 := Int.emod_lt_of_pos (a.m * 18446744073709551616) hb0
    generalize hq : a.m * 18446744073709551616 / b.m = q at *
    generalize hr : a.m * 18446744073709551616 % b.m = r at *
    have q1 : 9223372036854775808 ≤ q := by
      rcases Int.lt_or_le q 9223372036854775808 with g | g
      · exfalso
        have : b.m * q ≤ b.m * 9223372036854775807 := Int.mul_le_mul_of_nonneg_left (by omega) (by omega)
        omega
      · exact g
    have q2 : q < 18446744073709551616 := by
      rcases Int.lt_or_le q 18446744073709551616 with g | g
      · exact g
      · exfalso
        have : b.m * 18446744073709551616 ≤ b.m * q := Int.mul_le_mul_of_nonneg_left g (by omega)
        omega
    have R := grow_rnd (neg := a.neg != b.neg) (cut := decide (r ≠ 0)) (away := up != (a.neg != b.neg)) (m := q) (e := a.e - b.e - 64) q1 q2 (by omega) (by omega)
    have E : ∀ k : Int, k * pw (a.e - b.e - 64) * b.W = (b.m * k) * (pw (a.e - 64) * pw 0) := by
      intro k
      rw [hb.W]
      have e := pw_mul (e := b.e) (f := a.e - b.e - 64) (by omega) (by omega) (by omega)
      rw [show b.e + (a.e - b.e - 64) = a.e - 64 by omega] at e
      have e' : k * pw (a.e - b.e - 64) * (b.m * pw b.e) = b.m * k * (pw b.e * pw (a.e - b.e - 64)) := by grind
      rw [e', e]; grind
    have ET : a.W * pw 0 = (a.m * 18446744073709551616) * (pw (a.e - 64) * pw 0) := by
      rw [ha.W]
      have e := pw_64 (e := a.e - 64) (by omega)
      rw [show a.e - 64 + 64 = a.e by omega] at e
      rw [e]; grind
    have pp : 0 ≤ pw (a.e - 64) * pw 0 := Int.le_of_lt (Int.mul_pos (pw_pos _) p0)
    refine R.side ?_ ?_ hT (Int.le_of_lt hb.lt.1)
    · rw [E, ET]; exact Int.mul_le_mul_of_nonneg_right (by omega) pp
    · rw [E, ET]
      refine Int.mul_le_mul_of_nonneg_right ?_ pp
      split
      · have : b.m * (q + 1) = b.m * q + b.m := by grind
        omega
      · rename_i h; simp only [decide_eq_true_eq] at h; omega

theorem zero_side (up : Bool) (c : Int) : Side Num.zero up 0 c :=
  ⟨Num.zero_may, Num.zero_ok, fun _ => ⟨by decide, .inr (by rw [Num.val_zero]; simp)⟩, fun _ => ⟨by decide, .inr (by rw [Num.val_zero]; simp)⟩⟩

/-- the product of two that are finite -/
theorem mul_side {a b : Num} (ma : a.may = true) (mb : b.may = true) (oa : a.ok) (ob : b.ok) (ka : a.kind ≠ 2) (kb : b.kind ≠ 2) (up : Bool) : Side (Num.mul a b up) up (a.val * b.val) (pw 0) := by
  unfold Num.mul
  rw [Num.fair_of_may ma, Num.fair_of_may mb]
  rcases Num.may3 ma oa with h | h | h
  · rw [if_pos (.inl (by rw [h]; rfl)), h, Num.val_zero, Int.zero_mul]; exact zero_side _ _
  · rcases Num.may3 mb ob with k | k | k
    · rw [if_pos (.inr (by rw [k]; rfl)), k, Num.val_zero, Int.mul_zero]; exact zero_side _ _
    · rw [if_neg (by rw [h.kind, k.kind]; decide), if_neg (by rw [h.kind, k.kind]; decide)]
      exact mulF_side h k up
    · rw [k] at kb; exact absurd rfl kb
  · rw [h] at ka; exact absurd rfl ka

theorem div_core {a b : Num} (ma : a.may = true) (mb : b.may = true) (oa : a.ok) (ob : b.ok) (hb : b.val ≠ 0) (up : Bool) :
    (b.kind = 2 ∧ Num.div a b up = Num.zero) ∨ (b.Fin ∧ a.kind = 2 ∧ Num.div a b up = Num.inf (a.neg != b.neg)) ∨
      (b.Fin ∧ a.kind ≠ 2 ∧ Side (Num.div a b up) up (if b.neg then -(a.val * pw 0) else a.val * pw 0) b.W) := by
  unfold Num.div
  rw [Num.fair_of_may ma, Num.fair_of_may mb]
  rcases Num.may3 mb ob with k | k | k
  · rw [k] at hb; exact absurd rfl hb
  · right
    rw [if_neg (by rw [k.kind]; decide)]
    rcases Num.may3 ma oa with h | h | h
    · right
      refine ⟨k, by rw [h]; decide, ?_⟩
      rw [if_pos (.inl (by rw [h]; rfl)), h, Num.val_zero]
      have : (if b.neg = true then -(0 * pw 0) else 0 * pw 0) = 0 := by split <;> simp
      rw [this]; exact zero_side _ _
    · right
      refine ⟨k, by rw [h.kind]; decide, ?_⟩
      rw [if_neg (by rw [h.kind, k.kind]; decide), if_neg (by rw [h.kind]; decide)]
      have e : (if b.neg = true then -(a.val * pw 0) else a.val * pw 0) = if (a.neg != b.neg) then -(a.W * pw 0) else a.W * pw 0 := by
        unfold Num.val; cases a.neg <;> cases b.neg <;> simp [Int.neg_mul]
      rw [e]
      exact divF_side h k up
    · left
      have ha : a.kind = 2 := by rw [h]; rfl
      refine ⟨k, ha, ?_⟩
      rw [if_neg (by rw [ha, k.kind]; decide), if_pos ha]
  · left
    have hk : b.kind = 2 := by rw [k]; rfl
    exact ⟨hk, by rw [if_neg (by rw [hk]; decide), if_pos (.inr hk)]⟩

theorem div_may {a b : Num} (ma : a.may = true) (mb : b.may = true) (oa : a.ok) (ob : b.ok) (hb : b.val ≠ 0) (up : Bool) : (Num.div a b up).may = true ∧ (Num.div a b up).ok := by
  rcases div_core ma mb oa ob hb up with h | h | h
  · rw [h.2]; exact ⟨Num.zero_may, Num.zero_ok⟩
  · rw [h.2.2]; exact ⟨Num.inf_may _, Num.inf_ok _⟩
  · exact ⟨h.2.2.may, h.2.2.ok⟩

/-- the quotient to below is not above v, which is v * w / w -/
theorem div_dn {a b : Num} {v w : Int} (ma : a.may = true) (mb : b.may = true) (oa : a.ok) (ob : b.ok) (hb : b.val ≠ 0) (hw : 0 < w) (hw' : w < pw 1048640) (hv : -pw 1048640 ≤ v)
    (hA : (a.kind = 2 ∧ a.neg ≠ b.neg) ∨ (a.kind ≠ 2 ∧ (if b.neg then -(a.val * pw 0) else a.val * pw 0) ≤ v * w))
    (h : (0 ≤ v ∧ w ≤ b.W) ∨ (v ≤ 0 ∧ b.W ≤ w)) : (Num.div a b false).val ≤ v := by
  rcases div_core ma mb oa ob hb false with ⟨k1, k2⟩ | ⟨k1, k2, k3⟩ | ⟨k1, k2, k3⟩
  · rw [k2, Num.val_zero]
    rcases h with h | h
    · exact h.1
    · have : b.W = pw 1048640 := by unfold Num.W; rw [k1]; rfl
      omega
  · rcases hA with hA | hA
    · rw [k3, Num.val_inf]
      have : (a.neg != b.neg) = true := by simpa using hA.2
      rw [this]; simpa using hv
    · exact absurd k2 hA.1
  · rcases hA with hA | hA
    · exact absurd hA.1 k2
    · rcases (k3.down rfl).2 with g | g
      · rw [g, Num.val_inf]; simpa using hv
      · have e1 : v * w ≤ v * b.W := by
          rcases h with h | h
          · exact Int.mul_le_mul_of_nonneg_left h.2 h.1
          · have := Int.mul_le_mul_of_nonneg_left h.2 (show 0 ≤ -v by omega)
            rw [Int.neg_mul, Int.neg_mul] at this; omega
        have := Int.le_trans g (Int.le_trans hA.2 e1)
        exact Int.le_of_mul_le_mul_right this k1.lt.1

theorem div_up {a b : Num} {v w : Int} (ma : a.may = true) (mb : b.may = true) (oa : a.ok) (ob : b.ok) (hb : b.val ≠ 0) (hw : 0 < w) (hw' : w < pw 1048640) (hv : v ≤ pw 1048640)
    (hA : (a.kind = 2 ∧ a.neg = b.neg) ∨ (a.kind ≠ 2 ∧ v * w ≤ (if b.neg then -(a.val * pw 0) else a.val * pw 0)))
    (h : (0 ≤ v ∧ b.W ≤ w) ∨ (v ≤ 0 ∧ w ≤ b.W)) : v ≤ (Num.div a b true).val := by
  rcases div_core ma mb oa ob hb true with ⟨k1, k2⟩ | ⟨k1, k2, k3⟩ | ⟨k1, k2, k3⟩
  · rw [k2, Num.val_zero]
    rcases h with h | h
    · have : b.W = pw 1048640 := by unfold Num.W; rw [k1]; rfl
      omega
    · exact h.1
  · rcases hA with hA | hA
    · rw [k3, Num.val_inf, hA.2]; simpa using hv
    · exact absurd k2 hA.1
  · rcases hA with hA | hA
    · exact absurd hA.1 k2
    · rcases (k3.up rfl).2 with g | g
      · rw [g, Num.val_inf]; simpa using hv
      · have e1 : v * b.W ≤ v * w := by
          rcases h with h | h
          · exact Int.mul_le_mul_of_nonneg_left h.2 h.1
          · have := Int.mul_le_mul_of_nonneg_left h.2 (show 0 ≤ -v by omega)
            rw [Int.neg_mul, Int.neg_mul] at this; omega
        have := Int.le_trans e1 (Int.le_trans hA.2 g)
        exact Int.le_of_mul_le_mul_right this k1.lt.1

/-- v is between what four corners make, if it is not below one to below and not above one to above -/
theorem corners_has {F : Num → Num → Bool → Num} {a b : Iv} {v : Int} (hF : ∀ x ∈ [a.lo, a.hi], ∀ y ∈ [b.lo, b.hi], ∀ up, (F x y up).may = true ∧ (F x y up).ok) (h1 : -pw 1048640 < v) (h2 : v < pw 1048640)
    (hd : ∃ x ∈ [a.lo, a.hi], ∃ y ∈ [b.lo, b.hi], (F x y false).val ≤ v) (hu : ∃ x ∈ [a.lo, a.hi], ∃ y ∈ [b.lo, b.hi], v ≤ (F x y true).val) :
    (Iv.corners F a b).Real ∧ (Iv.corners F a b).lo.val ≤ v ∧ v ≤ (Iv.corners F a b).hi.val := by
  have all : ∀ up, ∀ x ∈ [F a.lo b.lo up, F a.lo b.hi up, F a.hi b.lo up, F a.hi b.hi up], x.may = true ∧ x.ok := by
    intro up x hx
    simp only [List.mem_cons, List.not_mem_nil, or_false] at hx
    rcases hx with rfl | rfl | rfl | rfl <;> exact hF _ (by simp) _ (by simp) up
  have inl : ∀ up, ∀ x ∈ [a.lo, a.hi], ∀ y ∈ [b.lo, b.hi], F x y up ∈ [F a.lo b.lo up, F a.lo b.hi up, F a.hi b.lo up, F a.hi b.hi up] := by
    intro up x hx y hy
    simp only [List.mem_cons, List.not_mem_nil, or_false] at hx hy ⊢
    rcases hx with rfl | rfl <;> rcases hy with rfl | rfl <;> simp
  obtain ⟨l1, l2, l3, _⟩ := Num.least_spec _ (fun x hx => (all false x hx).2)
  obtain ⟨m1, m2, m3, _⟩ := Num.most_spec _ (fun x hx => (all true x hx).2)
  unfold Iv.corners
  obtain ⟨x, hx, y, hy, hd⟩ := hd
  obtain ⟨x', hx', y', hy', hu⟩ := hu
  have d := l3 _ (inl false x hx y hy)
  rw [Num.fair_of_may (hF x hx y hy false).1] at d
  have u := m3 _ (inl true x' hx' y' hy')
  rw [Num.fair_of_may (hF x' hx' y' hy' true).1] at u
  generalize Num.least _ = L at *
  generalize Num.most _ = M at *
  have R : (Iv.mk false L.fair M.fair).Real := by
    rw [Num.fair_of_may l1, Num.fair_of_may m1]
    exact ⟨rfl, l1, m1, l2, m2, by show L.val ≤ M.val; omega, by show L.val < _; omega, by show _ < M.val; omega⟩
  rw [Iv.make_real R]
  refine ⟨R, ?_, ?_⟩
  · show L.fair.val ≤ v; rw [Num.fair_of_may l1]; omega
  · show v ≤ M.fair.val; rw [Num.fair_of_may m1]; omega

theorem Iv.anyBad2 {a b : Iv} (ha : a.Real) (hb : b.Real) : Iv.anyBad [a, b] = false := by
  simp [Iv.anyBad, ha.good, hb.good]

theorem Iv.has_iff {x : Iv} {n : Num} (hn : n.ok) (o1 : x.lo.ok) (o2 : x.hi.ok) :
    Iv.has x n = true ↔ (n.fair.kind ≠ 2 ∧ x.Real ∧ x.lo.val ≤ n.fair.val ∧ n.fair.val ≤ x.hi.val) := by
  have mn := n.fair_may
  have on := Num.fair_ok hn
  have fv := Num.fin_val mn on
  unfold Iv.has Iv.point
  rcases Iv.make_cases hn hn with ⟨e, h⟩ | ⟨e, h⟩
  · rw [e]
    constructor
    · intro g; simp [Iv.none] at g
    · rintro ⟨k, _⟩
      have k' := fv.1 k
      exact absurd ⟨rfl, mn, mn, on, on, Int.le_refl _, k'.2, k'.1⟩ h
  · rw [e]
    have k : n.fair.kind ≠ 2 := fv.2 ⟨h.gt, h.lt⟩
    unfold Iv.within
    rw [h.fair]
    by_cases hx : x.Real
    · rw [hx.fair]
      simp only [hx.some, Bool.not_false, Bool.true_and, Bool.false_or, Bool.and_eq_true, decide_eq_true_eq]
      rw [Num.cmp_le hx.loo on, Num.cmp_le on hx.hio, Num.fair_of_may hx.lom, Num.fair_of_may hx.him, Num.fair_fair]
      exact ⟨fun g => ⟨k, hx, g⟩, fun g => g.2.2⟩
    · constructor
      · intro g
        exfalso
        apply hx
        have hm : x.may = true := by
          cases hh : x.may
          · rw [show x.fair = Iv.none by unfold Iv.fair; rw [if_neg (by simp [hh])]] at g
            simp [Iv.none] at g
          · rfl
        have he : x.empty = false := by
          cases hh : x.empty
          · rfl
          · rw [show x.fair = Iv.none by rw [Iv.empty_may hm hh]; rfl] at g
            simp [Iv.none] at g
        exact Iv.real_of hm he o1 o2
      · exact fun g => absurd g.2.1 hx

theorem Num.val_pos {n : Num} (m : n.may = true) (o : n.ok) : (0 < n.val → n.neg = false ∧ n.W = n.val ∧ n.sign = 1) ∧ (n.val < 0 → n.neg = true ∧ n.W = -n.val ∧ n.sign = -1) ∧ (n.val = 0 → n.sign = 0 ∧ n = Num.zero) := by
  rcases Num.sign_of m o with h | h | h
  · refine ⟨fun g => by omega, fun g => by omega, fun _ => ⟨h.1, h.2.2.2⟩⟩
  · refine ⟨fun g => ⟨h.2.2.2.1, by omega, h.1⟩, fun g => by omega, fun g => by omega⟩
  · refine ⟨fun g => by omega, fun g => ⟨h.2.2.2.1, by omega, h.1⟩, fun g => by omega⟩

theorem Num.inf_val {n : Num} (m : n.may = true) (o : n.ok) (k : n.kind = 2) : (n.neg = true ∧ n.val = -pw 1048640) ∨ (n.neg = false ∧ n.val = pw 1048640) := by
  have e := Num.inf_of m o k
  cases hn : n.neg
  · right; rw [e, hn]; exact ⟨rfl, rfl⟩
  · left; rw [e, hn]; exact ⟨rfl, rfl⟩

/-- what may be below, and above, an exact number -/
def Num.below (n : Num) (x : Int) : Prop := n = Num.inf true ∨ (n.kind ≠ 2 ∧ n.val * pw 0 ≤ x)
def Num.above (n : Num) (x : Int) : Prop := n = Num.inf false ∨ (n.kind ≠ 2 ∧ x ≤ n.val * pw 0)

theorem Num.below_neg {n : Num} {x : Int} (h : n.below x) (g : n.kind = 2) : n.neg = true := by
  rcases h with h | h
  · rw [h]; rfl
  · exact absurd g h.1
theorem Num.above_pos {n : Num} {x : Int} (h : n.above x) (g : n.kind = 2) : n.neg = false := by
  rcases h with h | h
  · rw [h]; rfl
  · exact absurd g h.1
theorem Num.below_le {n : Num} {x : Int} (h : n.below x) (g : n.kind ≠ 2) : n.val * pw 0 ≤ x := by
  rcases h with h | h
  · rw [h] at g; exact absurd rfl g
  · exact h.2
theorem Num.above_le {n : Num} {x : Int} (h : n.above x) (g : n.kind ≠ 2) : x ≤ n.val * pw 0 := by
  rcases h with h | h
  · rw [h] at g; exact absurd rfl g
  · exact h.2

theorem Iv.div_has {a b : Iv} {v w : Int} (ha : a.Real) (hb : b.Real) (hw : w ≠ 0) (b1 : b.lo.val ≤ w) (b2 : w ≤ b.hi.val) (w1 : -pw 1048640 < w) (w2 : w < pw 1048640)
    (v1 : -pw 1048640 < v) (v2 : v < pw 1048640) (a1 : a.lo.below (v * w)) (a2 : a.hi.above (v * w)) :
    (Iv.div a b).Real ∧ (Iv.div a b).lo.val ≤ v ∧ v ≤ (Iv.div a b).hi.val := by
  have pl := Num.val_pos hb.lom hb.loo
  have ph := Num.val_pos hb.him hb.hio
  have ql := Num.val_pos ha.lom ha.loo
  have qh := Num.val_pos ha.him ha.hio
  have P := pw_pos 1048640
  have kl := hb.lt
  have kh := hb.gt
  have em : (-v) * (-w) = v * w := by rw [Int.neg_mul_neg]
  have em2 : v * (-w) = -(v * w) := by rw [Int.mul_neg]
  unfold Iv.div
  rw [Iv.anyBad2 ha hb]
  rw [if_neg (by
    rintro (h | ⟨h, h'⟩)
    · cases h
    · have e1 : b.lo.val = 0 := by
        rcases Int.lt_trichotomy b.lo.val 0 with g | g | g
        · have := (pl.2.1 g).2.2; omega
        · exact g
        · have := (pl.1 g).2.2; omega
      have e2 : b.hi.val = 0 := by
        rcases Int.lt_trichotomy b.hi.val 0 with g | g | g
        · have := (ph.2.1 g).2.2; omega
        · exact g
        · have := (ph.1 g).2.2; omega
      omega)]
  by_cases c1 : 0 < b.lo.val
  · rw [if_pos (.inl (by rw [(pl.1 c1).2.2]; decide))]
    have c2 : 0 < b.hi.val := by omega
    have hw0 : 0 < w := by omega
    obtain ⟨l1, l2, l3⟩ := pl.1 c1
    obtain ⟨h1, h2, h3⟩ := ph.1 c2
    refine corners_has ?_ v1 v2 ?_ ?_
    · intro x hx y hy up
      simp only [List.mem_cons, List.not_mem_nil, or_false] at hx hy
      rcases hx with rfl | rfl <;> rcases hy with rfl | rfl <;> first | exact div_may ha.lom hb.lom ha.loo hb.loo (by omega) up | exact div_may ha.lom hb.him ha.loo hb.hio (by omega) up | exact div_may ha.him hb.lom ha.hio hb.loo (by omega) up | exact div_may ha.him hb.him ha.hio hb.hio (by omega) up
    · have hA : ∀ y : Num, y.neg = false → (a.lo.kind = 2 ∧ a.lo.neg ≠ y.neg) ∨ (a.lo.kind ≠ 2 ∧ (if y.neg then -(a.lo.val * pw 0) else a.lo.val * pw 0) ≤ v * w) := by
        intro y hy
        by_cases g : a.lo.kind = 2
        · exact .inl ⟨g, by rw [Num.below_neg a1 g, hy]; decide⟩
        · exact .inr ⟨g, by rw [hy]; exact Num.below_le a1 g⟩
      by_cases hv : 0 ≤ v
      · exact ⟨a.lo, by simp, b.hi, by simp, div_dn ha.lom hb.him ha.loo hb.hio (by omega) hw0 w2 (by omega) (hA _ h1) (.inl ⟨hv, by omega⟩)⟩
      · exact ⟨a.lo, by simp, b.lo, by simp, div_dn ha.lom hb.lom ha.loo hb.loo (by omega) hw0 w2 (by omega) (hA _ l1) (.inr ⟨by omega, by omega⟩)⟩
    · have hA : ∀ y : Num, y.neg = false → (a.hi.kind = 2 ∧ a.hi.neg = y.neg) ∨ (a.hi.kind ≠ 2 ∧ v * w ≤ (if y.neg then -(a.hi.val * pw 0) else a.hi.val * pw 0)) := by
        intro y hy
        by_cases g : a.hi.kind = 2
        · exact .inl ⟨g, by rw [Num.above_pos a2 g, hy]⟩
        · exact .inr ⟨g, by rw [hy]; exact Num.above_le a2 g⟩
      by_cases hv : 0 ≤ v
      · exact ⟨a.hi, by simp, b.lo, by simp, div_up ha.him hb.lom ha.hio hb.loo (by omega) hw0 w2 (by omega) (hA _ l1) (.inl ⟨hv, by omega⟩)⟩
      · exact ⟨a.hi, by simp, b.hi, by simp, div_up ha.him hb.him ha.hio hb.hio (by omega) hw0 w2 (by omega) (hA _ h1) (.inr ⟨by omega, by omega⟩)⟩
  by_cases c2 : b.hi.val < 0
  · rw [if_pos (.inr (by rw [(ph.2.1 c2).2.2]; decide))]
    have c3 : b.lo.val < 0 := by omega
    have hw0 : 0 < -w := by omega
    obtain ⟨l1, l2, l3⟩ := pl.2.1 c3
    obtain ⟨h1, h2, h3⟩ := ph.2.1 c2
    refine corners_has ?_ v1 v2 ?_ ?_
    · intro x hx y hy up
      simp only [List.mem_cons, List.not_mem_nil, or_false] at hx hy
      rcases hx with rfl | rfl <;> rcases hy with rfl | rfl <;> first | exact div_may ha.lom hb.lom ha.loo hb.loo (by omega) up | exact div_may ha.lom hb.him ha.loo hb.hio (by omega) up | exact div_may ha.him hb.lom ha.hio hb.loo (by omega) up | exact div_may ha.him hb.him ha.hio hb.hio (by omega) up
    · have hA : ∀ y : Num, y.neg = true → (a.hi.kind = 2 ∧ a.hi.neg ≠ y.neg) ∨ (a.hi.kind ≠ 2 ∧ (if y.neg then -(a.hi.val * pw 0) else a.hi.val * pw 0) ≤ v * (-w)) := by
        intro y hy
        by_cases g : a.hi.kind = 2
        · exact .inl ⟨g, by rw [Num.above_pos a2 g, hy]; decide⟩
        · exact .inr ⟨g, by rw [hy, em2]; have := Num.above_le a2 g; simp; omega⟩
      by_cases hv : 0 ≤ v
      · exact ⟨a.hi, by simp, b.lo, by simp, div_dn ha.him hb.lom ha.hio hb.loo (by omega) hw0 (by omega) (by omega) (hA _ l1) (.inl ⟨hv, by omega⟩)⟩
      · exact ⟨a.hi, by simp, b.hi, by simp, div_dn ha.him hb.him ha.hio hb.hio (by omega) hw0 (by omega) (by omega) (hA _ h1) (.inr ⟨by omega, by omega⟩)⟩
    · have hA : ∀ y : Num, y.neg = true → (a.lo.kind = 2 ∧ a.lo.neg = y.neg) ∨ (a.lo.kind ≠ 2 ∧ v * (-w) ≤ (if y.neg then -(a.lo.val * pw 0) else a.lo.val * pw 0)) := by
        intro y hy
        by_cases g : a.lo.kind = 2
        · exact .inl ⟨g, by rw [Num.below_neg a1 g, hy]⟩
        · exact .inr ⟨g, by rw [hy, em2]; have := Num.below_le a1 g; simp; omega⟩
      by_cases hv : 0 ≤ v
      · exact ⟨a.lo, by simp, b.hi, by simp, div_up ha.lom hb.him ha.loo hb.hio (by omega) hw0 (by omega) (by omega) (hA _ h1) (.inl ⟨hv, by omega⟩)⟩
      · exact ⟨a.lo, by simp, b.lo, by simp, div_up ha.lom hb.lom ha.loo hb.loo (by omega) hw0 (by omega) (by omega) (hA _ l1) (.inr ⟨by omega, by omega⟩)⟩
  have s1 : ¬ (0 < b.lo.sign ∨ b.hi.sign < 0) := by
    rintro (h | h)
    · rcases Int.lt_trichotomy b.lo.val 0 with g | g | g
      · have := (pl.2.1 g).2.2; omega
      · have := (pl.2.2 g).1; omega
      · exact c1 g
    · rcases Int.lt_trichotomy b.hi.val 0 with g | g | g
      · exact c2 g
      · have := (ph.2.2 g).1; omega
      · have := (ph.1 g).2.2; omega
  rw [if_neg s1]
  by_cases c3 : (b.lo.sign < 0 ∧ 0 < b.hi.sign) ∨ Iv.has a Num.zero = true
  · rw [if_pos c3]
    refine ⟨⟨rfl, Num.inf_may _, Num.inf_may _, Num.inf_ok _, Num.inf_ok _, ?_, ?_, ?_⟩, ?_, ?_⟩ <;> simp only [Iv.all, Num.val_inf] <;> simp <;> omega
  rw [if_neg c3]
  have c4 : ¬ (b.lo.sign < 0 ∧ 0 < b.hi.sign) := fun h => c3 (.inl h)
  have c5 : ¬ (a.lo.val ≤ 0 ∧ 0 ≤ a.hi.val) := fun h => c3 (.inr ((Iv.has_iff Num.zero_ok ha.loo ha.hio).2 ⟨by decide, ha, h.1, h.2⟩))
  have c6 : ¬ (b.lo.val < 0 ∧ 0 < b.hi.val) := fun h => c4 ⟨by rw [(pl.2.1 h.1).2.2]; decide, by rw [(ph.1 h.2).2.2]; decide⟩
  -- the nearest end of the dividend, the farthest one of the divisor
  have near : ∃ n, (if a.lo.sign < 0 then a.hi else a.lo) = n ∧ n.may = true ∧ n.ok ∧ n.kind ≠ 2 ∧ ((0 < n.val ∧ n.val * pw 0 ≤ v * w) ∨ (n.val < 0 ∧ v * w ≤ n.val * pw 0)) := by
    have := ha.lt; have := ha.gt; have := ha.le
    by_cases g : 0 < a.lo.val
    · have k := (Num.fin_val ha.lom ha.loo).2 ⟨by omega, by omega⟩
      exact ⟨a.lo, by rw [if_neg (by rw [(ql.1 g).2.2]; decide)], ha.lom, ha.loo, k, .inl ⟨g, Num.below_le a1 k⟩⟩
    · have g' : a.hi.val < 0 := by omega
      have k := (Num.fin_val ha.him ha.hio).2 ⟨by omega, by omega⟩
      exact ⟨a.hi, by rw [if_pos (by rw [(ql.2.1 (by omega)).2.2]; decide)], ha.him, ha.hio, k, .inr ⟨g', Num.above_le a2 k⟩⟩
  have far : ∃ f, (if b.hi.sign = 0 then b.lo else b.hi) = f ∧ f.may = true ∧ f.ok ∧ ((0 < f.val ∧ w ≤ f.val ∧ 0 < w) ∨ (f.val < 0 ∧ f.val ≤ w ∧ w < 0)) := by
    by_cases g : b.hi.val = 0
    · exact ⟨b.lo, by rw [if_pos (ph.2.2 g).1], hb.lom, hb.loo, .inr ⟨by omega, by omega, by omega⟩⟩
    · have g' : 0 < b.hi.val := by omega
      exact ⟨b.hi, by rw [if_neg (by rw [(ph.1 g').2.2]; decide)], hb.him, hb.hio, .inl ⟨by omega, by omega, by omega⟩⟩
  obtain ⟨n, en, nm, no, nk, n1⟩ := near
  obtain ⟨f, ef, fm, fo, f1⟩ := far
  rw [en, ef]
  have p0 := pw_pos 0
  have pn := Num.val_pos nm no
  have pf := Num.val_pos fm fo
  have vs : (0 < v * w → (0 < w → 0 < v) ∧ (w < 0 → v < 0)) ∧ (v * w < 0 → (0 < w → v < 0) ∧ (w < 0 → 0 < v)) := by
    refine ⟨fun h => ⟨fun g => ?_, fun g => ?_⟩, fun h => ⟨fun g => ?_, fun g => ?_⟩⟩
    · rcases Int.lt_or_le 0 v with k | k
      · exact k
      · have := Int.mul_nonneg (show 0 ≤ -v by omega) (show 0 ≤ w by omega); rw [Int.neg_mul] at this; omega
    · rcases Int.lt_or_le v 0 with k | k
      · exact k
      · have := Int.mul_nonneg k (show 0 ≤ -w by omega); rw [Int.mul_neg] at this; omega
    · rcases Int.lt_or_le v 0 with k | k
      · exact k
      · have := Int.mul_nonneg k (show 0 ≤ w by omega); omega
    · rcases Int.lt_or_le 0 v with k | k
      · exact k
      · have := Int.mul_nonneg (show 0 ≤ -v by omega) (show 0 ≤ -w by omega); rw [em] at this; omega
  have xs : (0 < n.val → 0 < v * w) ∧ (n.val < 0 → v * w < 0) := by
    constructor
    · intro g
      have := Int.mul_pos g p0
      rcases n1 with h | h <;> omega
    · intro g
      have := Int.mul_neg_of_neg_of_pos g p0
      rcases n1 with h | h <;> omega
  have fin : ∀ r : Num, r.may = true → r.ok → r.val ≤ v → (Iv.make r (Num.inf false)).Real ∧ (Iv.make r (Num.inf false)).lo.val ≤ v ∧ v ≤ (Iv.make r (Num.inf false)).hi.val := by
    intro r m o h
    have R : (Iv.mk false r.fair (Num.inf false).fair).Real := by
      rw [Num.fair_of_may m, Num.fair_of_may (Num.inf_may _)]
      refine ⟨rfl, m, Num.inf_may _, o, Num.inf_ok _, ?_, ?_, ?_⟩ <;> (try simp only [Num.val_inf]) <;> (try simp) <;> omega
    rw [Iv.make_real R]
    refine ⟨R, by show r.fair.val ≤ v; rw [Num.fair_of_may m]; exact h, ?_⟩
    show v ≤ (Num.inf false).fair.val
    rw [Num.fair_of_may (Num.inf_may _)]; show v ≤ pw 1048640; omega
  have fin' : ∀ r : Num, r.may = true → r.ok → v ≤ r.val → (Iv.make (Num.inf true) r).Real ∧ (Iv.make (Num.inf true) r).lo.val ≤ v ∧ v ≤ (Iv.make (Num.inf true) r).hi.val := by
    intro r m o h
    have R : (Iv.mk false (Num.inf true).fair r.fair).Real := by
      rw [Num.fair_of_may m, Num.fair_of_may (Num.inf_may _)]
      refine ⟨rfl, Num.inf_may _, m, Num.inf_ok _, o, ?_, ?_, ?_⟩ <;> (try simp only [Num.val_inf]) <;> (try simp) <;> omega
    rw [Iv.make_real R]
    refine ⟨R, ?_, by show v ≤ r.fair.val; rw [Num.fair_of_may m]; exact h⟩
    show (Num.inf true).fair.val ≤ v
    rw [Num.fair_of_may (Num.inf_may _)]; show -pw 1048640 ≤ v; omega
  unfold Iv.half
  rcases n1 with ⟨g1, g2⟩ | ⟨g1, g2⟩ <;> rcases f1 with ⟨k1, k2, k3⟩ | ⟨k1, k2, k3⟩
  · obtain ⟨t1, t2, t3⟩ := pn.1 g1
    obtain ⟨u1, u2, u3⟩ := pf.1 k1
    rw [if_pos (by omega)]
    have m := div_may nm fm no fo (show f.val ≠ 0 by omega) false
    have vp := (vs.1 (xs.1 g1)).1 k3
    exact fin _ m.1 m.2 (div_dn nm fm no fo (by omega) k3 w2 (by omega) (.inr ⟨nk, by rw [u1]; exact g2⟩) (.inl ⟨by omega, by omega⟩))
  · obtain ⟨t1, t2, t3⟩ := pn.1 g1
    obtain ⟨u1, u2, u3⟩ := pf.2.1 k1
    rw [if_neg (by omega)]
    have m := div_may nm fm no fo (show f.val ≠ 0 by omega) true
    have vp := (vs.1 (xs.1 g1)).2 k3
    exact fin' _ m.1 m.2 (div_up (w := -w) nm fm no fo (by omega) (by omega) (by omega) (by omega) (.inr ⟨nk, by rw [u1, em2]; simp; omega⟩) (.inr ⟨by omega, by omega⟩))
  · obtain ⟨t1, t2, t3⟩ := pn.2.1 g1
    obtain ⟨u1, u2, u3⟩ := pf.1 k1
    rw [if_neg (by omega)]
    have m := div_may nm fm no fo (show f.val ≠ 0 by omega) true
    have vp := (vs.2 (xs.2 g1)).1 k3
    exact fin' _ m.1 m.2 (div_up nm fm no fo (by omega) k3 w2 (by omega) (.inr ⟨nk, by rw [u1]; exact g2⟩) (.inr ⟨by omega, by omega⟩))
  · obtain ⟨t1, t2, t3⟩ := pn.2.1 g1
    obtain ⟨u1, u2, u3⟩ := pf.2.1 k1
    rw [if_pos (by omega)]
    have m := div_may nm fm no fo (show f.val ≠ 0 by omega) false
    have vp := (vs.2 (xs.2 g1)).2 k3
    exact fin _ m.1 m.2 (div_dn (w := -w) nm fm no fo (by omega) (by omega) (by omega) (by omega) (.inr ⟨nk, by rw [u1, em2]; simp; omega⟩) (.inl ⟨by omega, by omega⟩))

theorem Iv.point_real {n : Num} (m : n.may = true) (o : n.ok) (k : n.kind ≠ 2) : Iv.point n = ⟨false, n, n⟩ ∧ (Iv.mk false n n).Real := by
  have k' := (Num.fin_val m o).1 k
  have R : (Iv.mk false n n).Real := ⟨rfl, m, m, o, o, Int.le_refl _, k'.2, k'.1⟩
  refine ⟨?_, R⟩
  unfold Iv.point
  rw [Iv.make_real (by rw [Num.fair_of_may m]; exact R), Num.fair_of_may m]

theorem Iv.mul_points {y z : Num} (my : y.may = true) (mz : z.may = true) (oy : y.ok) (oz : z.ok) (ky : y.kind ≠ 2) (kz : z.kind ≠ 2) :
    (Iv.mul (Iv.point y) (Iv.point z)).Real ∧ (Iv.mul (Iv.point y) (Iv.point z)).lo.below (y.val * z.val) ∧ (Iv.mul (Iv.point y) (Iv.point z)).hi.above (y.val * z.val) := by
  obtain ⟨ey, ry⟩ := Iv.point_real my oy ky
  obtain ⟨ez, rz⟩ := Iv.point_real mz oz kz
  rw [ey, ez]
  unfold Iv.mul
  rw [Iv.anyBad2 ry rz, if_neg (by decide)]
  unfold Iv.corners
  dsimp only
  have d := mul_side my mz oy oz ky kz false
  have u := mul_side my mz oy oz ky kz true
  generalize Num.mul y z false = p at *
  generalize Num.mul y z true = q at *
  obtain ⟨d1, d2⟩ := d.down rfl
  obtain ⟨u1, u2⟩ := u.up rfl
  have p0 := pw_pos 0
  have P := pw_pos 1048640
  obtain ⟨l1, l2, l3, l4⟩ := Num.least_spec [p, p, p, p] (by simp [d.ok])
  obtain ⟨m1, m2, m3, m4⟩ := Num.most_spec [q, q, q, q] (by simp [u.ok])
  have dv := (Num.ne_inf d.may d.ok).1.1 d1
  have uv := (Num.ne_inf u.may u.ok).2.1 u1
  have el : Num.least [p, p, p, p] = p := by
    have a := l3 p (by simp)
    rw [Num.fair_of_may d.may] at a
    rcases l4 with l4 | ⟨x, hx, l4⟩
    · rw [l4, Num.val_inf] at a; simp at a; omega
    · have : x = p := by simpa using hx
      rw [l4, this, Num.fair_of_may d.may]
  have em : Num.most [q, q, q, q] = q := by
    have a := m3 q (by simp)
    rw [Num.fair_of_may u.may] at a
    rcases m4 with m4 | ⟨x, hx, m4⟩
    · rw [m4, Num.val_inf] at a; simp at a; omega
    · have : x = q := by simpa using hx
      rw [m4, this, Num.fair_of_may u.may]
  rw [el, em]
  have pk : p = Num.inf true ∨ (p.kind ≠ 2 ∧ p.val * pw 0 ≤ y.val * z.val) := by
    rcases d2 with h | h
    · exact .inl h
    · by_cases hk : p.kind = 2
      · rcases Num.inf_val d.may d.ok hk with g | g
        · exact .inl (by rw [Num.inf_of d.may d.ok hk, g.1])
        · exact absurd (by rw [Num.inf_of d.may d.ok hk, g.1]) d1
      · exact .inr ⟨hk, h⟩
  have qk : q = Num.inf false ∨ (q.kind ≠ 2 ∧ y.val * z.val ≤ q.val * pw 0) := by
    rcases u2 with h | h
    · exact .inl h
    · by_cases hk : q.kind = 2
      · rcases Num.inf_val u.may u.ok hk with g | g
        · exact absurd (by rw [Num.inf_of u.may u.ok hk, g.1]) u1
        · exact .inl (by rw [Num.inf_of u.may u.ok hk, g.1])
      · exact .inr ⟨hk, h⟩
  have le : p.val ≤ q.val := by
    rcases pk with h | h
    · rw [h, Num.val_inf]; have := Num.val_le u.may u.ok; simp; omega
    · rcases qk with k | k
      · rw [k, Num.val_inf]; have := Num.val_le d.may d.ok; simp; omega
      · exact Int.le_of_mul_le_mul_right (Int.le_trans h.2 k.2) p0
  have R : (Iv.mk false p.fair q.fair).Real := by
    rw [Num.fair_of_may d.may, Num.fair_of_may u.may]
    exact ⟨rfl, d.may, u.may, d.ok, u.ok, le, dv, uv⟩
  rw [Iv.make_real R]
  refine ⟨R, ?_, ?_⟩
  · show p.fair.below _; rw [Num.fair_of_may d.may]; exact pk
  · show q.fair.above _; rw [Num.fair_of_may u.may]; exact qk

/-- a number times a divisor, divided by it, is within the quotient -/
theorem quotients {b : Iv} {y z : Num} (oy : y.ok) (oz : z.ok) (o1 : b.lo.ok) (o2 : b.hi.ok) (h1 : Iv.has b y = true) (h2 : y.sign ≠ 0) (h3 : z.kind ≠ 2) (h4 : z.may = true) :
    Iv.has (Iv.div (Iv.mul (Iv.point y) (Iv.point z)) b) z = true := by
  obtain ⟨k, R, l, u⟩ := (Iv.has_iff oy o1 o2).1 h1
  have my : y.may = true := by
    cases hh : y.may
    · exfalso; apply h2
      have e : y.fair = Num.zero := by unfold Num.fair; rw [if_neg (by simp [hh])]
      unfold Num.sign; rw [e]; rfl
    · rfl
  rw [Num.fair_of_may my] at k l u
  obtain ⟨r1, r2, r3⟩ := Iv.mul_points my h4 oy oz k h3
  have vy := (Num.fin_val my oy).1 k
  have vz := (Num.fin_val h4 oz).1 h3
  have hy : y.val ≠ 0 := fun g => h2 ((Num.val_pos my oy).2.2 g).1
  rw [Int.mul_comm] at r2 r3
  obtain ⟨q1, q2, q3⟩ := Iv.div_has r1 R hy l u vy.1 vy.2 vz.1 vz.2 r2 r3
  exact (Iv.has_iff oz q1.loo q1.hio).2 ⟨by rw [Num.fair_of_may h4]; exact h3, q1, by rw [Num.fair_of_may h4]; exact q2, by rw [Num.fair_of_may h4]; exact q3⟩
end Go.Proofs.Ytaiillbjhdoikaa.Ev

/- Sums and differences of two numbers, the parts: plain Lean. -/
namespace Go.Proofs.Ytaiillbjhdoikaa.Ev
open Go

structure Dbl where
  hi : Int
  lo : Int
  cut : Bool
def Dbl.av (d : Dbl) : AV := .agg [.int .u64 (.s d.hi), .int .u64 (.s d.lo), .bool (.s d.cut)]
theorem Dbl.fin {t r : Dbl} (h : t = r) : t.hi = r.hi ∧ t.lo = r.lo ∧ t.cut = r.cut ∧ True := by subst h; exact ⟨rfl, rfl, rfl, trivial⟩

/-- the sum of two of one sign: 128 bits, or one more -/
def plusX (a b : Num) : Int := a.m * 18446744073709551616 + b.m * 18446744073709551616 / 2 ^ (a.e - b.e).toNat
def plusC (a b : Num) : Bool := decide (b.m * 18446744073709551616 % 2 ^ (a.e - b.e).toNat ≠ 0)
def plusP (a b : Num) (up : Bool) : Num :=
  if plusX a b < 340282366920938463463374607431768211456 then Num.grow a.neg (plusX a b / 18446744073709551616) a.e (plusC a b || decide (plusX a b % 18446744073709551616 ≠ 0)) (up != a.neg)
  else Num.grow a.neg (plusX a b / 36893488147419103232) (a.e + 1) (plusC a b || decide (plusX a b % 36893488147419103232 ≠ 0)) (up != a.neg)

section
variable {a b : Num} {up : Bool} {D : Dbl}
end
end Go.Proofs.Ytaiillbjhdoikaa.Ev

/- Division of two words by one: plain Lean. -/
namespace Go.Proofs.Ytaiillbjhdoikaa.Ev
open Go

section
variable {y u un q r : Int}

end
end Go.Proofs.Ytaiillbjhdoikaa.Ev

/- The difference of two numbers: plain Lean. -/
namespace Go.Proofs.Ytaiillbjhdoikaa.Ev
open Go

def minusZ (a b : Num) : Int := a.m * 18446744073709551616 - b.m * 18446744073709551616 / 2 ^ (a.e - b.e).toNat - (if plusC a b then 1 else 0)
def minusP (a b : Num) (up : Bool) : Num :=
  Num.grow a.neg (minusZ a b * 2 ^ (128 - blen (minusZ a b)).toNat / 18446744073709551616) (a.e - (128 - blen (minusZ a b))) (plusC a b || decide (minusZ a b * 2 ^ (128 - blen (minusZ a b)).toNat % 18446744073709551616 ≠ 0)) (up != a.neg)

section
variable {a b : Num} {up : Bool} {D : Dbl}
end
end Go.Proofs.Ytaiillbjhdoikaa.Ev

/- The sum of two numbers: plain Lean. -/
namespace Go.Proofs.Ytaiillbjhdoikaa.Ev
open Go

def Num.addS (a b : Num) (up : Bool) : Num := if a.neg = b.neg then plusP a b up else if a.e = b.e ∧ a.m = b.m then Num.zero else minusP a b up
def Num.addF (a b : Num) (up : Bool) : Num := if a.e < b.e ∨ (a.e = b.e ∧ a.m < b.m) then Num.addS b a up else Num.addS a b up
def Num.add (a b : Num) (up : Bool) : Num :=
  if a.fair.kind = 2 ∧ b.fair.kind = 2 ∧ a.fair.neg ≠ b.fair.neg then Num.inf (!up)
  else if a.fair.kind = 2 ∨ b.fair.kind = 0 then a.fair else if b.fair.kind = 2 ∨ a.fair.kind = 0 then b.fair else Num.addF a.fair b.fair up
end Go.Proofs.Ytaiillbjhdoikaa.Ev

/- Whole numbers as numbers, the opposite, how far from nought, the square: plain Lean. -/
namespace Go.Proofs.Ytaiillbjhdoikaa.Ev
open Go

theorem E_br_t {P : Program} {E : Env} (hE : E = realE P) {c : Bool} {t f : Unit → Prop} (h : c = true) (ht : t ()) : E.br c t f := by
  subst hE; exact ⟨fun _ => ht, fun h' => (by rw [h] at h'; cases h')⟩
theorem E_br_f {P : Program} {E : Env} (hE : E = realE P) {c : Bool} {t f : Unit → Prop} (h : c = false) (hf : f ()) : E.br c t f := by
  subst hE; exact ⟨fun h' => (by rw [h] at h'; cases h'), fun _ => hf⟩

def Num.ofInt (n : Int) : Num :=
  if n = 0 then Num.zero else ⟨1, decide (n < 0), IntKind.u64.wrap ((n.natAbs : Int) * 2 ^ min (Int.toNat (64 - blen n.natAbs)) IntKind.u64.bits), IntKind.i64.wrap (0 - (64 - blen n.natAbs))⟩
def Iv.neg (a : Iv) : Iv := if Iv.anyBad [a] then Iv.none else Iv.make a.hi.opp a.lo.opp
end Go.Proofs.Ytaiillbjhdoikaa.Ev

/- The sum of intervals: plain Lean. -/
namespace Go.Proofs.Ytaiillbjhdoikaa.Ev
open Go

def Iv.addStep (p : Num × Num) (x : Iv) : Num × Num := (Num.add p.1 x.lo false, Num.add p.2 x.hi true)
def Iv.addEnds : List Iv → Num × Num
  | [] => (Num.zero, Num.zero)
  | x :: r => r.foldl Iv.addStep (x.lo, x.hi)
def Iv.add (l : List Iv) : Iv := if Iv.anyBad l then Iv.none else Iv.make (Iv.addEnds l).1 (Iv.addEnds l).2
end Go.Proofs.Ytaiillbjhdoikaa.Ev

/- Whole numbers as numbers are exact: plain Lean. -/
namespace Go.Proofs.Ytaiillbjhdoikaa.Ev
open Go

end Go.Proofs.Ytaiillbjhdoikaa.Ev

/- What a rounded number is: of all numbers on its side of the exact one the nearest. Plain Lean. -/
namespace Go.Proofs.Ytaiillbjhdoikaa.Ev
open Go

/-- the nearest one on a side of t / c -/
structure Best (r : Num) (up : Bool) (t c : Int) : Prop where
  may : r.may = true
  ok : r.ok
  down : up = false → r ≠ Num.inf false ∧ (r = Num.inf true ∨ r.val * c ≤ t)
  dopt : up = false → ∀ s : Num, s.may = true → s.ok → s ≠ Num.inf false → s.val * c ≤ t → s.val ≤ r.val
  uopt : up = true → ∀ s : Num, s.may = true → s.ok → s ≠ Num.inf true → t ≤ s.val * c → r.val ≤ s.val
  hi : up = true → r ≠ Num.inf true ∧ (r = Num.inf false ∨ t ≤ r.val * c)

theorem Best.side {r : Num} {up : Bool} {t c : Int} (h : Best r up t c) : Side r up t c := ⟨h.may, h.ok, h.down, h.hi⟩

theorem Best.mono {r r' : Num} {up : Bool} {t c t' c' : Int} (h : Best r up t c) (h' : Best r' up t' c') (hc : 0 < c) (hc' : 0 < c') (ht : t * c' ≤ t' * c) : r.val ≤ r'.val := by
  have key : ∀ v : Int, v * c ≤ t → v * c' ≤ t' := by
    intro v hv
    have h1 : v * c * c' ≤ t * c' := Int.mul_le_mul_of_nonneg_right hv (Int.le_of_lt hc')
    refine Int.le_of_mul_le_mul_right (a := c) ?_ hc
    have : v * c' * c = v * c * c' := by grind
    omega
  have key2 : ∀ v : Int, t' ≤ v * c' → t ≤ v * c := by
    intro v hv
    have h1 : t' * c ≤ v * c' * c := Int.mul_le_mul_of_nonneg_right hv (Int.le_of_lt hc)
    refine Int.le_of_mul_le_mul_right (a := c') ?_ hc'
    have : v * c' * c = v * c * c' := by grind
    omega
  cases up with
  | false =>
    obtain ⟨d1, d2⟩ := h.down rfl
    rcases d2 with d2 | d2
    · have := (Num.val_le h'.may h'.ok).1
      rw [d2, Num.val_inf]
      simpa using this
    · exact h'.dopt rfl r h.may h.ok d1 (key _ d2)
  | true =>
    obtain ⟨d1, d2⟩ := h'.hi rfl
    rcases d2 with d2 | d2
    · have := (Num.val_le h.may h.ok).2
      rw [d2, Num.val_inf]
      simpa using this
    · exact h.uopt rfl r' h'.may h'.ok d1 (key2 _ d2)

theorem Best.uniq {r r' : Num} {up : Bool} {t c t' c' : Int} (h : Best r up t c) (h' : Best r' up t' c') (hc : 0 < c) (hc' : 0 < c') (ht : t * c' = t' * c) : r = r' :=
  Num.val_inj h.may h'.may h.ok h'.ok (Int.le_antisymm (h.mono h' hc hc' (by omega)) (h'.mono h hc' hc (by omega)))

/-- what is a number is not rounded -/
theorem Best.exact {r s : Num} {up : Bool} {t c : Int} (h : Best r up t c) (hc : 0 < c) (ms : s.may = true) (os : s.ok) (ks : s.kind ≠ 2) (ht : s.val * c = t) : r = s := by
  have n : ∀ b, s ≠ Num.inf b := fun b g => ks (by rw [g]; rfl)
  refine h.uniq (t' := s.val) (c' := 1) ⟨ms, os, fun _ => ⟨n _, .inr (by omega)⟩, fun _ x _ _ _ hx => by omega, fun _ x _ _ _ hx => by omega, fun _ => ⟨n _, .inr (by omega)⟩⟩ hc (by decide) (by omega)

/-- down is not above up -/
theorem Best.le {r r' : Num} {t c : Int} (h : Best r false t c) (h' : Best r' true t c) (hc : 0 < c) : r.val ≤ r'.val := by
  obtain ⟨d1, d2⟩ := h.down rfl
  obtain ⟨e1, e2⟩ := h'.hi rfl
  rcases d2 with d2 | d2
  · have := (Num.val_le h'.may h'.ok).1
    rw [d2, Num.val_inf]
    simpa using this
  · rcases e2 with e2 | e2
    · have := (Num.val_le h.may h.ok).2
      rw [e2, Num.val_inf]
      simpa using this
    · exact Int.le_of_mul_le_mul_right (a := c) (by omega) hc

end Go.Proofs.Ytaiillbjhdoikaa.Ev

/- Products, quotients and sums are rounded as they ought to be: plain Lean. -/
namespace Go.Proofs.Ytaiillbjhdoikaa.Ev
open Go

end Go.Proofs.Ytaiillbjhdoikaa.Ev

/- The reference's rounding is the best; its products and quotients are the program's: plain Lean. -/
namespace Go.Proofs.Ytaiillbjhdoikaa.Ev
open Go

theorem Best.scale {r : Num} {up : Bool} {t c : Int} (h : Best r up t 1) (hc : 0 < c) : Best r up (t * c) c := by
  refine ⟨h.may, h.ok, fun u => ⟨(h.down u).1, ?_⟩, fun u s ms os ks hs => ?_, fun u s ms os ks hs => ?_, fun u => ⟨(h.hi u).1, ?_⟩⟩
  · rcases (h.down u).2 with k | k
    · exact .inl k
    · exact .inr (Int.mul_le_mul_of_nonneg_right (by omega) (Int.le_of_lt hc))
  · exact h.dopt u s ms os ks (by have := Int.le_of_mul_le_mul_right hs hc; omega)
  · exact h.uopt u s ms os ks (by have := Int.le_of_mul_le_mul_right hs hc; omega)
  · rcases (h.hi u).2 with k | k
    · exact .inl k
    · exact .inr (Int.mul_le_mul_of_nonneg_right (by omega) (Int.le_of_lt hc))

end Go.Proofs.Ytaiillbjhdoikaa.Ev

/- The reference's sums are the program's: plain Lean. -/
namespace Go.Proofs.Ytaiillbjhdoikaa.Ev
open Go

end Go.Proofs.Ytaiillbjhdoikaa.Ev

/- Contracts: whole numbers of any length. Printed by gen.py. -/
namespace Go.Proofs.Ytaiillbjhdoikaa.Ev
open Go Go.Proofs
set_option linter.unusedVariables false
set_option linter.unusedSimpArgs false

attribute [local irreducible] Lb
theorem mulLen {a b : List Int} (ha : Lb a) (hb : Lb b) : (lim (lv a * lv b)).length ≤ a.length + b.length :=
  lim_length_le (by rw [Nat.pow_add]; exact Nat.mul_lt_mul'' (lv_lt ha) (lv_lt hb))
theorem limp (n : Nat) : 0 < (lim n).length ↔ n ≠ 0 := by
  constructor
  · intro h e; rw [e] at h; exact absurd h (by decide)
  · intro h
    rcases Nat.eq_zero_or_pos (lim n).length with k | k
    · exact absurd (lim_eq_nil.1 (List.length_eq_zero_iff.1 k)) h
    · exact k
theorem c_wMake (neg : Bool) (m : List Int) (hm_ : Lb m) (hl : m.length ≤ 268435456) : ∃ t : Bool × List Int, t = (neg && decide (lv m ≠ 0), lim (lv m)) ∧ CallsA Try.prog 41 [.bool (.s neg), .sli .u32 m] (.agg [.bool (.s t.1), .sli .u32 t.2]) := by
  refine ⟨_, rfl, ?_⟩
  generalize hr : ((neg && decide (lv m ≠ 0), lim (lv m)) : Bool × List Int) = r
  have pos := limp (lv m)
  obtain ⟨x, ex⟩ : ∃ x, lim (lv m) = x := ⟨_, rfl⟩
  rw [ex] at hr pos
  have yes : neg = true → ∀ b : Bool, b = decide ((0 : Int) < (x.length : Int)) → (b, x) = r := by
    intro h b hb
    rw [← hr, h, hb]
    have : decide ((0 : Int) < (x.length : Int)) = decide (lv m ≠ 0) := by
      by_cases z : lv m = 0
      · rw [decide_eq_false (by have := fun q => pos.1 q; omega), decide_eq_false (by simp [z])]
      · rw [decide_eq_true (by have := pos.2 z; omega), decide_eq_true z]
    rw [this]; rfl
  have no : neg = false → (false, x) = r := by intro h; rw [← hr, h]; rfl
  clear hr pos
  refine callsA_of hG hm Try.func41 (by kernel_rfl) ?_
  intro E hE lp hl'
  cbv
  (first | (apply E_pcallX hE (c_Trim _ hm_ ?_); (case hm => rfl); (case hle => (repeat' (first | exact u_nil | apply u_cons | apply u2_agg | exact u2_int | exact u1_int | exact u2_bool | exact u1_bool | exact u2_sli | exact u1_sli | exact u2_s0 | exact u1_s0))); all_goals (first | (intro y hy; cbv) | (exact hl))) | (apply E_callX hE (c_Trim _ hm_ ?_); (case hf => rfl); (case hc => (cbv <;> trivial)); (case hle => (repeat' (first | exact u_nil | apply u_cons | apply u2_agg | exact u2_int | exact u1_int | exact u2_bool | exact u1_bool | exact u2_sli | exact u1_sli | exact u2_s0 | exact u1_s0))); all_goals (first | (intro y hy; cbv) | (exact hl))))
  have Y : y = x := hy.trans ex
  rw [Y]
  clear hy Y
  refine E_br hE (fun g => ?_) (fun g => ?_) <;> cbv
  · rw [← yes g (E.cmp .gtr (E.len x) 0) (by subst hE; rfl)]; exact ⟨rfl, rfl, trivial⟩
  · rw [← no g]; exact ⟨rfl, rfl, trivial⟩

theorem c_wMul2 (na : Bool) (a : List Int) (nb : Bool) (b : List Int) (ha : Lb a) (hb : Lb b) (hla : a.length < 60000000) (hlb : b.length < 60000000) :
    ∃ t : Bool × List Int, t = ((na != nb) && decide (lv a * lv b ≠ 0), lim (lv a * lv b)) ∧ CallsA Try.prog 19 [.slc 2 (.l 2) (fun i => getRow [[.bool (.s na), .sli .u32 a], [.bool (.s nb), .sli .u32 b]] (Int.ofNat i))] (.agg [.bool (.s t.1), .sli .u32 t.2]) := by
  refine ⟨_, rfl, ?_⟩
  generalize hr : (((na != nb) && decide (lv a * lv b ≠ 0), lim (lv a * lv b)) : Bool × List Int) = r
  have l1 : Lb [(1 : Int)] := Lb.cons (by decide) (by decide) Lb.nil
  have m1 : ∀ u, u = lim (lv [(1 : Int)] * lv a) → Lb u ∧ u.length < 134217728 ∧ lv u = lv a := by
    intro u hu
    have e : lv [(1 : Int)] * lv a = lv a := by show 1 * lv a = lv a; omega
    rw [e] at hu
    have l := lim_length_le' ha
    rw [hu]; exact ⟨lim_lb _, by omega, lv_lim _⟩
  have m2 : ∀ u v, lv u = lv a → v = lim (lv u * lv b) → Lb v ∧ v.length ≤ 268435456 ∧ lv v = lv a * lv b := by
    intro u v hu hv
    rw [hu] at hv
    have l := mulLen ha hb
    rw [hv]; exact ⟨lim_lb _, by omega, lv_lim _⟩
  have fin : ∀ v (t : Bool × List Int) (n : Bool), lv v = lv a * lv b → n = (na != nb) → t = (n && decide (lv v ≠ 0), lim (lv v)) → t = r := by
    intro v t n h1 h2 h3; rw [h3, h1, h2, hr]
  clear hr
  refine callsA_of hG hm Try.func19 (by kernel_rfl) ?_
  intro E hE lp hl'
  have es : E.sub [1] 0 1 = [1] := by subst hE; rfl
  cbv
  refine E_frz hE hl' (d := 4) rfl rfl rfl trivial ?_
  refine E_rounds hE hG hm hl' 3 ?_
  cbv
  (first | (apply E_pcallX hE (c_natMul _ _ ?_ ha ?_ ?_); (case hm => rfl); (case hle => (repeat' (first | exact u_nil | apply u_cons | apply u2_agg | exact u2_int | exact u1_int | exact u2_bool | exact u1_bool | exact u2_sli | exact u1_sli | exact u2_s0 | exact u1_s0))); all_goals (first | (intro u hu; cbv) | (first | (show Lb (E.sub [1] 0 1); rw [es]; exact l1) | (show (E.sub [1] 0 1).length < 134217728; rw [es]; show (1 : Nat) < 134217728; decide) | exact Nat.lt_of_lt_of_le hla (by decide)))) | (apply E_callX hE (c_natMul _ _ ?_ ha ?_ ?_); (case hf => rfl); (case hc => (cbv <;> trivial)); (case hle => (repeat' (first | exact u_nil | apply u_cons | apply u2_agg | exact u2_int | exact u1_int | exact u2_bool | exact u1_bool | exact u2_sli | exact u1_sli | exact u2_s0 | exact u1_s0))); all_goals (first | (intro u hu; cbv) | (first | (show Lb (E.sub [1] 0 1); rw [es]; exact l1) | (show (E.sub [1] 0 1).length < 134217728; rw [es]; show (1 : Nat) < 134217728; decide) | exact Nat.lt_of_lt_of_le hla (by decide)))))
  have U := m1 u (by have k : u = lim (lv (E.sub [1] 0 1) * lv a) := hu; rw [es] at k; exact k)
  clear hu m1
  (first | (apply E_pcallX hE (c_natMul _ _ U.1 hb U.2.1 ?_); (case hm => rfl); (case hle => (repeat' (first | exact u_nil | apply u_cons | apply u2_agg | exact u2_int | exact u1_int | exact u2_bool | exact u1_bool | exact u2_sli | exact u1_sli | exact u2_s0 | exact u1_s0))); all_goals (first | (intro v hv; cbv) | (exact Nat.lt_of_lt_of_le hlb (by decide)))) | (apply E_callX hE (c_natMul _ _ U.1 hb U.2.1 ?_); (case hf => rfl); (case hc => (cbv <;> trivial)); (case hle => (repeat' (first | exact u_nil | apply u_cons | apply u2_agg | exact u2_int | exact u1_int | exact u2_bool | exact u1_bool | exact u2_sli | exact u1_sli | exact u2_s0 | exact u1_s0))); all_goals (first | (intro v hv; cbv) | (exact Nat.lt_of_lt_of_le hlb (by decide)))))
  have V := m2 u v U.2.2 hv
  clear hv m2
  (first | (apply E_pcallX hE (c_wMake _ _ V.1 V.2.1); (case hm => rfl); (case hle => (repeat' (first | exact u_nil | apply u_cons | apply u2_agg | exact u2_int | exact u1_int | exact u2_bool | exact u1_bool | exact u2_sli | exact u1_sli | exact u2_s0 | exact u1_s0))); all_goals (first | (intro t ht; cbv) | (assumption))) | (apply E_callX hE (c_wMake _ _ V.1 V.2.1); (case hf => rfl); (case hc => (cbv <;> trivial)); (case hle => (repeat' (first | exact u_nil | apply u_cons | apply u2_agg | exact u2_int | exact u1_int | exact u2_bool | exact u1_bool | exact u2_sli | exact u1_sli | exact u2_s0 | exact u1_s0))); all_goals (first | (intro t ht; cbv) | (assumption))))
  rw [← fin v t _ V.2.2 (by subst hE; cases na <;> cases nb <;> rfl) ht]; exact ⟨rfl, rfl, trivial⟩
theorem c_wNeg (na : Bool) (a : List Int) (ha : Lb a) (hla : a.length ≤ 268435456) :
    ∃ t : Bool × List Int, t = (!na && decide (lv a ≠ 0), lim (lv a)) ∧ CallsA Try.prog 39 [.agg [.bool (.s na), .sli .u32 a]] (.agg [.bool (.s t.1), .sli .u32 t.2]) := by
  refine ⟨_, rfl, ?_⟩
  generalize hr : ((!na && decide (lv a ≠ 0), lim (lv a)) : Bool × List Int) = r
  refine callsA_of hG hm Try.func39 (by kernel_rfl) ?_
  intro E hE lp hl'
  have en : E.bnot na = !na := by subst hE; rfl
  cbv
  (first | (apply E_pcallX hE (c_wMake _ _ ha hla); (case hm => rfl); (case hle => (repeat' (first | exact u_nil | apply u_cons | apply u2_agg | exact u2_int | exact u1_int | exact u2_bool | exact u1_bool | exact u2_sli | exact u1_sli | exact u2_s0 | exact u1_s0))); all_goals (first | (intro t ht; cbv) | (assumption))) | (apply E_callX hE (c_wMake _ _ ha hla); (case hf => rfl); (case hc => (cbv <;> trivial)); (case hle => (repeat' (first | exact u_nil | apply u_cons | apply u2_agg | exact u2_int | exact u1_int | exact u2_bool | exact u1_bool | exact u2_sli | exact u1_sli | exact u2_s0 | exact u1_s0))); all_goals (first | (intro t ht; cbv) | (assumption))))
  have k : t = (E.bnot na && decide (lv a ≠ 0), lim (lv a)) := ht
  rw [en, hr] at k
  rw [k]; exact ⟨rfl, rfl, trivial⟩

end Go.Proofs.Ytaiillbjhdoikaa.Ev

/- Contracts: limbs shifted. Printed by gen.py. -/
namespace Go.Proofs.Ytaiillbjhdoikaa.Ev
open Go Go.Proofs
set_option linter.unusedVariables false
set_option linter.unusedSimpArgs false


attribute [local irreducible] Lb
def shlS (E : Env) (x : List Int) (l r : Int) : Int × List Int → St := fun p => ⟨[(0, .sli .u32 x), (5, .int .i64 (.s l)), (6, .int .i64 (.s r)), (7, .ms 0 1 (.l 0) (.s (E.bin .add .i64 (E.bin .add .i64 (E.len x) l) 1))), (36, .sli .u32 x), (37, .int .i64 (.s (E.len x))), (38, .int .i64 (.s p.1))], [.ints true .u32 p.2]⟩
set_option maxHeartbeats 1000000 in
theorem c_natShl (a : List Int) (n : Int) (ha : Lb a) (hla : a.length < 67108864) : ∃ t : List Int, t = (if n < 1 then lim (lv a) else if 16777216 < n then [] else lim (lv a * 2 ^ n.toNat)) ∧ CallsA Try.prog 57 [.sli .u32 a, .int .i64 (.s n)] (.sli .u32 t) := by
  refine ⟨_, rfl, ?_⟩
  generalize hr : (if n < 1 then lim (lv a) else if 16777216 < n then [] else lim (lv a * 2 ^ n.toNat)) = r
  have hlx := lim_length_le' ha
  have hx := lim_lb (lv a)
  have vx := lv_lim (lv a)
  obtain ⟨x, ex⟩ : ∃ x, lim (lv a) = x := ⟨_, rfl⟩
  rw [ex] at hlx hx vx
  obtain ⟨m, em⟩ : ∃ m : Int × List Int → Nat, ∀ p, m p = (x.length - p.1).toNat := ⟨_, fun _ => rfl⟩
  obtain ⟨ok, eok⟩ : ∃ ok : Int × List Int → Prop, ∀ p, ok p ↔ 0 ≤ p.1 ∧ p.1 ≤ x.length ∧ ShlInv x p.2 (n / 32).toNat (n % 32).toNat p.1.toNat := ⟨_, fun _ => Iff.rfl⟩
  have eN : ∀ l : Int, 1 ≤ n → n ≤ 16777216 → l = intBinR .quo .i64 n 32 → IntKind.i64.wrap (IntKind.i64.wrap ((x.length : Int) + l) + 1) = x.length + n / 32 + 1 := by
    intro l n1 n2 el
    have : l = n / 32 := by rw [el]; exact quo32 (by omega) (by omega)
    rw [this, wi64_id (n := (x.length : Int) + n / 32) (by omega) (by omega), wi64_id (by omega) (by omega)]
  refine callsA_of hG hm Try.func57 (by kernel_rfl) ?_
  intro E hE lp hl
  cbv
  (apply E_callX hE (c_cut a ha (by omega)); (case hf => rfl); (case hc => (cbv <;> trivial)); (case hle => exact ⟨u2_sli, trivial⟩); intro x' hx'; cbv)
  rw [hx'.trans ex]
  clear hx' x'
  refine E_br hE (fun h => ?_) (fun h => ?_)
  · have e : x = r := by subst hE; rw [← hr, if_pos (lss_t h), ex]
    cbv
    repeat' (first
    | (refine E_br hE (fun h => ?_) (fun h => ?_) <;> cbv)
    | (refine E_nm hE (fun v hv => ?_); cbv)
    | (refine E_nilS hE (fun b hb => ?_); cbv)
    | (apply E_callX hE (c_Clone _ ?_); (case hf => rfl); (case hc => (cbv <;> trivial)); (case hle => exact u_up); all_goals (first | (intro t ht; cbv) | (omega)))
    | fail)
    exact ‹_ = x›.trans e
  have n1 : 1 ≤ n := by subst hE; have := lss_f h; omega
  cbv
  repeat' (first
    | (refine E_br hE (fun h => ?_) (fun h => ?_) <;> cbv)
    | (refine E_nm hE (fun v hv => ?_); cbv)
    | (refine E_nilS hE (fun b hb => ?_); cbv)
    | fail)
  · have n2 : 16777216 < n := by subst hE; exact gtr_t ‹_›
    rw [← hr, if_neg (by omega), if_pos n2]
  · have e0 : x.length = 0 := by subst hE; have := eql_t h; simp only [realE] at this; omega
    have e1 : x = [] := List.length_eq_zero_iff.1 e0
    rw [e1] at vx
    rw [← hr, if_neg (by omega)]
    split
    · rfl
    · rw [← vx]; simp [lv, lim_zero]
  all_goals (have n2 : n ≤ 16777216 := (by subst hE; have := gtr_f ‹(realE Try.prog).cmp .gtr n 16777216 = false›; omega))
  all_goals (try (exfalso; have := eN _ n1 n2 (by subst hE; assumption); subst hE; simp only [NatCast.natCast, Int.ofNat_eq_natCast, realE, cmp_eql, cmp_neq, cmp_lss, cmp_leq, cmp_gtr, cmp_geq, intBinR, decide_eq_true_eq, decide_eq_false_iff_not, SI.val, SB.val, Num.eta, Iv.eta] at *; rw [this] at *; omega))
  rename_i l el _ _
  replace eN := eN l n1 n2 (by subst hE; exact el)
  simp only [NatCast.natCast, Int.ofNat_eq_natCast] at eN
  have er := hv
  have l1 : l = n / 32 := by subst hE; rw [el]; exact quo32 (by omega) (by omega)
  have r1 : 0 ≤ v := by
    have : v = n % 32 := by subst hE; rw [hv]; exact rem32 (by omega)
    omega
  clear hv
  refine E_loop hE hG hm hl (shlS E x l v) m ok ⟨(0, E.rep (E.bin .add .i64 (E.bin .add .i64 (E.len x) l) 1)), (eok _).2 ?_, stLe rfl ?_⟩ ?_
  · refine ⟨by show (0 : Int) ≤ 0; omega, by show (0 : Int) ≤ x.length; omega, ?_⟩
    have := ShlInv.start x (n / 32).toNat (n % 32).toNat
    subst hE; simp only [NatCast.natCast, Int.ofNat_eq_natCast, realE, cmp_eql, cmp_neq, cmp_lss, cmp_leq, cmp_gtr, cmp_geq, intBinR, decide_eq_true_eq, decide_eq_false_iff_not, SI.val, SB.val, Num.eta, Iv.eta] at *; rw [eN, show ((x.length : Int) + n / 32 + 1).toNat = x.length + (n / 32).toNat + 1 by omega]
    exact this
  · (repeat' (first | exact t_nil | apply t_cons | exact u2_sli | exact u2_int | exact u2_bool | exact u2_ms | exact u2_ptr | exact (rfl : sle2 .s0 .s0)))
  rintro ⟨i, out⟩ hok
  have h1 : 0 ≤ i := ((eok _).1 hok).1
  have h2 : i ≤ x.length := ((eok _).1 hok).2.1
  have inv : ShlInv x out (n / 32).toNat (n % 32).toNat i.toNat := ((eok _).1 hok).2.2
  have hol := inv.len
  have fin : ¬ i < x.length → Lb out ∧ lim (lv out) = r := by
    intro h
    have inv' := inv
    rw [show i.toNat = x.length by omega] at inv'
    refine ⟨inv.lb, ?_⟩
    rw [inv'.stop, ← hr, if_neg (by omega), if_neg (by omega), vx, show 32 * (n / 32).toNat + (n % 32).toNat = n.toNat by omega]
  have ht : lim (lv a * 2 ^ n.toNat) = r := by rw [← hr, if_neg (by omega), if_neg (by omega)]
  clear hok hr ex
  cbv
  repeat' (first
    | (refine E_br hE (fun h => ?_) (fun h => ?_) <;> cbv)
    | (refine E_nm hE (fun v hv => ?_); cbv)
    | (refine E_nilS hE (fun b hb => ?_); cbv)
    | (apply E_callX hE (c_cut _ ?_ ?_); (case hf => rfl); (case hc => (cbv <;> trivial)); (case hle => exact u_up); all_goals (first | (intro t ht; cbv) | ((subst hE; simp only [NatCast.natCast, Int.ofNat_eq_natCast, realE, cmp_eql, cmp_neq, cmp_lss, cmp_leq, cmp_gtr, cmp_geq, intBinR, decide_eq_true_eq, decide_eq_false_iff_not, SI.val, SB.val, Num.eta, Iv.eta] at *; rw [eN] at *; rw [sub_all (by omega)]; first | exact (fin ‹_›).1 | omega))))
    | fail)
  case hK => subst hE; simp only [NatCast.natCast, Int.ofNat_eq_natCast, realE, cmp_eql, cmp_neq, cmp_lss, cmp_leq, cmp_gtr, cmp_geq, intBinR, decide_eq_true_eq, decide_eq_false_iff_not, SI.val, SB.val, Num.eta, Iv.eta] at *; rw [‹t = _›, eN, sub_all (by omega), (fin ‹_›).2]
  all_goals (try refine ⟨(E.bin .add .i64 i 1, _), ?_, ?_, stLe rfl ?_⟩)
  all_goals (try ((repeat' (first | exact t_nil | apply t_cons | exact u2_sli | exact u2_int | exact u2_bool | exact u2_ms | exact u2_ptr | exact (rfl : sle2 .s0 .s0))); done))
  all_goals (subst hE)
  all_goals (try (first | (rw [em, em]; exact (shl_next hx (by omega) n1 n2 h1 (lss_t ‹_›) inv ‹_› el er ‹_› ‹_› rfl).2.2.1) | (rw [eok]; have q := shl_next hx (by omega) n1 n2 h1 (lss_t ‹_›) inv ‹_› el er ‹_› ‹_› rfl; exact ⟨q.1, q.2.1, q.2.2.2⟩)))
  all_goals (clear inv eok em fin ht er el; simp only [NatCast.natCast, Int.ofNat_eq_natCast, realE, cmp_eql, cmp_neq, cmp_lss, cmp_leq, cmp_gtr, cmp_geq, intBinR, decide_eq_true_eq, decide_eq_false_iff_not, SI.val, SB.val, Num.eta, Iv.eta] at *; (try rw [eN] at *); clear eN; (try simp only [wi64] at *); omega)
def shrS (E : Env) (x : List Int) (l r : Int) : Int × List Int → St := fun p => ⟨[(0, .sli .u32 x), (5, .int .i64 (.s l)), (6, .int .i64 (.s r)), (7, .ms 0 1 (.l 0) (.s (E.bin .sub .i64 (E.len x) l))), (33, .int .i64 (.s (E.bin .sub .i64 (E.len x) l))), (34, .int .i64 (.s p.1))], [.ints true .u32 p.2]⟩
set_option maxHeartbeats 1000000 in
theorem c_natShr (a : List Int) (n : Int) (ha : Lb a) (hla : a.length < 67108864) : ∃ t : List Int, t = lim (lv a / 2 ^ n.toNat) ∧ CallsA Try.prog 96 [.sli .u32 a, .int .i64 (.s n)] (.sli .u32 t) := by
  refine ⟨_, rfl, ?_⟩
  generalize hr : lim (lv a / 2 ^ n.toNat) = r
  have hlx := lim_length_le' ha
  have hx := lim_lb (lv a)
  have vx := lv_lim (lv a)
  obtain ⟨x, ex⟩ : ∃ x, lim (lv a) = x := ⟨_, rfl⟩
  rw [ex] at hlx hx vx
  obtain ⟨m, em⟩ : ∃ m : Int × List Int → Nat, ∀ p, m p = (x.length - p.1).toNat := ⟨_, fun _ => rfl⟩
  obtain ⟨ok, eok⟩ : ∃ ok : Int × List Int → Prop, ∀ p, ok p ↔ 0 ≤ p.1 ∧ p.1 ≤ (x.length : Int) - n / 32 ∧ ShrInv x p.2 (n / 32).toNat (n % 32).toNat p.1.toNat := ⟨_, fun _ => Iff.rfl⟩
  have eN : ∀ l : Int, 1 ≤ n → n < 32 * x.length → l = intBinR .quo .i64 n 32 → IntKind.i64.wrap ((x.length : Int) - l) = x.length - n / 32 := by
    intro l n1 n2 el
    have : l = n / 32 := by rw [el]; exact quo32 (by omega) (by omega)
    rw [this, wi64_id (by omega) (by omega)]
  have e32 : IntKind.i64.wrap (32 * (x.length : Int)) = 32 * x.length := wi64_id (by omega) (by omega)
  have big : 32 * (x.length : Int) ≤ n → lv a / 2 ^ n.toNat = 0 := by
    intro h
    have h1 := lv_lt hx
    rw [vx] at h1
    apply Nat.div_eq_of_lt
    have h2 : 4294967296 ^ x.length = 2 ^ (32 * x.length) := by rw [Nat.pow_mul]
    have h3 : 2 ^ (32 * x.length) ≤ 2 ^ n.toNat := Nat.pow_le_pow_right (by omega) (by omega)
    omega
  refine callsA_of hG hm Try.func96 (by kernel_rfl) ?_
  intro E hE lp hl
  cbv
  (apply E_callX hE (c_cut a ha (by omega)); (case hf => rfl); (case hc => (cbv <;> trivial)); (case hle => exact ⟨u2_sli, trivial⟩); intro x' hx'; cbv)
  rw [hx'.trans ex]
  clear hx' x'
  refine E_br hE (fun h => ?_) (fun h => ?_)
  · have e : x = r := by subst hE; have := lss_t h; rw [← hr, ← ex, show n.toNat = 0 by omega, Nat.pow_zero, Nat.div_one]
    cbv
    repeat' (first
    | (refine E_br hE (fun h => ?_) (fun h => ?_) <;> cbv)
    | (refine E_nm hE (fun v hv => ?_); cbv)
    | (refine E_nilS hE (fun b hb => ?_); cbv)
    | (apply E_callX hE (c_Clone _ ?_); (case hf => rfl); (case hc => (cbv <;> trivial)); (case hle => exact u_up); all_goals (first | (intro t ht; cbv) | (omega)))
    | fail)
    exact ‹_ = x›.trans e
  have n1 : 1 ≤ n := by subst hE; have := lss_f h; omega
  refine E_br hE (fun h => ?_) (fun h => ?_)
  · have e : [] = r := by
      rw [← hr, big (by subst hE; have := geq_t h; simp only [realE, intBinR, NatCast.natCast, Int.ofNat_eq_natCast] at this e32; rw [e32] at this; omega)]; rfl
    cbv
    exact e.symm
  have n2 : n < 32 * x.length := by subst hE; have := geq_f h; simp only [realE, intBinR, NatCast.natCast, Int.ofNat_eq_natCast] at this e32; rw [e32] at this; omega
  cbv
  repeat' (first
    | (refine E_br hE (fun h => ?_) (fun h => ?_) <;> cbv)
    | (refine E_nm hE (fun v hv => ?_); cbv)
    | (refine E_nilS hE (fun b hb => ?_); cbv)
    | fail)
  all_goals (try (exfalso; have := eN _ n1 n2 (by subst hE; assumption); subst hE; simp only [NatCast.natCast, Int.ofNat_eq_natCast, realE, cmp_eql, cmp_neq, cmp_lss, cmp_leq, cmp_gtr, cmp_geq, intBinR, decide_eq_true_eq, decide_eq_false_iff_not, SI.val, SB.val, Num.eta, Iv.eta] at *; rw [this] at *; omega))
  rename_i l el _ _
  replace n2 : n < 32 * (x.length : Int) := n2
  replace eN := eN l n1 n2 (by subst hE; exact el)
  simp only [NatCast.natCast, Int.ofNat_eq_natCast] at eN
  have er := hv
  have l1 : l = n / 32 := by subst hE; rw [el]; exact quo32 (by omega) (by omega)
  have r1 : 0 ≤ v := by
    have : v = n % 32 := by subst hE; rw [hv]; exact rem32 (by omega)
    omega
  clear hv
  refine E_loop hE hG hm hl (shrS E x l v) m ok ⟨(0, E.rep (E.bin .sub .i64 (E.len x) l)), (eok _).2 ?_, stLe rfl ?_⟩ ?_
  · refine ⟨by show (0 : Int) ≤ 0; omega, by show (0 : Int) ≤ x.length - n / 32; omega, ?_⟩
    have := ShrInv.start x (n / 32).toNat (n % 32).toNat
    subst hE; simp only [NatCast.natCast, Int.ofNat_eq_natCast, realE, cmp_eql, cmp_neq, cmp_lss, cmp_leq, cmp_gtr, cmp_geq, intBinR, decide_eq_true_eq, decide_eq_false_iff_not, SI.val, SB.val, Num.eta, Iv.eta] at *; rw [eN, show ((x.length : Int) - n / 32).toNat = x.length - (n / 32).toNat by omega]
    exact this
  · (repeat' (first | exact t_nil | apply t_cons | exact u2_sli | exact u2_int | exact u2_bool | exact u2_ms | exact u2_ptr | exact (rfl : sle2 .s0 .s0)))
  rintro ⟨i, out⟩ hok
  have h1 : 0 ≤ i := ((eok _).1 hok).1
  have h2 : i ≤ x.length - n / 32 := ((eok _).1 hok).2.1
  have inv : ShrInv x out (n / 32).toNat (n % 32).toNat i.toNat := ((eok _).1 hok).2.2
  have hol := inv.len
  have fin : ¬ i < (x.length : Int) - n / 32 → Lb out ∧ lim (lv out) = r := by
    intro h
    have inv' := inv
    rw [show i.toNat = x.length - (n / 32).toNat by omega] at inv'
    refine ⟨inv.lb, ?_⟩
    rw [inv'.stop hx (by omega), ← hr, vx, show 32 * (n / 32).toNat + (n % 32).toNat = n.toNat by omega]
  clear hok hr ex
  cbv
  repeat' (first
    | (refine E_br hE (fun h => ?_) (fun h => ?_) <;> cbv)
    | (refine E_nm hE (fun v hv => ?_); cbv)
    | (refine E_nilS hE (fun b hb => ?_); cbv)
    | (apply E_callX hE (c_cut _ ?_ ?_); (case hf => rfl); (case hc => (cbv <;> trivial)); (case hle => exact u_up); all_goals (first | (intro t ht; cbv) | ((subst hE; simp only [NatCast.natCast, Int.ofNat_eq_natCast, realE, cmp_eql, cmp_neq, cmp_lss, cmp_leq, cmp_gtr, cmp_geq, intBinR, decide_eq_true_eq, decide_eq_false_iff_not, SI.val, SB.val, Num.eta, Iv.eta] at *; rw [eN] at *; rw [sub_all (by omega)]; first | exact (fin ‹_›).1 | omega))))
    | fail)
  case hK => subst hE; simp only [NatCast.natCast, Int.ofNat_eq_natCast, realE, cmp_eql, cmp_neq, cmp_lss, cmp_leq, cmp_gtr, cmp_geq, intBinR, decide_eq_true_eq, decide_eq_false_iff_not, SI.val, SB.val, Num.eta, Iv.eta] at *; rw [‹t = _›, eN, sub_all (by omega), (fin (by rw [← eN]; assumption)).2]
  all_goals (try refine ⟨(E.bin .add .i64 i 1, _), ?_, ?_, stLe rfl ?_⟩)
  all_goals (try ((repeat' (first | exact t_nil | apply t_cons | exact u2_sli | exact u2_int | exact u2_bool | exact u2_ms | exact u2_ptr | exact (rfl : sle2 .s0 .s0))); done))
  all_goals (subst hE)
  all_goals (try (
    have hi : i < IntKind.i64.wrap ((x.length : Int) - l) := lss_t ‹_›
    rw [eN] at hi
    first
      | (rw [em, em]; exact (shr_next hx (by omega) n1 n2 h1 hi inv ‹_› el er ‹_› (by first | exact .inr ‹_› | exact .inl ⟨lss_f ‹_›, rfl⟩) rfl).2.2.1)
      | (rw [eok]; have q := shr_next hx (by omega) n1 n2 h1 hi inv ‹_› el er ‹_› (by first | exact .inr ‹_› | exact .inl ⟨lss_f ‹_›, rfl⟩) rfl; exact ⟨q.1, q.2.1, q.2.2.2⟩)))
  all_goals (clear inv eok em fin er el e32 big; simp only [NatCast.natCast, Int.ofNat_eq_natCast, realE, cmp_eql, cmp_neq, cmp_lss, cmp_leq, cmp_gtr, cmp_geq, intBinR, decide_eq_true_eq, decide_eq_false_iff_not, SI.val, SB.val, Num.eta, Iv.eta] at *; (try rw [eN] at *); clear eN; (try simp only [wi64] at *); omega)

end Go.Proofs.Ytaiillbjhdoikaa.Ev

/- Contracts: words of 64 bits. Printed by gen.py out of C3.spec. -/
namespace Go.Proofs.Ytaiillbjhdoikaa.Ev
open Go Go.Proofs
set_option linter.unusedVariables false
set_option linter.unusedSimpArgs false

end Go.Proofs.Ytaiillbjhdoikaa.Ev

/- Contracts: the product. Printed by gen.py out of C4.spec. -/
namespace Go.Proofs.Ytaiillbjhdoikaa.Ev
open Go Go.Proofs
set_option linter.unusedVariables false
set_option linter.unusedSimpArgs false

end Go.Proofs.Ytaiillbjhdoikaa.Ev

namespace Go.Proofs.Ytaiillbjhdoikaa.Ev
open Go Go.Proofs
set_option linter.unusedVariables false

end Go.Proofs.Ytaiillbjhdoikaa.Ev

/- Contracts: the operations on intervals. -/
namespace Go.Proofs.Ytaiillbjhdoikaa.Ev
open Go Go.Proofs
set_option linter.unusedVariables false
end Go.Proofs.Ytaiillbjhdoikaa.Ev

/- Contracts: the product of intervals. -/
namespace Go.Proofs.Ytaiillbjhdoikaa.Ev
open Go Go.Proofs
set_option linter.unusedVariables false

end Go.Proofs.Ytaiillbjhdoikaa.Ev

/- Contracts: a division of two words by one. -/
namespace Go.Proofs.Ytaiillbjhdoikaa.Ev
open Go Go.Proofs
set_option linter.unusedVariables false
end Go.Proofs.Ytaiillbjhdoikaa.Ev

/- Contracts: words of 32 bits. Printed by gen.py out of C22.spec. -/
namespace Go.Proofs.Ytaiillbjhdoikaa.Ev
open Go Go.Proofs
set_option linter.unusedVariables false
set_option linter.unusedSimpArgs false

theorem c_Div32 (hi : Int) (lo : Int) (y : Int) (hhi : 0 ≤ hi) (hhi' : hi < 4294967296) (hlo : 0 ≤ lo) (hlo' : lo < 4294967296) (hy : 0 ≤ y) (hy' : y < 4294967296) (hlt : hi < y) : ∃ t : Int × Int, t = ((hi * 4294967296 + lo) / y, (hi * 4294967296 + lo) % y) ∧ CallsA Try.prog 124 [.int .u32 (.s hi), .int .u32 (.s lo), .int .u32 (.s y)] (.tup [.int .u32 (.s t.1), .int .u32 (.s t.2)]) := by
  refine ⟨_, rfl, ?_⟩
  generalize hr : ((hi * 4294967296 + lo) / y, (hi * 4294967296 + lo) % y) = r
  refine callsA_of hG hm Try.func124 (by kernel_rfl) ?_
  intro E hE lp hl
  cbv
  repeat' (first
    | (refine E_br hE (fun h => ?_) (fun h => ?_) <;> cbv)
    | (refine E_nm hE (fun v hv => ?_); cbv)
    | fail)
  all_goals (subst hE; subst hr)
  all_goals (try simp only [realE, cmp_eql, cmp_neq, cmp_lss, cmp_leq, cmp_gtr, cmp_geq, intBinR, decide_eq_true_eq, decide_eq_false_iff_not, SI.val, SB.val, Num.eta, Iv.eta] at *)
  all_goals (try (exfalso; rw [wu64] at *; omega))
  all_goals (try (exfalso; omega))
  rename_i v1 v2 e1 e2 _ _ _
  rw [div32_word hhi hhi' hlo hlo'] at e1
  subst e1
  obtain ⟨q1, q2⟩ := div32_parts hhi hlo hlo' hlt hy'
  exact ⟨e2.trans q1, hv.trans q2, trivial⟩

theorem c_Len32 (x : Int) (hx : 0 ≤ x) (hx' : x < 4294967296) : ∃ t : Int, t = blen x ∧ CallsA Try.prog 87 [.int .u32 (.s x)] (.int .i64 (.s t)) := by
  refine ⟨_, rfl, ?_⟩
  generalize hr : blen x = r
  refine callsA_of hG hm Try.func87 (by kernel_rfl) ?_
  intro E hE lp hl
  cbv
  repeat' (first
    | (refine E_br hE (fun h => ?_) (fun h => ?_) <;> cbv)
    | (refine E_nm hE (fun v hv => ?_); cbv)
    | fail)
  all_goals (try (generalize hL : (⟨⟨[0, 1, 2, 2, 3, 3, 3, 3, 4, 4, 4, 4, 4, 4, 4, 4, 5, 5, 5, 5, 5, 5, 5, 5, 5, 5, 5, 5, 5, 5, 5, 5, 6, 6, 6, 6, 6, 6, 6, 6, 6, 6, 6, 6, 6, 6, 6, 6, 6, 6, 6, 6, 6, 6, 6, 6, 6, 6, 6, 6, 6, 6, 6, 6, 7, 7, 7, 7, 7, 7, 7, 7, 7, 7, 7, 7, 7, 7, 7, 7, 7, 7, 7, 7, 7, 7, 7, 7, 7, 7, 7, 7, 7, 7, 7, 7, 7, 7, 7, 7, 7, 7, 7, 7, 7, 7, 7, 7, 7, 7, 7, 7, 7, 7, 7, 7, 7, 7, 7, 7, 7, 7, 7, 7, 7, 7, 7, 7, 8, 8, 8, 8, 8, 8, 8, 8, 8, 8, 8, 8, 8, 8, 8, 8, 8, 8, 8, 8, 8, 8, 8, 8, 8, 8, 8, 8, 8, 8, 8, 8, 8, 8, 8, 8, 8, 8, 8, 8, 8, 8, 8, 8, 8, 8, 8, 8, 8, 8, 8, 8, 8, 8, 8, 8, 8, 8, 8, 8, 8, 8, 8, 8, 8, 8, 8, 8, 8, 8, 8, 8, 8, 8, 8, 8, 8, 8, 8, 8, 8, 8, 8, 8, 8, 8, 8, 8, 8, 8, 8, 8, 8, 8, 8, 8, 8, 8, 8, 8, 8, 8, 8, 8, 8, 8, 8, 8, 8, 8, 8, 8, 8, 8, 8, 8, 8, 8, 8, 8, 8, 8, 8, 8, 8, 8, 8, 8]⟩⟩ : ByteArray) = L at *; replace hL := len8_str hL; obtain ⟨hL1, hL2⟩ := hL))
  all_goals (subst hE; subst hr)
  all_goals (try simp only [realE, cmp_eql, cmp_neq, cmp_lss, cmp_leq, cmp_gtr, cmp_geq, intBinR, decide_eq_true_eq, decide_eq_false_iff_not, SI.val, SB.val, Num.eta, Iv.eta] at *)
  all_goals (simp only [shr8', shr16', wu8, wi64] at *)
  all_goals (try omega)
  all_goals (try rw [hL2 _ (by omega) (by omega)] at hv)
  all_goals (have b1 := blen_nonneg x; have b2 := blen_le 32 (x := x) (by omega))
  all_goals (try have s2 := len16 ‹(65536 : Int) ≤ _› ‹_ = _ / (65536 : Int)›)
  all_goals (try have s3 := len8 ‹(256 : Int) ≤ _› ‹_ = _ / (256 : Int)›)
  all_goals omega

theorem c_LZ32 (x : Int) (hx : 0 ≤ x) (hx' : x < 4294967296) : ∃ t : Int, t = 32 - blen x ∧ CallsA Try.prog 108 [.int .u32 (.s x)] (.int .i64 (.s t)) := by
  refine ⟨_, rfl, ?_⟩
  generalize hr : 32 - blen x = r
  refine callsA_of hG hm Try.func108 (by kernel_rfl) ?_
  intro E hE lp hl
  cbv
  repeat' (first
    | (refine E_br hE (fun h => ?_) (fun h => ?_) <;> cbv)
    | (refine E_nm hE (fun v hv => ?_); cbv)
    | (apply E_callX hE (c_Len32 _ ?_ ?_); (case hf => rfl); (case hc => (cbv <;> trivial)); (case hle => (repeat' (first | exact u_nil | apply u_cons | apply u2_agg | exact u2_int | exact u1_int | exact u2_bool | exact u1_bool | exact u2_sli | exact u1_sli | exact u2_s0 | exact u1_s0))); all_goals (first | (intro t ht; cbv) | (subst hE; (try simp only [realE, cmp_eql, cmp_neq, cmp_lss, cmp_leq, cmp_gtr, cmp_geq, intBinR, decide_eq_true_eq, decide_eq_false_iff_not, SI.val, SB.val, Num.eta, Iv.eta] at *); first | assumption | omega)))
    | (apply E_pcallX hE (c_Len32 _ ?_ ?_); (case hm => rfl); (case hle => (repeat' (first | exact u_nil | apply u_cons | apply u2_agg | exact u2_int | exact u1_int | exact u2_bool | exact u1_bool | exact u2_sli | exact u1_sli | exact u2_s0 | exact u1_s0))); all_goals (first | (intro t ht; cbv) | (subst hE; (try simp only [realE, cmp_eql, cmp_neq, cmp_lss, cmp_leq, cmp_gtr, cmp_geq, intBinR, decide_eq_true_eq, decide_eq_false_iff_not, SI.val, SB.val, Num.eta, Iv.eta] at *); first | assumption | omega)))
    | fail)
  all_goals (subst hE; subst hr)
  all_goals (try simp only [realE, cmp_eql, cmp_neq, cmp_lss, cmp_leq, cmp_gtr, cmp_geq, intBinR, decide_eq_true_eq, decide_eq_false_iff_not, SI.val, SB.val, Num.eta, Iv.eta] at *)
  all_goals (try simp only [wi64] at *)
  all_goals (have b1 := blen_nonneg x; have b2 := blen_le 32 (x := x) (by omega); omega)

end Go.Proofs.Ytaiillbjhdoikaa.Ev

/- Contracts: how many bits limbs have; a short division. Printed by gen.py. -/
namespace Go.Proofs.Ytaiillbjhdoikaa.Ev
open Go Go.Proofs
set_option linter.unusedVariables false
set_option linter.unusedSimpArgs false


attribute [local irreducible] Lb
theorem c_natLen (a : List Int) (ha : Lb a) (hla : a.length < 67108864) : ∃ t : Int, t = blen (lv a) ∧ CallsA Try.prog 42 [.sli .u32 a] (.int .i64 (.s t)) := by
  refine ⟨_, rfl, ?_⟩
  generalize hr : blen (lv a : Int) = r
  have hlx := lim_length_le' ha
  have hx := lim_lb (lv a)
  have vx := lv_lim (lv a)
  have lx := (lim_cn (lv a)).last
  obtain ⟨x, ex⟩ : ∃ x, lim (lv a) = x := ⟨_, rfl⟩
  rw [ex] at hlx hx vx lx
  have k1 : x.length = 0 → r = 0 := by
    intro h
    have : x = [] := List.length_eq_zero_iff.1 h
    rw [this] at vx
    rw [← hr, ← vx]; rfl
  have k2 : ¬ (x.length : Int) = 0 → ∀ t : Int, t = blen (x.getD (intBinR .sub .i64 x.length 1).toNat 0) → r = intBinR .add .i64 (intBinR .mul .i64 32 (intBinR .sub .i64 x.length 1)) t := by
    intro h t ht
    have hne : x ≠ [] := by intro e; rw [e] at h; simp at h
    have := blen_len hx hne (lx hne)
    have e1 : intBinR .sub .i64 x.length 1 = (x.length : Int) - 1 := by show IntKind.i64.wrap _ = _; rw [wi64_id (by omega) (by omega)]
    rw [e1] at ht ⊢
    have e2 : intBinR .mul .i64 32 ((x.length : Int) - 1) = 32 * ((x.length : Int) - 1) := by show IntKind.i64.wrap _ = _; rw [wi64_id (by omega) (by omega)]
    rw [e2, ← hr, ← vx, this]
    rw [show ((x.length : Int) - 1).toNat = x.length - 1 by omega] at ht
    have hg := hx.getD (x.length - 1)
    have b1 := blen_nonneg (x.getD (x.length - 1) 0)
    have b2 := blen_le 32 (x := x.getD (x.length - 1) 0) (by omega)
    rw [ht]
    show _ = IntKind.i64.wrap _
    rw [wi64_id (by omega) (by omega)]
  refine callsA_of hG hm Try.func42 (by kernel_rfl) ?_
  intro E hE lp hl
  cbv
  (apply E_callX hE (c_cut a ha (by omega)); (case hf => rfl); (case hc => (cbv <;> trivial)); (case hle => exact ⟨u2_sli, trivial⟩); intro x' hx'; cbv)
  rw [hx'.trans ex]
  clear hx' x'
  repeat' (first
    | (refine E_br hE (fun h => ?_) (fun h => ?_) <;> cbv)
    | (refine E_nm hE (fun v hv => ?_); cbv)
    | (refine E_nilS hE (fun b hb => ?_); cbv)
    | (apply E_callX hE (c_Len32 _ ?_ ?_); (case hf => rfl); (case hc => (cbv <;> trivial)); (case hle => (repeat' (first | exact u_nil | apply u_cons | apply u2_agg | exact u2_int | exact u1_int | exact u2_bool | exact u1_bool | exact u2_sli | exact u1_sli | exact u2_s0 | exact u1_s0))); all_goals (first | (intro t ht; cbv) | ((subst hE; first | exact (hx.getD _).1 | exact (hx.getD _).2))))
    | fail)
  all_goals (try (subst hE; first | exact (k1 (by have := eql_t h; simp only [realE] at this; omega)).symm | exact hv.trans (k2 (eql_f ‹_›) t ht).symm))
  all_goals (clear k1 k2 hr; subst hE; simp only [NatCast.natCast, Int.ofNat_eq_natCast, realE, cmp_eql, cmp_neq, cmp_lss, cmp_leq, cmp_gtr, cmp_geq, intBinR, decide_eq_true_eq, decide_eq_false_iff_not, SI.val, SB.val, Num.eta, Iv.eta] at *; (try simp only [wi64] at *); omega)

theorem short_next {a q : List Int} {d i k left j : Int} (ha : Lb a) (hla : a.length < 67108864) (hd : d < 4294967296) (h1 : 0 ≤ i) (h2 : i < a.length)
    (inv : ShortInv a q d (a.length - i.toNat) left) {i' : Int} (ei : i' = i) (ek : k = intBinR .sub .i64 (intBinR .sub .i64 a.length 1) i') (ej : j = intBinR .add .i64 i 1) {t : Int × Int}
    (et : t = ((left * 4294967296 + a.getD k.toNat 0) / d, (left * 4294967296 + a.getD k.toNat 0) % d)) {t2 : Int} (e2 : t2 = t.2) :
    0 ≤ j ∧ j ≤ a.length ∧ ((a.length : Int) - j).toNat < ((a.length : Int) - i).toNat ∧ ShortInv a (q.set k.toNat t.1) d (a.length - j.toNat) t2 := by
  subst ei
  have ej' : j = i' + 1 := by rw [ej]; show IntKind.i64.wrap (i' + 1) = _; rw [wi64_id (by omega) (by omega)]
  have ek' : k = a.length - 1 - i' := by
    rw [ek]; show IntKind.i64.wrap (IntKind.i64.wrap ((a.length : Int) - 1) - i') = _
    rw [wi64_id (n := (a.length : Int) - 1) (by omega) (by omega), wi64_id (by omega) (by omega)]
  rw [show a.length - i'.toNat = k.toNat + 1 by omega] at inv
  have st := inv.step ha hd (by omega)
  rw [e2, et, show a.length - j.toNat = k.toNat by omega]
  exact ⟨by omega, by omega, by omega, st⟩

def shortS (E : Env) (a : List Int) (d : Int) : Int × Int × List Int → St := fun p => ⟨[(0, .sli .u32 a), (1, .int .u32 (.s d)), (4, .ms 0 1 (.l 0) (.s (E.len a))), (6, .int .u32 (.s p.2.1)), (13, .int .i64 (.s (E.len a))), (14, .int .i64 (.s p.1))], [.ints true .u32 p.2.2]⟩
set_option maxHeartbeats 1000000 in
theorem c_short (a : List Int) (d : Int) (ha : Lb a) (hla : a.length < 67108864) (hd0 : 0 < d) (hd : d < 4294967296) : ∃ t : List Int × List Int, t = (lim (lv a / d.toNat), lim (lv a % d.toNat)) ∧ CallsA Try.prog 107 [.sli .u32 a, .int .u32 (.s d)] (.tup [.sli .u32 t.1, .sli .u32 t.2]) := by
  refine ⟨_, rfl, ?_⟩
  generalize hr : (lim (lv a / d.toNat), lim (lv a % d.toNat)) = r
  obtain ⟨m, em⟩ : ∃ m : Int × Int × List Int → Nat, ∀ p, m p = (a.length - p.1).toNat := ⟨_, fun _ => rfl⟩
  obtain ⟨ok, eok⟩ : ∃ ok : Int × Int × List Int → Prop, ∀ p, ok p ↔ 0 ≤ p.1 ∧ p.1 ≤ a.length ∧ ShortInv a p.2.2 d (a.length - p.1.toNat) p.2.1 := ⟨_, fun _ => Iff.rfl⟩
  refine callsA_of hG hm Try.func107 (by kernel_rfl) ?_
  intro E hE lp hl
  cbv
  repeat' (first
    | (refine E_br hE (fun h => ?_) (fun h => ?_) <;> cbv)
    | (refine E_nm hE (fun v hv => ?_); cbv)
    | (refine E_nilS hE (fun b hb => ?_); cbv)
    | fail)
  all_goals (try (exfalso; subst hE; simp only [NatCast.natCast, Int.ofNat_eq_natCast, realE, cmp_eql, cmp_neq, cmp_lss, cmp_leq, cmp_gtr, cmp_geq, intBinR, decide_eq_true_eq, decide_eq_false_iff_not, SI.val, SB.val, Num.eta, Iv.eta] at *; omega))
  refine E_loop hE hG hm hl (shortS E a d) m ok ⟨(0, 0, E.rep (E.len a)), (eok _).2 ?_, stLe rfl ?_⟩ ?_
  · refine ⟨by show (0 : Int) ≤ 0; omega, by show (0 : Int) ≤ a.length; omega, ?_⟩
    have := ShortInv.start a hd0
    subst hE; simp only [NatCast.natCast, Int.ofNat_eq_natCast, realE, cmp_eql, cmp_neq, cmp_lss, cmp_leq, cmp_gtr, cmp_geq, intBinR, decide_eq_true_eq, decide_eq_false_iff_not, SI.val, SB.val, Num.eta, Iv.eta] at *
    exact this
  · (repeat' (first | exact t_nil | apply t_cons | exact u2_sli | exact u2_int | exact u2_bool | exact u2_ms | exact u2_ptr | exact (rfl : sle2 .s0 .s0)))
  rintro ⟨i, left, q⟩ hok
  have h1 : 0 ≤ i := ((eok _).1 hok).1
  have h2 : i ≤ a.length := ((eok _).1 hok).2.1
  have inv : ShortInv a q d (a.length - i.toNat) left := ((eok _).1 hok).2.2
  have hol := inv.len
  have l0 := inv.l0
  have l1 := inv.l1
  have lq : Lb q := inv.lb
  have ll : Lb [left] := Lb.cons l0 (by omega) Lb.nil
  have fin : ¬ i < a.length → (lim (lv q), lim (lv [left])) = r := by
    intro h
    rw [show a.length - i.toNat = 0 by omega] at inv
    obtain ⟨f1, f2⟩ := inv.stop
    rw [← hr, f1]
    congr 2
    simp only [lv]
    omega
  clear hok hr
  cbv
  repeat' (first
    | (refine E_br hE (fun h => ?_) (fun h => ?_) <;> cbv)
    | (refine E_nm hE (fun v hv => ?_); cbv)
    | (refine E_nilS hE (fun b hb => ?_); cbv)
    | (apply E_callX hE (c_Div32 _ _ _ ?_ ?_ ?_ ?_ ?_ ?_ ?_); (case hf => rfl); (case hc => (cbv <;> trivial)); (case hle => (repeat' (first | exact u_nil | apply u_cons | apply u2_agg | exact u2_int | exact u1_int | exact u2_bool | exact u1_bool | exact u2_sli | exact u1_sli | exact u2_s0 | exact u1_s0))); all_goals (first | (intro t ht; cbv) | (((try simp only [SI.val]); first | omega | (subst hE; first | exact (ha.getD _).1 | exact (ha.getD _).2)))))
    | (apply E_callX hE (c_cut _ ?_ ?_); (case hf => rfl); (case hc => (cbv <;> trivial)); (case hle => (repeat' (first | exact u_nil | apply u_cons | apply u2_agg | exact u2_int | exact u1_int | exact u2_bool | exact u1_bool | exact u2_sli | exact u1_sli | exact u2_s0 | exact u1_s0))); all_goals (first | (intro t ht; cbv) | ((subst hE; first | exact ll | (simp only [NatCast.natCast, Int.ofNat_eq_natCast, realE, cmp_eql, cmp_neq, cmp_lss, cmp_leq, cmp_gtr, cmp_geq, intBinR, decide_eq_true_eq, decide_eq_false_iff_not, SI.val, SB.val, Num.eta, Iv.eta] at *; (try rw [sub_all (by omega)]); first | assumption | omega | (simp; done))))))
    | fail)
  all_goals (try refine ⟨(E.bin .add .i64 i 1, v, E.set q _ t.1), ?_, ?_, stLe rfl ?_⟩)
  all_goals (try ((repeat' (first | exact t_nil | apply t_cons | exact u2_sli | exact u2_int | exact u2_bool | exact u2_ms | exact u2_ptr | exact (rfl : sle2 .s0 .s0))); done))
  all_goals (subst hE)
  all_goals (try (first | (rw [em, em]; exact (short_next ha hla hd h1 (lss_t ‹_›) inv ‹_ = i› ‹_› rfl ‹t = _› ‹_›).2.2.1) | (rw [eok]; have q := short_next ha hla hd h1 (lss_t ‹_›) inv ‹_ = i› ‹_› rfl ‹t = _› ‹_›; exact ⟨q.1, q.2.1, q.2.2.2⟩)))
  case refine_1.refine_1.refine_1.refine_3.refine_2.hK.hK => have f := fin (lss_f ‹_›); rename_i q' hq'; rw [← f]; simp only [NatCast.natCast, Int.ofNat_eq_natCast, realE, cmp_eql, cmp_neq, cmp_lss, cmp_leq, cmp_gtr, cmp_geq, intBinR, decide_eq_true_eq, decide_eq_false_iff_not, SI.val, SB.val, Num.eta, Iv.eta] at *; refine ⟨?_, ‹_ = _›, trivial⟩; rw [hq', sub_all (by omega)]
  all_goals (clear inv eok em fin; simp only [NatCast.natCast, Int.ofNat_eq_natCast, realE, cmp_eql, cmp_neq, cmp_lss, cmp_leq, cmp_gtr, cmp_geq, intBinR, decide_eq_true_eq, decide_eq_false_iff_not, SI.val, SB.val, Num.eta, Iv.eta] at *; (try simp only [wi64] at *); omega)

end Go.Proofs.Ytaiillbjhdoikaa.Ev

/- Contracts: the guess of a limb of a quotient. Printed by gen.py. -/
namespace Go.Proofs.Ytaiillbjhdoikaa.Ev
open Go Go.Proofs
set_option linter.unusedVariables false
set_option linter.unusedSimpArgs false


def guessS (r2 r1 r0 d1 d0 t : Int) : Int × Int → St := fun p => ⟨[(0, .int .u32 (.s r2)), (1, .int .u32 (.s r1)), (2, .int .u32 (.s r0)), (3, .int .u32 (.s d1)), (4, .int .u32 (.s d0)), (11, .int .u64 (.s t)), (12, .int .u64 (.s p.1)), (13, .int .u64 (.s p.2))], []⟩
theorem c_guess (r2 r1 r0 d1 d0 : Int) (I : GuessIn r2 r1 r0 d1 d0) : ∃ t : Int, t = guessQ r2 r1 r0 d1 d0 ∧ CallsA Try.prog 109 [.int .u32 (.s r2), .int .u32 (.s r1), .int .u32 (.s r0), .int .u32 (.s d1), .int .u32 (.s d0)] (.int .u32 (.s t)) := by
  refine ⟨_, rfl, ?_⟩
  generalize hr : guessQ r2 r1 r0 d1 d0 = r
  obtain ⟨m, em⟩ : ∃ m : Int × Int → Nat, ∀ p, m p = p.1.toNat := ⟨_, fun _ => rfl⟩
  obtain ⟨ok, eok⟩ : ∃ ok : Int × Int → Prop, ∀ p, ok p ↔ GuessInv r2 r1 r0 d1 d0 p.1 p.2 := ⟨_, fun _ => Iff.rfl⟩
  have hd := I.d1b
  refine callsA_of hG hm Try.func109 (by kernel_rfl) ?_
  intro E hE lp hl
  cbv
  repeat' (first
    | (refine E_br hE (fun h => ?_) (fun h => ?_) <;> cbv)
    | (refine E_nm hE (fun v hv => ?_); cbv)
    | (refine E_nilS hE (fun b hb => ?_); cbv)
    | fail)
  · subst hE; have h' : IntKind.u64.wrap d1 = 0 := eql_t h; rw [wu64_id (by omega) (by omega)] at h'; omega
  · subst hE; have h' : IntKind.u64.wrap d1 = 0 := eql_t h; rw [wu64_id (by omega) (by omega)] at h'; omega
  rename_i t et _ q eq
  refine E_loop hE hG hm hl (guessS r2 r1 r0 d1 d0 t) m ok ⟨(q, v), (eok _).2 ?_, stLe rfl ?_⟩ ?_
  · subst hE; exact guess_start I et eq hv
  · (repeat' (first | exact t_nil | apply t_cons | exact u2_sli | exact u2_int | exact u2_bool | exact u2_ms | exact u2_ptr | exact (rfl : sle2 .s0 .s0)))
  clear eq hv et
  rintro ⟨q, left⟩ hok
  have inv : GuessInv r2 r1 r0 d1 d0 q left := (eok _).1 hok
  clear hok
  cbv
  repeat' (first
    | (refine E_br hE (fun h => ?_) (fun h => ?_) <;> cbv)
    | (refine E_nm hE (fun v hv => ?_); cbv)
    | (refine E_nilS hE (fun b hb => ?_); cbv)
    | fail)
  all_goals (try (rename_i q' eq'; refine ⟨(q', v), ?_, ?_, stLe rfl ?_⟩))
  all_goals (try ((repeat' (first | exact t_nil | apply t_cons | exact u2_sli | exact u2_int | exact u2_bool | exact u2_ms | exact u2_ptr | exact (rfl : sle2 .s0 .s0))); done))
  all_goals (subst hE)
  all_goals (first
    | (rw [em, em]; exact (guess_step I inv (by first | exact .inl (gtr_t ‹_›) | exact .inr ⟨gtr_f ‹_›, gtr_t ‹_›⟩) ‹_› ‹_› (gtr_f ‹_›)).1)
    | (rw [eok]; exact (guess_step I inv (by first | exact .inl (gtr_t ‹_›) | exact .inr ⟨gtr_f ‹_›, gtr_t ‹_›⟩) ‹_› ‹_› (gtr_f ‹_›)).2)
    | (rw [← hr, hv]; exact guess_brk I inv (by first | exact .inl (gtr_t ‹_›) | exact .inr ⟨gtr_f ‹_›, gtr_t ‹_›⟩) ‹_› ‹_› (gtr_t ‹_›))
    | (rw [← hr, hv]; exact guess_done I inv (gtr_f ‹_›) (gtr_f ‹_›)))

end Go.Proofs.Ytaiillbjhdoikaa.Ev

/- The steps of a long division, as the words of the program reckon them. -/
namespace Go.Proofs.Ytaiillbjhdoikaa.Ev
open Go

theorem less_next {r0 d r : List Int} {q at_ i carry borrow : Int} (hd : Lb d) (hq : 0 ≤ q ∧ q < 4294967296) (hlr : r0.length < 134217728) (h1 : 0 ≤ i) (h2 : i < d.length) (ha : 0 ≤ at_) (hat : at_ + d.length < r0.length)
    (inv : LessInv r0 d q at_.toNat r i.toNat carry borrow) {i' y v b' j : Int} {t : Int × Int} (ei : i' = i) (ey : y = d.getD i.toNat 0)
    (ev : v = intBinR .add .u64 (intBinR .mul .u64 (IntKind.u64.wrap y) (IntKind.u64.wrap q)) carry)
    (et : t = ((r.getD (intBinR .add .i64 at_ i').toNat 0 - IntKind.u32.wrap v - borrow) % 4294967296, if r.getD (intBinR .add .i64 at_ i').toNat 0 < IntKind.u32.wrap v + borrow then 1 else 0))
    (eb : b' = t.2) (ej : j = intBinR .add .i64 i 1) {c' : Int} (ec : c' = intBinR .shr .u64 v 32) :
    0 ≤ j ∧ j ≤ d.length ∧ ((d.length : Int) - j).toNat < ((d.length : Int) - i).toNat ∧ LessInv r0 d q at_.toNat (r.set (intBinR .add .i64 at_ i').toNat t.1) j.toNat c' b' := by
  have hy := hd.getD i.toNat
  subst ei
  have st := inv.step hd hq (by omega)
  rw [← ey] at st hy
  have c0 := inv.c0
  have c1 := inv.c1
  have e := less_digit hy hq ⟨c0, c1⟩
  have eai : (intBinR .add .i64 at_ i').toNat = at_.toNat + i'.toNat := by
    show (IntKind.i64.wrap (at_ + i')).toNat = _
    rw [wi64_id (by omega) (by omega)]; omega
  have ej' : j = i' + 1 := by rw [ej]; show IntKind.i64.wrap (i' + 1) = _; rw [wi64_id (by omega) (by omega)]
  have ev' : v = y * q + carry := by
    rw [ev, wu64_id hy.1 (by omega), wu64_id hq.1 (by omega)]
    have : intBinR .mul .u64 y q = y * q := wu64_id e.1 (by omega)
    rw [this]
    exact wu64_id (by omega) (by omega)
  have ec' : c' = v / 4294967296 := by rw [ec]; exact shr32 v
  rw [eai] at et ⊢
  rw [wu32, ev'] at et
  rw [eb, et, ec', ev', ej', show (i' + 1).toNat = i'.toNat + 1 by omega]
  exact ⟨by omega, by omega, by omega, st⟩

/-- what a guess times the divisor taken away leaves -/
structure LessR (r0 d : List Int) (q : Int) (at_ : Nat) (r : List Int) (b : Bool) : Prop where
  len : r.length = r0.length
  lb : Lb r
  same : ∀ j, at_ + d.length + 1 ≤ j → r.getD j 0 = r0.getD j 0
  val : lv r + 4294967296 ^ at_ * (q.toNat * lv d) = lv r0 + (if b then 4294967296 ^ (at_ + d.length + 1) else 0)

theorem less_stop {r0 d r : List Int} {q at_ i carry borrow : Int} (hlr : r0.length < 134217728) (h2 : i ≤ d.length) (h3 : ¬ i < d.length) (ha : 0 ≤ at_) (hat : at_ + d.length < r0.length)
    (inv : LessInv r0 d q at_.toNat r i.toNat carry borrow) {b' : Int} {b : Bool} {t : Int × Int}
    (et : t = ((r.getD (intBinR .add .i64 at_ d.length).toNat 0 - IntKind.u32.wrap carry - borrow) % 4294967296, if r.getD (intBinR .add .i64 at_ d.length).toNat 0 < IntKind.u32.wrap carry + borrow then 1 else 0))
    (eb : b' = t.2) (e : b = cmpR .neq b' 0) : LessR r0 d q at_.toNat (r.set (intBinR .add .i64 at_ d.length).toNat t.1) b := by
  have c0 := inv.c0
  have c1 := inv.c1
  rw [show i.toNat = d.length by omega] at inv
  obtain ⟨k1, k2, k3, k4⟩ := inv.stop (by omega)
  have eai : (intBinR .add .i64 at_ d.length).toNat = at_.toNat + d.length := by
    show (IntKind.i64.wrap (at_ + d.length)).toNat = _
    rw [wi64_id (by omega) (by omega)]; omega
  rw [eai] at et ⊢
  rw [wu32, Int.emod_eq_of_lt c0 c1] at et
  have e1 : t.1 = (r.getD (at_.toNat + d.length) 0 - carry - borrow) % 4294967296 := by rw [et]
  have e2 : b' = if r.getD (at_.toNat + d.length) 0 < carry + borrow then 1 else 0 := by rw [eb, et]
  rw [e1]
  refine ⟨k1, k2, k3, ?_⟩
  rw [k4]
  congr 1
  rw [e, e2]
  split
  · simp [cmpR]
  · simp [cmpR]

theorem more_next {r0 d r : List Int} {at_ i c : Int} (hd : Lb d) (hlr : r0.length < 134217728) (h1 : 0 ≤ i) (h2 : i < d.length) (ha : 0 ≤ at_) (hat : at_ + d.length < r0.length)
    (inv : MoreInv r0 d at_.toNat r i.toNat c) {i' y c' j : Int} {t : Int × Int} (ei : i' = i) (ey : y = d.getD i.toNat 0)
    (et : t = ((r.getD (intBinR .add .i64 at_ i').toNat 0 + y + c) % 4294967296, (r.getD (intBinR .add .i64 at_ i').toNat 0 + y + c) / 4294967296))
    (ec : c' = t.2) (ej : j = intBinR .add .i64 i 1) :
    0 ≤ j ∧ j ≤ d.length ∧ ((d.length : Int) - j).toNat < ((d.length : Int) - i).toNat ∧ MoreInv r0 d at_.toNat (r.set (intBinR .add .i64 at_ i').toNat t.1) j.toNat c' := by
  subst ei
  have st := inv.step hd (by omega)
  rw [← ey] at st
  have eai : (intBinR .add .i64 at_ i').toNat = at_.toNat + i'.toNat := by
    show (IntKind.i64.wrap (at_ + i')).toNat = _
    rw [wi64_id (by omega) (by omega)]; omega
  have ej' : j = i' + 1 := by rw [ej]; show IntKind.i64.wrap (i' + 1) = _; rw [wi64_id (by omega) (by omega)]
  rw [eai] at et ⊢
  rw [ec, et, ej', show (i' + 1).toNat = i'.toNat + 1 by omega]
  exact ⟨by omega, by omega, by omega, st⟩

structure MoreR (r0 d : List Int) (at_ : Nat) (r : List Int) : Prop where
  len : r.length = r0.length
  lb : Lb r
  same : ∀ j, at_ + d.length + 1 ≤ j → r.getD j 0 = r0.getD j 0
  val : ∃ c : Int, 0 ≤ c ∧ c ≤ 1 ∧ lv r + 4294967296 ^ (at_ + d.length + 1) * c.toNat = lv r0 + 4294967296 ^ at_ * lv d

theorem more_stop {r0 d r : List Int} {at_ i c : Int} (hlr : r0.length < 134217728) (h2 : i ≤ d.length) (h3 : ¬ i < d.length) (ha : 0 ≤ at_) (hat : at_ + d.length < r0.length)
    (inv : MoreInv r0 d at_.toNat r i.toNat c) {v : Int} (ev : v = intBinR .add .u32 (r.getD (intBinR .add .i64 at_ d.length).toNat 0) c) : MoreR r0 d at_.toNat (r.set (intBinR .add .i64 at_ d.length).toNat v) := by
  have c0 := inv.c0
  have c1 := inv.c1
  rw [show i.toNat = d.length by omega] at inv
  have hx := inv.lb.getD (at_.toNat + d.length)
  obtain ⟨k1, k2, k3, k4⟩ := inv.stop (by omega)
  have eai : (intBinR .add .i64 at_ d.length).toNat = at_.toNat + d.length := by
    show (IntKind.i64.wrap (at_ + d.length)).toNat = _
    rw [wi64_id (by omega) (by omega)]; omega
  rw [eai] at ev ⊢
  have ev' : v = (r.getD (at_.toNat + d.length) 0 + c) % 4294967296 := by rw [ev]; exact wu32 _
  rw [ev']
  exact ⟨k1, k2, k3, _, by omega, by omega, k4⟩
end Go.Proofs.Ytaiillbjhdoikaa.Ev

/- Loops whose rounds hand on memory that they have made: it is named anew behind each. -/
namespace Go.Proofs.Ytaiillbjhdoikaa.Ev
open Go Go.RowKit
set_option linter.unusedVariables false
set_option linter.unusedSimpArgs false

/-- a block's former name -/
def nth0 : List Nat → Nat → Nat
  | [], n => n
  | r :: _, 0 => r
  | _ :: rs, n + 1 => nth0 rs n
def rn1 (ρ : List Nat) : AV → AV
  | .ms b sz row len => .ms (nth0 ρ b) sz row len
  | .ptr b sz row col => .ptr (nth0 ρ b) sz row col
  | c => c
def mapB {α β : Type} (f : α → β) : List α → List β
  | [] => []
  | x :: r => f x :: mapB f r
def rn2 (ρ : List Nat) : AV → AV
  | .agg cs => .agg (mapB (rn1 ρ) cs)
  | .fn f cs => .fn f (mapB (rn1 ρ) cs)
  | c => rn1 ρ c
def rn3 (ρ : List Nat) : AV → AV
  | .tup cs => .tup (mapB (rn2 ρ) cs)
  | c => rn2 ρ c
def rnB (ρ : List Nat) : Blk → Blk
  | .rows w sz d l => .rows w sz d (mapB (mapB (rn1 ρ)) l)
  | b => b
/-- each block that is not let go was there, under its former name -/
def blksM (ρ : List Nat) (h : List Blk) : List Nat → List Blk → Prop
  | _ :: rs, .dead :: bs => blksM ρ h rs bs
  | r :: rs, b :: bs => getBlk h r = rnB ρ b ∧ blksM ρ h rs bs
  | [], [] => True
  | _, _ => False
def memN (n : Nat) : List Nat → Bool
  | [] => false
  | x :: r => bif Nat.beq n x then true else memN n r
/-- the former names of those that are not let go are apart -/
def apartN : List Nat → List Blk → List Nat → Bool
  | _ :: rs, .dead :: bs, seen => apartN rs bs seen
  | r :: rs, _ :: bs, seen => bif memN r seen then false else apartN rs bs (r :: seen)
  | _, _, _ => true
/-- the first ones keep their names -/
def idPre (ρ : List Nat) : Nat → Bool
  | 0 => true
  | n + 1 => bif Nat.beq (nth0 ρ n) n then idPre ρ n else false

theorem mapB_eq {α β : Type} (f : α → β) (l : List α) : mapB f l = l.map f := by induction l <;> simp_all [mapB]
theorem idPre_at {ρ : List Nat} : ∀ {n : Nat}, idPre ρ n = true → ∀ b, b < n → nth0 ρ b = b
  | 0, _, b, hb => by omega
  | n + 1, h, b, hb => by
    simp only [idPre] at h
    cases e : Nat.beq (nth0 ρ n) n with
    | false => rw [e] at h; cases h
    | true =>
      rw [e, cond_true] at h
      rcases Nat.lt_or_ge b n with h1 | h1
      · exact idPre_at h b h1
      · have : b = n := by omega
        subst this
        exact Nat.eq_of_beq_eq_true e

theorem memN_iff {n : Nat} : ∀ {l : List Nat}, memN n l = true ↔ n ∈ l
  | [] => by simp [memN]
  | x :: r => by
    simp only [memN]
    cases e : Nat.beq n x with
    | true => simp [Nat.eq_of_beq_eq_true e]
    | false =>
      have : n ≠ x := fun h => by rw [h, Nat.beq_refl] at e; cases e
      simp [memN_iff, this]

/-- block b of the new names: what it was -/
theorem blksM_at {ρ : List Nat} {h : List Blk} : ∀ {rs : List Nat} {bs : List Blk} {b : Nat} {x : Blk}, blksM ρ h rs bs → bs[b]? = some x → x ≠ .dead → getBlk h (nth0 rs b) = rnB ρ x
  | [], bs, b, x, hM, hb, _ => by
    cases bs with
    | nil => simp at hb
    | cons => exact hM.elim
  | r :: rs, [], b, x, hM, hb, _ => by simp at hb
  | r :: rs, y :: bs, 0, x, hM, hb, hx => by
    simp at hb
    subst hb
    cases y with
    | dead => exact absurd rfl hx
    | ints => exact hM.1
    | rows => exact hM.1
  | r :: rs, y :: bs, b + 1, x, hM, hb, hx => by
    have hM' : blksM ρ h rs bs := by cases y with
      | dead => exact hM
      | ints => exact hM.2
      | rows => exact hM.2
    exact blksM_at (rs := rs) (bs := bs) (b := b) hM' (by simpa using hb) hx

theorem blksM_len {ρ : List Nat} {h : List Blk} : ∀ {rs : List Nat} {bs : List Blk}, blksM ρ h rs bs → rs.length = bs.length
  | [], [], _ => rfl
  | [], _ :: _, hM => by exact hM.elim
  | _ :: _, [], hM => by exact hM.elim
  | r :: rs, y :: bs, hM => by
    have hM' : blksM ρ h rs bs := by cases y with
      | dead => exact hM
      | ints => exact hM.2
      | rows => exact hM.2
    simp [blksM_len hM']

theorem apartN_at : ∀ {rs : List Nat} {bs : List Blk} {seen : List Nat}, apartN rs bs seen = true → rs.length = bs.length →
    (∀ b x, bs[b]? = some x → x ≠ .dead → nth0 rs b ∉ seen) ∧ (∀ b b' x x', bs[b]? = some x → x ≠ .dead → bs[b']? = some x' → x' ≠ .dead → nth0 rs b = nth0 rs b' → b = b')
  | [], [], _, _, _ => ⟨fun b x hb => by simp at hb, fun b b' x x' hb => by simp at hb⟩
  | [], _ :: _, _, _, hl => by simp at hl
  | _ :: _, [], _, _, hl => by simp at hl
  | r :: rs, y :: bs, seen, h, hl => by
    have hl' : rs.length = bs.length := by simpa using hl
    by_cases hy : y = .dead
    · subst hy
      obtain ⟨h1, h2⟩ := apartN_at (show apartN rs bs seen = true from h) hl'
      refine ⟨fun b x hb hx => ?_, fun b b' x x' hb hx hb' hx' e => ?_⟩
      · cases b with
        | zero => simp at hb; exact absurd hb.symm hx
        | succ b => exact h1 b x (by simpa using hb) hx
      · cases b with
        | zero => simp at hb; exact absurd hb.symm hx
        | succ b =>
          cases b' with
          | zero => simp at hb'; exact absurd hb'.symm hx'
          | succ b' => rw [h2 b b' x x' (by simpa using hb) hx (by simpa using hb') hx' e]
    · have h' : (bif memN r seen then false else apartN rs bs (r :: seen)) = true := by
        cases y with
        | dead => exact absurd rfl hy
        | ints => exact h
        | rows => exact h
      cases hm : memN r seen with
      | true => rw [hm] at h'; cases h'
      | false =>
        rw [hm, cond_false] at h'
        have hr : r ∉ seen := fun hc => by rw [memN_iff.2 hc] at hm; cases hm
        obtain ⟨h1, h2⟩ := apartN_at h' hl'
        refine ⟨fun b x hb hx => ?_, fun b b' x x' hb hx hb' hx' e => ?_⟩
        · cases b with
          | zero => exact hr
          | succ b => exact fun hc => h1 b x (by simpa using hb) hx (List.mem_cons_of_mem _ hc)
        · cases b with
          | zero =>
            cases b' with
            | zero => rfl
            | succ b' => exact absurd (show nth0 rs b' ∈ r :: seen by rw [← show r = nth0 rs b' from e]; exact List.mem_cons_self ..) (h1 b' x' (by simpa using hb') hx')
          | succ b =>
            cases b' with
            | zero => exact absurd (show nth0 rs b ∈ r :: seen by rw [show nth0 rs b = r from e]; exact List.mem_cons_self ..) (h1 b x (by simpa using hb) hx)
            | succ b' => rw [h2 b b' x x' (by simpa using hb) hx (by simpa using hb') hx' e]

section
variable {P : Program} {G : Nat → TI} {base : Nat} {O0 : Nat → Prop} {μ : Nat → Nat} {hp hq : List Blk} {w w' : World}

/-- memory and its new names -/
structure Named (ρ : List Nat) (hp hq : List Blk) : Prop where
  len : ρ.length = hq.length
  blk : ∀ b x, hq[b]? = some x → x ≠ .dead → hp[nth0 ρ b]? = some (rnB ρ x)
  apart : ∀ b b' x x', hq[b]? = some x → x ≠ .dead → hq[b']? = some x' → x' ≠ .dead → nth0 ρ b = nth0 ρ b' → b = b'
  inl : blksIn (lenB hq) hq

theorem rnB_dead {ρ : List Nat} {x : Blk} (h : x ≠ .dead) : rnB ρ x ≠ .dead := by cases x <;> simp_all [rnB]
theorem rnB_dim {ρ : List Nat} {x : Blk} : (rnB ρ x).dim = x.dim := by cases x <;> simp [rnB, Blk.dim, mapB_eq]
theorem rnB_wr {ρ : List Nat} {x : Blk} : (rnB ρ x).wr = x.wr := by cases x <;> rfl
theorem not_dead_of_dim {x : Blk} {n : Nat × Nat} (h : x.dim = some n) : x ≠ .dead := by rintro rfl; simp [Blk.dim] at h
theorem not_dead_of_wr {x : Blk} (h : x.wr = true) : x ≠ .dead := by rintro rfl; simp [Blk.wr] at h

theorem Named.dim {ρ : List Nat} (N : Named ρ hp hq) {b : Nat} {n : Nat × Nat} (h : dimB hq b = some n) : dimB hp (nth0 ρ b) = some n := by
  unfold dimB at h ⊢
  cases hb : hq[b]? with
  | none => rw [hb] at h; simp [Blk.dim] at h
  | some x =>
    rw [hb] at h
    have hx : x ≠ .dead := not_dead_of_dim h
    rw [N.blk b x hb hx]
    simp only [Option.getD_some] at h ⊢
    rw [rnB_dim]
    exact h
theorem Named.wr {ρ : List Nat} (N : Named ρ hp hq) {b : Nat} (h : wrB hq b = true) : wrB hp (nth0 ρ b) = true := by
  unfold wrB at h ⊢
  cases hb : hq[b]? with
  | none => rw [hb] at h; simp [Blk.wr] at h
  | some x =>
    rw [hb] at h
    have hx : x ≠ .dead := not_dead_of_wr h
    rw [N.blk b x hb hx]
    simp only [Option.getD_some] at h ⊢
    rw [rnB_wr]
    exact h
theorem some_of_dim {b : Nat} (h : dimB hq b ≠ none) : ∃ x, hq[b]? = some x ∧ x ≠ .dead := by
  unfold dimB at h
  cases hb : hq[b]? with
  | none => rw [hb] at h; simp [Blk.dim] at h
  | some x => exact ⟨x, rfl, by rintro rfl; rw [hb] at h; simp [Blk.dim] at h⟩
theorem some_of_wr {b : Nat} (h : wrB hq b = true) : ∃ x, hq[b]? = some x ∧ x ≠ .dead := by
  unfold wrB at h
  cases hb : hq[b]? with
  | none => rw [hb] at h; simp [Blk.wr] at h
  | some x => exact ⟨x, rfl, by rintro rfl; rw [hb] at h; simp [Blk.wr] at h⟩

theorem Named.ok {ρ : List Nat} (N : Named ρ hp hq) {n : Nat} (h : okO base O0 μ hp w n) : okO base O0 (fun b => μ (nth0 ρ b)) hq w n := by
  rcases h with h | ⟨h1, h2, h3⟩
  · exact .inl h
  · exact .inr ⟨h1, h2, fun b hb => h3 _ (N.wr hb)⟩

theorem leaf_named {ρ : List Nat} (N : Named ρ hp hq) {c : AV} {v : Value} (h : LeafR (mkX base O0 μ hp w) (rn1 ρ c) v) (hi : in1 (lenB hq) c = true) : LeafR (mkX base O0 (fun b => μ (nth0 ρ b)) hq w) c v := by
  rw [lenB_eq] at hi
  cases c with
  | ms b sz row len =>
    obtain ⟨hb, h0, h1, A, cap, rfl, hle, hA, hd⟩ := (show LeafR _ (.ms (nth0 ρ b) sz row len) v from h)
    exact ⟨Nat.le_of_ble_eq_true hi, h0, h1, A, cap, rfl, hle, hA, fun n s hn => hd n s (N.dim hn)⟩
  | ptr b sz row col =>
    obtain ⟨hb, h0, rfl, hd⟩ := (show LeafR _ (.ptr (nth0 ρ b) sz row col) v from h)
    exact ⟨Nat.le_of_ble_eq_true hi, h0, rfl, fun n s hn => hd n s (N.dim hn)⟩
  | _ => exact RoV.mono (fun n hn => N.ok hn) (fun _ _ _ h => h) (show RoV _ _ _ v from h)

theorem agg_named {ρ : List Nat} (N : Named ρ hp hq) {c : AV} {v : Value} (h : AggR (mkX base O0 μ hp w) (rn2 ρ c) v) (hi : in2 (lenB hq) c = true) : AggR (mkX base O0 (fun b => μ (nth0 ρ b)) hq w) c v := by
  have list : ∀ {cs : List AV} {ys : Array Value}, allB (in1 (lenB hq)) cs = true → (mapB (rn1 ρ) cs).length = ys.size → (∀ (j : Nat) (c : AV), (mapB (rn1 ρ) cs)[j]? = some c → LeafR (mkX base O0 μ hp w) c (ys.getD j undef)) →
      cs.length = ys.size ∧ ∀ (j : Nat) (c : AV), cs[j]? = some c → LeafR (mkX base O0 (fun b => μ (nth0 ρ b)) hq w) c (ys.getD j undef) := by
    intro cs ys hi hl h
    rw [allB_eq, List.all_eq_true] at hi
    rw [mapB_eq] at hl h
    refine ⟨by simpa using hl, fun j c hj => leaf_named N (h j _ (by rw [List.getElem?_map, hj]; rfl)) (hi c (List.mem_of_getElem? hj))⟩
  cases c with
  | agg cs =>
    obtain ⟨ys, rfl, hl, h⟩ := h
    obtain ⟨h1, h2⟩ := list hi hl h
    exact ⟨ys, rfl, h1, h2⟩
  | fn f cs =>
    obtain ⟨ys, rfl, hl, h⟩ := h
    obtain ⟨h1, h2⟩ := list hi hl h
    exact ⟨ys, rfl, h1, h2⟩
  | un => exact leaf_named (c := .un) N h hi
  | lit x => exact leaf_named (c := .lit x) N h hi
  | int k n => exact leaf_named (c := .int k n) N h hi
  | bool b => exact leaf_named (c := .bool b) N h hi
  | str s => exact leaf_named (c := .str s) N h hi
  | tup cs => exact leaf_named (c := .tup cs) N h hi
  | sli k l => exact leaf_named (c := .sli k l) N h hi
  | slc sz n f => exact leaf_named (c := .slc sz n f) N h hi
  | s0 => exact leaf_named (c := .s0) N h hi
  | ms b sz row len => exact leaf_named (c := .ms b sz row len) N h hi
  | ptr b sz row col => exact leaf_named (c := .ptr b sz row col) N h hi
  | rp cs => exact leaf_named (c := .rp cs) N h hi

theorem rel_named {ρ : List Nat} (N : Named ρ hp hq) {c : AV} {v : Value} (h : RelV (mkX base O0 μ hp w) (rn3 ρ c) v) (hi : in3 (lenB hq) c = true) : RelV (mkX base O0 (fun b => μ (nth0 ρ b)) hq w) c v := by
  cases c with
  | tup cs =>
    obtain ⟨ys, rfl, hl, h⟩ := h
    simp only [in3, allB_eq, List.all_eq_true] at hi
    rw [mapB_eq] at hl h
    exact ⟨ys, rfl, by simpa using hl, fun j c hj => agg_named N (h j _ (by rw [List.getElem?_map, hj]; rfl)) (hi c (List.mem_of_getElem? hj))⟩
  | un => exact agg_named (c := .un) N h hi
  | lit x => exact agg_named (c := .lit x) N h hi
  | int k n => exact agg_named (c := .int k n) N h hi
  | bool b => exact agg_named (c := .bool b) N h hi
  | str s => exact agg_named (c := .str s) N h hi
  | agg cs => exact agg_named (c := .agg cs) N h hi
  | fn f cs => exact agg_named (c := .fn f cs) N h hi
  | sli k l => exact agg_named (c := .sli k l) N h hi
  | slc sz n f => exact agg_named (c := .slc sz n f) N h hi
  | s0 => exact agg_named (c := .s0) N h hi
  | ms b sz row len => exact agg_named (c := .ms b sz row len) N h hi
  | ptr b sz row col => exact agg_named (c := .ptr b sz row col) N h hi
  | rp cs => exact agg_named (c := .rp cs) N h hi

theorem HR.named {ρ : List Nat} (H : HR base O0 μ hp w) (N : Named ρ hp hq) : HR base O0 (fun b => μ (nth0 ρ b)) hq w := by
  refine ⟨H.all, fun b x hx => ?_, fun b hd => ?_, fun b b' h1 h2 h3 => ?_⟩
  · by_cases hne : x = .dead
    · subst hne; trivial
    · have := H.blk _ _ (N.blk b x hx hne)
      cases x with
      | dead => trivial
      | ints wr kk l => exact this
      | rows wr sz d l =>
        obtain ⟨h1, c, e, h2, h3⟩ := this
        have hin := blksIn_at N.inl hx
        rw [allB_eq, List.all_eq_true] at hin
        refine ⟨h1, c, e, h2, fun i r hi => ?_⟩
        have h4 := h3 i (mapB (rn1 ρ) r) (by rw [mapB_eq, List.getElem?_map, hi]; rfl)
        refine ⟨by simpa [mapB_eq] using h4.1, fun j a hj => ?_⟩
        obtain ⟨y, h5, h6⟩ := h4.2 j (rn1 ρ a) (by rw [mapB_eq, List.getElem?_map, hj]; rfl)
        have hr := hin r (List.mem_of_getElem? hi)
        rw [allB_eq, List.all_eq_true] at hr
        exact ⟨y, h5, leaf_named N h6 (hr a (List.mem_of_getElem? hj))⟩
  · cases hn : dimB hq b with
    | none => exact absurd hn hd
    | some n => exact H.low _ (by rw [N.dim hn]; simp)
  · obtain ⟨x, q1, q2⟩ := some_of_wr h1
    obtain ⟨x', q3, q4⟩ := some_of_dim h2
    cases hn : dimB hq b' with
    | none => exact absurd hn h2
    | some n => exact N.apart b b' x x' q1 q2 q3 q4 (H.inj _ _ (N.wr h1) (by rw [N.dim hn]; simp) h3)

/-- A round's end is told as the next round's start, under new names; the first n0 blocks keep theirs. -/
def StLeM (n0 : Nat) (ρ : List Nat) (s s' : St) : Prop :=
  blksM ρ s.h ρ s'.h ∧ apartN ρ s'.h [] = true ∧ idPre ρ n0 = true ∧ n0 ≤ lenB s'.h ∧ blksIn (lenB s'.h) s'.h ∧
    ∀ u, AVle (lookT s.t u) (rn3 ρ (lookT s'.t u)) ∧ in3 (lenB s'.h) (lookT s'.t u) = true

theorem SR.leM {I : X} {nt : Nat} {s s' : St} {a : Act} {n0 : Nat} {ρ : List Nat} (R : SR base O0 I nt s μ a w) (h : StLeM n0 ρ s s') (hI : I.h.length ≤ n0) : ∃ μ', SR base O0 I nt s' μ' a w := by
  obtain ⟨h1, h2, h3, h4, h5, h6⟩ := h
  have hl := blksM_len h1
  have N : Named ρ s.h s'.h := by
    refine ⟨hl, fun b x hb hx => ?_, (apartN_at h2 hl).2, h5⟩
    have := blksM_at h1 hb hx
    exact getBlk_some this (rnB_dead hx)
  refine ⟨fun b => μ (nth0 ρ b), R.size, R.defers, R.hr.named N, fun u => rel_named N ((h6 u).1 _ _ (R.tmps u)) (h6 u).2, ?_, R.below⟩
  have e := R.ext
  rw [lenB_eq] at h4
  refine ⟨fun n hn => N.ok (e.o n hn), fun b hb => ?_, by simp only [mkX]; omega, fun b hb n hn => ?_, e.cell, e.shape⟩
  · have := idPre_at h3 b (by omega)
    show μ (nth0 ρ b) = _
    rw [this]
    exact e.mu b hb
  · have := idPre_at h3 b (by omega)
    have hd := N.dim hn
    rw [this] at hd
    exact e.dim b hb n hd

def leM (ρ : List Nat) (k : Nat) (t : List (Nat × AV)) : List (Nat × AV) → Prop
  | [] => True
  | (i, v) :: r => (AVle (lookT t i) (rn3 ρ v) ∧ in3 k v = true) ∧ leM ρ k t r

theorem leM_spec {ρ : List Nat} {k : Nat} {t : List (Nat × AV)} : ∀ {t' : List (Nat × AV)}, leM ρ k t t' → ∀ u, AVle (lookT t u) (rn3 ρ (lookT t' u)) ∧ in3 k (lookT t' u) = true
  | [], _, u => ⟨AVle.un _, rfl⟩
  | (i, v) :: r, h, u => by
    simp only [lookT]
    cases hb : Nat.beq i u with
    | true =>
      have := Nat.eq_of_beq_eq_true hb
      subst this
      exact ⟨h.1.1, h.1.2⟩
    | false => exact leM_spec h.2 u

theorem stLeM {n0 : Nat} {ρ : List Nat} {t t' : List (Nat × AV)} {h h' : List Blk} (e : blksM ρ h ρ h') (a : apartN ρ h' [] = true) (i : idPre ρ n0 = true) (k : Nat.ble n0 (lenB h') = true) (b : blksIn (lenB h') h') (l : leM ρ (lenB h') t t') :
    StLeM n0 ρ ⟨t, h⟩ ⟨t', h'⟩ := ⟨e, a, i, Nat.le_of_ble_eq_true k, b, leM_spec l⟩

theorem loopM_real {ι : Type} (hG : GOK P G) (hm : P.follows .mixedOrders = true) {nt : Nat} {lp : Code → St → (Ex → St → Prop) → Prop} (hlp : ∀ b s K, codeOK nt b = true → lp b s K → lpR P nt b s K) {b : Code} (hc : codeOK nt b = true)
    {s : St} {K : Ex → St → Prop} (S : ι → St) (m : ι → Nat) (ok : ι → Prop) (h0 : ∃ i ρ, ok i ∧ StLeM (lenB s.h) ρ s (S i))
    (hr : ∀ i, ok i → ev (realE P) G lp b (S i) (fun e s2 => match e with
      | .normal => ∃ j ρ, m j < m i ∧ ok j ∧ StLeM (lenB s.h) ρ s2 (S j)
      | .exit x => K (.exit x) s2
      | .goto x => K (.goto x) s2
      | .ret => K .ret s2)) : lpR P nt (.loop b) s K := by
  intro base O0 I μ a w R
  have hI : I.h.length ≤ lenB s.h := by
    have h1 := R.ext.len
    rw [lenB_eq]
    simpa only [mkX] using h1
  obtain ⟨i0, ρ0, ho0, hl0⟩ := h0
  obtain ⟨μ0, R0⟩ := R.leM hl0 hI
  refine wp_loop_ghost (fun n a w => ∃ i μ, m i = n ∧ ok i ∧ SR base O0 I nt (S i) μ a w) (m i0) ⟨i0, μ0, rfl, ho0, R0⟩ ?_
  rintro n a w ⟨i, μ, rfl, ho, R⟩
  refine wp_mono (ev_sound hG hm hlp b _ (S i) μ a w hc R (hr i ho)) ?_
  intro e a w hq
  cases e with
  | normal =>
    obtain ⟨s', μ', R', j, ρ, h1, h2, h3⟩ := hq
    obtain ⟨μ2, R2⟩ := R'.leM h3 hI
    exact ⟨m j, h1, j, μ2, rfl, h2, R2⟩
  | exit i => exact hq
  | goto i => exact hq
  | ret => exact hq
  | panic ch => exact hq.elim
  | outgrown => exact hq.elim

/-- A LOOP, whose rounds hand on memory that they have made. -/
theorem E_loopM {ι : Type} {E : Env} (hE : E = realE P) (hG : GOK P G) (hm : P.follows .mixedOrders = true) {n : Nat} {lp : Code → St → (Ex → St → Prop) → Prop} (hlp : Loops P n lp) {b : Code} {s : St} {K : Ex → St → Prop}
    (S : ι → St) (m : ι → Nat) (ok : ι → Prop) (h0 : ∃ i ρ, ok i ∧ StLeM (lenB s.h) ρ s (S i))
    (hr : ∀ i, ok i → ev E G lp b (S i) (fun e s2 => match e with
      | .normal => ∃ j ρ, m j < m i ∧ ok j ∧ StLeM (lenB s.h) ρ s2 (S j)
      | .exit x => K (.exit x) s2
      | .goto x => K (.goto x) s2
      | .ret => K .ret s2)) : lp (.loop b) s K := by
  subst hE
  subst hlp
  intro hc
  exact loopM_real hG hm (lp := fun b s K => codeOK n b = true → lpR P n b s K) (fun b s K hc h => h hc) (b := b) (show codeOK n b = true from hc) S m ok h0 hr

theorem m_nil {ρ : List Nat} {k : Nat} {t : List (Nat × AV)} : leM ρ k t [] := trivial
theorem m_cons {ρ : List Nat} {k : Nat} {t : List (Nat × AV)} {i : Nat} {v : AV} {r : List (Nat × AV)} (h : sle2 (lookT t i) (rn3 ρ v)) (h' : in3 k v = true) (q : leM ρ k t r) : leM ρ k t ((i, v) :: r) := ⟨⟨fun x val hv => rel_le h hv, h'⟩, q⟩
/-- a place, told by other numbers of the same worth -/
theorem ms_le {b sz : Nat} {row len row' len' : SI} (h1 : row.val = row'.val) (h2 : len.val = len'.val) : AVle (.ms b sz row len) (.ms b sz row' len') := by
  intro x v h
  have h := (show LeafR x (.ms b sz row len) v from h)
  show LeafR x (.ms b sz row' len') v
  unfold LeafR at h ⊢
  dsimp only at h ⊢
  rw [← h1, ← h2]
  exact h
end
end Go.Proofs.Ytaiillbjhdoikaa.Ev

/- Calls that write the caller's memory, or hand back memory that they have made: contracts of them. -/
namespace Go.Proofs.Ytaiillbjhdoikaa.Ev
open Go Go.RowKit
set_option linter.unusedVariables false
set_option linter.unusedSimpArgs false
variable {P : Program} {G : Nat → TI}

/-- A result and the memory behind the call, told under other names; the first n0 blocks keep theirs. -/
def ResLe (n0 : Nat) (ρ : List Nat) (v : AV) (h : List Blk) (r : AV) (h' : List Blk) : Prop :=
  blksM ρ h ρ h' ∧ apartN ρ h' [] = true ∧ idPre ρ n0 = true ∧ n0 ≤ lenB h' ∧ blksIn (lenB h') h' ∧ AVle v (rn3 ρ r) ∧ in3 (lenB h') r = true

theorem callsH_named {f : FuncId} {args : List AV} {h : List Blk} {K K' : AV → List Blk → Prop} (hC : CallsH P f args h K')
    (hK : ∀ v h1, K' v h1 → ∃ ρ r h2, ResLe (lenB h) ρ v h1 r h2 ∧ K r h2) : CallsH P f args h K := by
  intro base O0 μ w vals H hl ha
  refine (hC base O0 μ w vals H hl ha).mono ?_
  rintro e w' ⟨val, v, h1, μ1, rfl, hk, hv, H1, X1, hB⟩
  obtain ⟨ρ, r, h2, ⟨q1, q2, q3, q4, q5, q6, q7⟩, hr⟩ := hK v h1 hk
  have hlen := blksM_len q1
  have N : Named ρ h1 h2 := by
    refine ⟨hlen, fun b x hb hx => ?_, (apartN_at q2 hlen).2, q5⟩
    have := blksM_at q1 hb hx
    exact getBlk_some this (rnB_dead hx)
  refine ⟨val, r, h2, fun b => μ1 (nth0 ρ b), rfl, hr, rel_named N (q6 _ _ hv) q7, H1.named N, ?_, hB⟩
  rw [lenB_eq] at q3
  rw [lenB_eq, lenB_eq] at q4
  refine ⟨fun n hn => N.ok (X1.o n hn), fun b hb => ?_, by simp only [mkX]; omega, fun b hb n hn => ?_, X1.cell, X1.shape⟩
  · have := idPre_at q3 b (by simpa only [mkX] using hb)
    show μ1 (nth0 ρ b) = _
    rw [this]
    exact X1.mu b hb
  · have := idPre_at q3 b (by simpa only [mkX] using hb)
    have hd := N.dim hn
    rw [this] at hd
    exact X1.dim b hb n hd

theorem callsH_mono {f : FuncId} {args : List AV} {h : List Blk} {K K' : AV → List Blk → Prop} (hC : CallsH P f args h K') (hK : ∀ v h1, K' v h1 → K v h1) : CallsH P f args h K := by
  intro base O0 μ w vals H hl ha
  refine (hC base O0 μ w vals H hl ha).mono ?_
  rintro e w' ⟨val, v, h1, μ1, rfl, hk, hr⟩
  exact ⟨val, v, h1, μ1, rfl, hK v h1 hk, hr⟩

/-- A contract of a call over memory, out of a run. -/
theorem callsH_of (hG : GOK P G) (hm : P.follows .mixedOrders = true) {f : FuncId} {fn : Func} (hf : P.funcs[f]? = some fn) {args : List AV} (ho : fnOK fn args.length = true)
    {h : List Blk} {K : AV → List Blk → Prop} (hv : ∀ E, E = realE P → ∀ lp, Loops P fn.ntmps lp → evF E G lp fn args h K) : CallsH P f args h K :=
  E_in rfl hG hm hf ho (fz := none) (fun lp hl => hv _ rfl lp hl)

theorem E_callH {E : Env} (hE : E = realE P) {f : FuncId} {args : List AV} {h : List Blk} {K K' : AV → List Blk → Prop} {fz : Option (List AV × List Blk)} (hC : CallsH P f args h K') (hK : ∀ v h1, K' v h1 → K v h1) : E.call f args h fz K := by
  subst hE; exact callsH_mono hC hK
end Go.Proofs.Ytaiillbjhdoikaa.Ev

/- Contracts: a guess times the divisor taken away, and given back: both write the caller's memory. Printed by gen.py. -/
namespace Go.Proofs.Ytaiillbjhdoikaa.Ev
open Go Go.Proofs
set_option linter.unusedVariables false
set_option linter.unusedSimpArgs false


attribute [local irreducible] Lb
def lessS (E : Env) (d z Q : List Int) (q at_ n : Int) : Int × Int × Int × List Int → St := fun p => ⟨[(0, .ms 2 1 (.l 0) (.s n)), (1, .sli .u32 d), (2, .int .u32 (.s q)), (3, .int .i64 (.s at_)), (9, .int .u32 (.s p.2.2.1)), (10, .int .u64 (.s p.2.1)), (14, .sli .u32 d), (15, .int .i64 (.s (E.len d))), (16, .int .i64 (.s p.1))],
  [.dead, .ints true .u32 z, .ints true .u32 p.2.2.2, .ints true .u32 Q]⟩
set_option maxHeartbeats 2000000 in
theorem h_less (d z R Q : List Int) (q at_ n : Int) (hd : Lb d) (hR : Lb R) (hq : 0 ≤ q ∧ q < 4294967296) (hlr : R.length < 134217728) (ha : 0 ≤ at_) (hat : at_ + d.length < R.length) (hn : at_ + d.length < n) (hn2 : n ≤ R.length) :
    CallsH Try.prog 110 [.ms 2 1 (.l 0) (.s n), .sli .u32 d, .int .u32 (.s q), .int .i64 (.s at_)] [.dead, .ints true .u32 z, .ints true .u32 R, .ints true .u32 Q]
      (fun v h => ∃ r b, v = .bool (.s b) ∧ h = [.dead, .ints true .u32 z, .ints true .u32 r, .ints true .u32 Q] ∧ LessR R d q at_.toNat r b) := by
  obtain ⟨m, em⟩ : ∃ m : Int × Int × Int × List Int → Nat, ∀ p, m p = (d.length - p.1).toNat := ⟨_, fun _ => rfl⟩
  obtain ⟨ok, eok⟩ : ∃ ok : Int × Int × Int × List Int → Prop, ∀ p, ok p ↔ 0 ≤ p.1 ∧ p.1 ≤ d.length ∧ LessInv R d q at_.toNat p.2.2.2 p.1.toNat p.2.1 p.2.2.1 := ⟨_, fun _ => Iff.rfl⟩
  refine callsH_of hG hm Try.func110 (by kernel_rfl) ?_
  intro E hE lp hl
  cbv
  repeat' (first
    | (refine E_br hE (fun h => ?_) (fun h => ?_) <;> cbv)
    | (refine E_nm hE (fun v hv => ?_); cbv)
    | (refine E_nilS hE (fun b hb => ?_); cbv)
    | fail)
  refine E_loop hE hG hm hl (lessS E d z Q q at_ n) m ok ⟨(0, 0, 0, R), (eok _).2 ⟨by show (0 : Int) ≤ 0; omega, by show (0 : Int) ≤ d.length; omega, LessInv.start d q at_.toNat hR⟩, stLe rfl ?_⟩ ?_
  · (repeat' (first | exact t_nil | apply t_cons | exact u2_sli | exact u2_int | exact u2_bool | exact u2_ms | exact u2_ptr | exact (rfl : sle2 .s0 .s0)))
  rintro ⟨i, carry, borrow, r⟩ hok
  have h1 : 0 ≤ i := ((eok _).1 hok).1
  have h2 : i ≤ d.length := ((eok _).1 hok).2.1
  have inv : LessInv R d q at_.toNat r i.toNat carry borrow := ((eok _).1 hok).2.2
  have lr := inv.lb
  have hol := inv.len
  have b0 := inv.b0
  have b1 := inv.b1
  have w1 : ∀ x : Int, 0 ≤ IntKind.u32.wrap x := fun x => by rw [wu32]; omega
  have w2 : ∀ x : Int, IntKind.u32.wrap x < 4294967296 := fun x => by rw [wu32]; omega
  clear hok
  cbv
  repeat' (first
    | (refine E_br hE (fun h => ?_) (fun h => ?_) <;> cbv)
    | (refine E_nm hE (fun v hv => ?_); cbv)
    | (refine E_nilS hE (fun b hb => ?_); cbv)
    | (apply E_callX hE (c_Sub32 _ _ _ ?_ ?_ ?_ ?_ ?_ ?_); (case hf => rfl); (case hc => (cbv <;> trivial)); (case hle => exact u_up); all_goals (first | (intro t ht; cbv) | (((try simp only [SI.val]); first | omega | (subst hE; first | exact (lr.getD _).1 | exact (lr.getD _).2 | exact w1 _ | exact w2 _)))))
    | fail)
  all_goals (try (rename_i c' ec _ _ _; refine ⟨(E.bin .add .i64 i 1, c', v, E.set r (E.bin .add .i64 at_ _) t.1), ?_, ?_, stLe rfl ?_⟩))
  all_goals (try ((repeat' (first | exact t_nil | apply t_cons | exact u2_sli | exact u2_int | exact u2_bool | exact u2_ms | exact u2_ptr | exact (rfl : sle2 .s0 .s0))); done))
  all_goals (subst hE)
  all_goals (try (first
    | (rw [em, em]; exact (less_next hd hq hlr h1 (lss_t ‹_›) ha hat inv ‹_ = i› ‹_› ‹_› ‹t = _› ‹_› rfl ‹_›).2.2.1)
    | (rw [eok]; have q := less_next hd hq hlr h1 (lss_t ‹_›) ha hat inv ‹_ = i› ‹_› ‹_› ‹t = _› ‹_› rfl ‹_›; exact ⟨q.1, q.2.1, q.2.2.2⟩)
    | exact ⟨_, _, rfl, rfl, less_stop hlr h2 (lss_f ‹_›) ha hat inv ‹t = _› ‹_› rfl⟩))
  all_goals (clear inv eok em w1 w2; simp only [NatCast.natCast, Int.ofNat_eq_natCast, realE, cmp_eql, cmp_neq, cmp_lss, cmp_leq, cmp_gtr, cmp_geq, intBinR, decide_eq_true_eq, decide_eq_false_iff_not, SI.val, SB.val, Num.eta, Iv.eta] at *; (try simp only [wi64] at *); subst_vars; omega)

def moreS (E : Env) (d z Q : List Int) (at_ n : Int) : Int × Int × List Int → St := fun p => ⟨[(0, .ms 2 1 (.l 0) (.s n)), (1, .sli .u32 d), (2, .int .i64 (.s at_)), (6, .int .u32 (.s p.2.1)), (9, .sli .u32 d), (10, .int .i64 (.s (E.len d))), (11, .int .i64 (.s p.1))],
  [.dead, .ints true .u32 z, .ints true .u32 p.2.2, .ints true .u32 Q]⟩
set_option maxHeartbeats 2000000 in
theorem h_more (d z R Q : List Int) (at_ n : Int) (hd : Lb d) (hR : Lb R) (hlr : R.length < 134217728) (ha : 0 ≤ at_) (hat : at_ + d.length < R.length) (hn : at_ + d.length < n) (hn2 : n ≤ R.length) :
    CallsH Try.prog 111 [.ms 2 1 (.l 0) (.s n), .sli .u32 d, .int .i64 (.s at_)] [.dead, .ints true .u32 z, .ints true .u32 R, .ints true .u32 Q]
      (fun v h => ∃ r, v = .tup [] ∧ h = [.dead, .ints true .u32 z, .ints true .u32 r, .ints true .u32 Q] ∧ MoreR R d at_.toNat r) := by
  obtain ⟨m, em⟩ : ∃ m : Int × Int × List Int → Nat, ∀ p, m p = (d.length - p.1).toNat := ⟨_, fun _ => rfl⟩
  obtain ⟨ok, eok⟩ : ∃ ok : Int × Int × List Int → Prop, ∀ p, ok p ↔ 0 ≤ p.1 ∧ p.1 ≤ d.length ∧ MoreInv R d at_.toNat p.2.2 p.1.toNat p.2.1 := ⟨_, fun _ => Iff.rfl⟩
  refine callsH_of hG hm Try.func111 (by kernel_rfl) ?_
  intro E hE lp hl
  cbv
  repeat' (first
    | (refine E_br hE (fun h => ?_) (fun h => ?_) <;> cbv)
    | (refine E_nm hE (fun v hv => ?_); cbv)
    | (refine E_nilS hE (fun b hb => ?_); cbv)
    | fail)
  refine E_loop hE hG hm hl (moreS E d z Q at_ n) m ok ⟨(0, 0, R), (eok _).2 ⟨by show (0 : Int) ≤ 0; omega, by show (0 : Int) ≤ d.length; omega, MoreInv.start d at_.toNat hR⟩, stLe rfl ?_⟩ ?_
  · (repeat' (first | exact t_nil | apply t_cons | exact u2_sli | exact u2_int | exact u2_bool | exact u2_ms | exact u2_ptr | exact (rfl : sle2 .s0 .s0)))
  rintro ⟨i, c, r⟩ hok
  have h1 : 0 ≤ i := ((eok _).1 hok).1
  have h2 : i ≤ d.length := ((eok _).1 hok).2.1
  have inv : MoreInv R d at_.toNat r i.toNat c := ((eok _).1 hok).2.2
  have lr := inv.lb
  have hol := inv.len
  have c0 := inv.c0
  have c1 := inv.c1
  have g1 : ∀ v, v = E.get d i → 0 ≤ v := by subst hE; intro v e; rw [e]; exact (hd.getD _).1
  have g2 : ∀ v, v = E.get d i → v < 4294967296 := by subst hE; intro v e; rw [e]; exact (hd.getD _).2
  clear hok
  cbv
  repeat' (first
    | (refine E_br hE (fun h => ?_) (fun h => ?_) <;> cbv)
    | (refine E_nm hE (fun v hv => ?_); cbv)
    | (refine E_nilS hE (fun b hb => ?_); cbv)
    | (apply E_callX hE (c_Add32 _ _ _ ?_ ?_ ?_ ?_ ?_ ?_); (case hf => rfl); (case hc => (cbv <;> trivial)); (case hle => exact u_up); all_goals (first | (intro t ht; cbv) | (((try simp only [SI.val]); first | omega | exact g1 _ ‹_› | exact g2 _ ‹_› | (subst hE; first | exact (lr.getD _).1 | exact (lr.getD _).2)))))
    | fail)
  all_goals (try (refine ⟨(E.bin .add .i64 i 1, v, E.set r (E.bin .add .i64 at_ _) t.1), ?_, ?_, stLe rfl ?_⟩))
  all_goals (try ((repeat' (first | exact t_nil | apply t_cons | exact u2_sli | exact u2_int | exact u2_bool | exact u2_ms | exact u2_ptr | exact (rfl : sle2 .s0 .s0))); done))
  all_goals (subst hE)
  all_goals (try (first
    | (rw [em, em]; exact (more_next hd hlr h1 (lss_t ‹_›) ha hat inv ‹_ = i› ‹_› ‹t = _› ‹_› rfl).2.2.1)
    | (rw [eok]; have q := more_next hd hlr h1 (lss_t ‹_›) ha hat inv ‹_ = i› ‹_› ‹t = _› ‹_› rfl; exact ⟨q.1, q.2.1, q.2.2.2⟩)
    | exact ⟨_, rfl, rfl, more_stop hlr h2 (lss_f ‹_›) ha hat inv rfl⟩))
  all_goals (clear inv eok em g1 g2; simp only [NatCast.natCast, Int.ofNat_eq_natCast, realE, cmp_eql, cmp_neq, cmp_lss, cmp_leq, cmp_gtr, cmp_geq, intBinR, decide_eq_true_eq, decide_eq_false_iff_not, SI.val, SB.val, Num.eta, Iv.eta] at *; (try simp only [wi64] at *); subst_vars; omega)
  all_goals trace_state

end Go.Proofs.Ytaiillbjhdoikaa.Ev

/- Contracts: limbs shifted, into memory that the caller writes. Printed by gen.py. -/
namespace Go.Proofs.Ytaiillbjhdoikaa.Ev
open Go Go.Proofs
set_option linter.unusedVariables false
set_option linter.unusedSimpArgs false


attribute [local irreducible] Lb
set_option maxHeartbeats 1000000 in
theorem h_cut (L : List Int) (n : Int) (hL : Lb L) (hl : L.length < 268435456) (hn : n = L.length) :
    CallsH Try.prog 85 [.ms 0 1 (.l 0) (.s n)] [.ints true .u32 L] (fun v h => ∃ k : Int, v = .ms 0 1 (.l 0) (.s k) ∧ h = [.ints true .u32 L] ∧ 0 ≤ k ∧ k ≤ L.length ∧ L.take k.toNat = lim (lv L)) := by
  obtain ⟨m, em⟩ : ∃ m : Int → Nat, ∀ p, m p = p.toNat := ⟨_, fun _ => rfl⟩
  obtain ⟨ok, eok⟩ : ∃ ok : Int → Prop, ∀ p, ok p ↔ 0 ≤ p ∧ p ≤ L.length ∧ lv (L.take p.toNat) = lv L := ⟨_, fun _ => Iff.rfl⟩
  have s0 : 0 ≤ n ∧ n ≤ L.length ∧ lv (L.take n.toNat) = lv L := ⟨by omega, by omega, by rw [hn, Int.toNat_natCast, List.take_length]⟩
  refine callsH_of hG hm Try.func85 (by kernel_rfl) ?_
  intro E hE lp hl'
  cbv
  refine E_loop hE hG hm hl' (fun p : Int => (⟨[(0, .ms 0 1 (.l 0) (.s p)), (2, .s0)], [.ints true .u32 L]⟩ : St)) m ok ⟨n, (eok _).2 s0, stLe rfl ?_⟩ ?_
  · (repeat' (first | exact t_nil | apply t_cons | exact u2_sli | exact u2_int | exact u2_bool | exact u2_ms | exact u2_ptr | exact (rfl : sle2 .s0 .s0)))
  intro k hok
  have h1 : 0 ≤ k := ((eok _).1 hok).1
  have h2 : k ≤ L.length := ((eok _).1 hok).2.1
  have h3 : lv (L.take k.toNat) = lv L := ((eok _).1 hok).2.2
  have next : ∀ j : Int, 0 < k → j = intBinR .sub .i64 k 1 → L.getD j.toNat 0 = 0 → 0 ≤ j ∧ j ≤ L.length ∧ j.toNat < k.toNat ∧ lv (L.take j.toNat) = lv L := by
    intro j h0 hj hz
    have hj' : j = k - 1 := by rw [hj]; exact wi64_id (by omega) (by omega)
    refine ⟨by omega, by omega, by omega, ?_⟩
    rw [show j.toNat = k.toNat - 1 by omega] at hz ⊢
    rw [lv_cut_step (by omega) (by omega) hz, h3]
  have fin : (k = 0 ∨ L.getD (intBinR .sub .i64 k 1).toNat 0 ≠ 0) → L.take k.toNat = lim (lv L) := by
    intro h
    refine cut_end hL (by omega) ?_ h3
    rcases h with h | h
    · exact .inl (by omega)
    · rcases Int.lt_or_le 0 k with h0 | h0
      · have e : intBinR .sub .i64 k 1 = k - 1 := wi64_id (by omega) (by omega)
        rw [e, show (k - 1).toNat = k.toNat - 1 by omega] at h
        exact .inr h
      · exact .inl (by omega)
  clear hok
  cbv
  repeat' (first
    | (refine E_br hE (fun h => ?_) (fun h => ?_) <;> cbv)
    | (refine E_nm hE (fun v hv => ?_); cbv)
    | (refine E_nilS hE (fun b hb => ?_); cbv)
    | fail)
  all_goals (try (refine ⟨E.bin .sub .i64 k 1, ?_, ?_, stLe rfl ?_⟩))
  all_goals (try ((repeat' (first | exact t_nil | apply t_cons | exact u2_sli | exact u2_int | exact u2_bool | exact u2_ms | exact u2_ptr | exact (rfl : sle2 .s0 .s0))); done))
  all_goals (subst hE)
  all_goals (try (first
    | (rw [em, em]; exact (next _ (gtr_t ‹_›) rfl (eql_t ‹_›)).2.2.1)
    | (rw [eok]; have q := next _ (gtr_t ‹_›) rfl (eql_t ‹_›); exact ⟨q.1, q.2.1, q.2.2.2⟩)
    | exact ⟨k, rfl, rfl, h1, h2, fin (.inr (eql_f ‹_›))⟩
    | exact ⟨k, rfl, rfl, h1, h2, fin (.inl (by have := gtr_f ‹_›; omega))⟩))
  all_goals (clear next fin eok em s0; simp only [NatCast.natCast, Int.ofNat_eq_natCast, realE, cmp_eql, cmp_neq, cmp_lss, cmp_leq, cmp_gtr, cmp_geq, intBinR, decide_eq_true_eq, decide_eq_false_iff_not, SI.val, SB.val, Num.eta, Iv.eta] at *; (try simp only [wi64] at *); omega)

theorem h_Clone (a : List Int) (ha : 0 < a.length) (hl : a.length ≤ 268435456) :
    CallsH Try.prog 97 [.sli .u32 a] [] (fun v h => ∃ L k, v = .ms 0 1 (.l 0) (.s k) ∧ h = [.ints true .u32 L] ∧ k = (a.length : Int) ∧ L = a) := by
  refine callsH_named (callsH_of (K := fun v h => ∃ L k, v = .ms 1 1 (.l 0) (.s k) ∧ h = [.dead, .ints true .u32 L] ∧ k = (a.length : Int) ∧ L = a) hG hm Try.func97 (by kernel_rfl) ?_) ?_
  · intro E hE lp hl'
    cbv
    repeat' (first
    | (refine E_br hE (fun h => ?_) (fun h => ?_) <;> cbv)
    | (refine E_nm hE (fun v hv => ?_); cbv)
    | (refine E_nilS hE (fun b hb => ?_); cbv)
    | fail)
    all_goals (subst hE)
    · exfalso; have := hb h; simp only [realE] at this; omega
    · exact ⟨_, _, rfl, rfl, rfl, rfl⟩
    · have := leq_f h; simp only [realE] at this; omega
  · rintro v h ⟨L, k, rfl, rfl, hk, hL⟩
    exact ⟨[1], .ms 0 1 (.l 0) (.s k), [.ints true .u32 L], ⟨⟨rfl, trivial⟩, rfl, rfl, Nat.zero_le _, trivial, ms_le rfl rfl, rfl⟩, L, k, rfl, rfl, hk, hL⟩
set_option maxHeartbeats 1000000 in
theorem h_Shl (a : List Int) (n : Int) (ha : Lb a) (hla : a.length < 67108864) (ha0 : 0 < lv a) (hn0 : 0 ≤ n) (hn1 : n ≤ 16777216) :
    CallsH Try.prog 57 [.sli .u32 a, .int .i64 (.s n)] [] (fun v h => ∃ L k, v = .ms 0 1 (.l 0) (.s k) ∧ h = [.ints true .u32 L] ∧ 0 ≤ k ∧ k ≤ L.length ∧ L.take k.toNat = lim (lv a * 2 ^ n.toNat) ∧ L.length ≤ 134217728) := by
  generalize hr : lim (lv a * 2 ^ n.toNat) = r
  have hlx := lim_length_le' ha
  have hx := lim_lb (lv a)
  have vx := lv_lim (lv a)
  obtain ⟨x, ex⟩ : ∃ x, lim (lv a) = x := ⟨_, rfl⟩
  rw [ex] at hlx hx vx
  have hx0 : 0 < x.length := by
    rcases Nat.eq_zero_or_pos x.length with h | h
    · rw [List.length_eq_zero_iff.1 h] at vx; simp only [lv] at vx; omega
    · exact h
  obtain ⟨m, em⟩ : ∃ m : Int × List Int → Nat, ∀ p, m p = (x.length - p.1).toNat := ⟨_, fun _ => rfl⟩
  obtain ⟨ok, eok⟩ : ∃ ok : Int × List Int → Prop, ∀ p, ok p ↔ 0 ≤ p.1 ∧ p.1 ≤ x.length ∧ ShlInv x p.2 (n / 32).toNat (n % 32).toNat p.1.toNat := ⟨_, fun _ => Iff.rfl⟩
  have eN : ∀ l : Int, 1 ≤ n → n ≤ 16777216 → l = intBinR .quo .i64 n 32 → IntKind.i64.wrap (IntKind.i64.wrap ((x.length : Int) + l) + 1) = x.length + n / 32 + 1 := by
    intro l n1 n2 el
    have : l = n / 32 := by rw [el]; exact quo32 (by omega) (by omega)
    rw [this, wi64_id (n := (x.length : Int) + n / 32) (by omega) (by omega), wi64_id (by omega) (by omega)]
  refine callsH_of hG hm Try.func57 (by kernel_rfl) ?_
  intro E hE lp hl
  cbv
  (apply E_callX hE (c_cut a ha (by omega)); (case hf => rfl); (case hc => (cbv <;> trivial)); (case hle => exact ⟨u2_sli, trivial⟩); intro x' hx'; cbv)
  rw [hx'.trans ex]
  clear hx' x'
  refine E_br hE (fun h => ?_) (fun h => ?_)
  · have e : x = r := by subst hE; have := lss_t h; rw [← hr, show n.toNat = 0 by omega, Nat.pow_zero, Nat.mul_one, ex]
    cbv
    refine E_callH hE (h_Clone x hx0 (by omega)) ?_
    rintro v h1 ⟨L, k, rfl, rfl, hk, hL⟩
    cbv
    exact ⟨L, k, rfl, rfl, by rw [hk]; exact Int.natCast_nonneg _, by rw [hk, hL]; exact Int.le_refl _, by rw [hk, hL, Int.toNat_natCast, List.take_length]; exact e, by rw [hL]; omega⟩
  have n1 : 1 ≤ n := by subst hE; have := lss_f h; omega
  cbv
  repeat' (first
    | (refine E_br hE (fun h => ?_) (fun h => ?_) <;> cbv)
    | (refine E_nm hE (fun v hv => ?_); cbv)
    | (refine E_nilS hE (fun b hb => ?_); cbv)
    | fail)
  · exfalso; subst hE; have := gtr_t ‹_›; omega
  · exfalso
    have e0 : x.length = 0 := by subst hE; have := eql_t h; simp only [realE] at this; omega
    omega
  all_goals (have n2 : n ≤ 16777216 := (by subst hE; have := gtr_f ‹(realE Try.prog).cmp .gtr n 16777216 = false›; omega))
  all_goals (try (exfalso; have := eN _ n1 n2 (by subst hE; assumption); subst hE; simp only [NatCast.natCast, Int.ofNat_eq_natCast, realE, cmp_eql, cmp_neq, cmp_lss, cmp_leq, cmp_gtr, cmp_geq, intBinR, decide_eq_true_eq, decide_eq_false_iff_not, SI.val, SB.val, Num.eta, Iv.eta] at *; rw [this] at *; omega))
  rename_i l el _ _
  replace eN := eN l n1 n2 (by subst hE; exact el)
  simp only [NatCast.natCast, Int.ofNat_eq_natCast] at eN
  have er := hv
  have l1 : l = n / 32 := by subst hE; rw [el]; exact quo32 (by omega) (by omega)
  have r1 : 0 ≤ v := by
    have : v = n % 32 := by subst hE; rw [hv]; exact rem32 (by omega)
    omega
  clear hv
  refine E_loop hE hG hm hl (shlS E x l v) m ok ⟨(0, E.rep (E.bin .add .i64 (E.bin .add .i64 (E.len x) l) 1)), (eok _).2 ?_, stLe rfl ?_⟩ ?_
  · refine ⟨by show (0 : Int) ≤ 0; omega, by show (0 : Int) ≤ x.length; omega, ?_⟩
    have := ShlInv.start x (n / 32).toNat (n % 32).toNat
    subst hE; simp only [NatCast.natCast, Int.ofNat_eq_natCast, realE, cmp_eql, cmp_neq, cmp_lss, cmp_leq, cmp_gtr, cmp_geq, intBinR, decide_eq_true_eq, decide_eq_false_iff_not, SI.val, SB.val, Num.eta, Iv.eta] at *; rw [eN, show ((x.length : Int) + n / 32 + 1).toNat = x.length + (n / 32).toNat + 1 by omega]
    exact this
  · (repeat' (first | exact t_nil | apply t_cons | exact u2_sli | exact u2_int | exact u2_bool | exact u2_ms | exact u2_ptr | exact (rfl : sle2 .s0 .s0)))
  rintro ⟨i, out⟩ hok
  have h1 : 0 ≤ i := ((eok _).1 hok).1
  have h2 : i ≤ x.length := ((eok _).1 hok).2.1
  have inv : ShlInv x out (n / 32).toNat (n % 32).toNat i.toNat := ((eok _).1 hok).2.2
  have hol := inv.len
  have fin : ¬ i < x.length → lim (lv out) = r := by
    intro h
    have inv' := inv
    rw [show i.toNat = x.length by omega] at inv'
    rw [inv'.stop, ← hr, vx, show 32 * (n / 32).toNat + (n % 32).toNat = n.toNat by omega]
  have lo := inv.lb
  have hol2 : out.length ≤ 134217728 := by omega
  have eNN : E.bin .add .i64 (E.bin .add .i64 (E.len x) l) 1 = (out.length : Int) := by
    subst hE; show IntKind.i64.wrap (IntKind.i64.wrap ((x.length : Int) + l) + 1) = _; rw [eN]; omega
  clear hok hr ex
  cbv
  repeat' (first
    | (refine E_br hE (fun h => ?_) (fun h => ?_) <;> cbv)
    | (refine E_nm hE (fun v hv => ?_); cbv)
    | (refine E_nilS hE (fun b hb => ?_); cbv)
    | fail)
  all_goals (try (
    refine E_callH hE (h_cut out (E.bin .add .i64 (E.bin .add .i64 (E.len x) l) 1) lo (by omega) eNN) ?_
    rintro v h1 ⟨k, rfl, rfl, k1, k2, k3⟩
    cbv
    exact ⟨out, k, rfl, rfl, k1, k2, k3.trans (fin (by subst hE; exact lss_f ‹_›)), hol2⟩))
  all_goals (try refine ⟨(E.bin .add .i64 i 1, _), ?_, ?_, stLe rfl ?_⟩)
  all_goals (try ((repeat' (first | exact t_nil | apply t_cons | exact u2_sli | exact u2_int | exact u2_bool | exact u2_ms | exact u2_ptr | exact (rfl : sle2 .s0 .s0))); done))
  all_goals (subst hE)
  all_goals (try (first | (rw [em, em]; exact (shl_next hx (by omega) n1 n2 h1 (lss_t ‹_›) inv ‹_› el er ‹_› ‹_› rfl).2.2.1) | (rw [eok]; have q := shl_next hx (by omega) n1 n2 h1 (lss_t ‹_›) inv ‹_› el er ‹_› ‹_› rfl; exact ⟨q.1, q.2.1, q.2.2.2⟩)))
  all_goals (clear inv eok em fin er el; simp only [NatCast.natCast, Int.ofNat_eq_natCast, realE, cmp_eql, cmp_neq, cmp_lss, cmp_leq, cmp_gtr, cmp_geq, intBinR, decide_eq_true_eq, decide_eq_false_iff_not, SI.val, SB.val, Num.eta, Iv.eta] at *; (try rw [eN] at *); clear eN; (try simp only [wi64] at *); omega)
end Go.Proofs.Ytaiillbjhdoikaa.Ev

/- A long division's start, rounds and end, as the words of the program reckon them. -/
namespace Go.Proofs.Ytaiillbjhdoikaa.Ev
open Go

theorem lim_length_ge {n k : Nat} (h : 0 < k) (hk : 4294967296 ^ (k - 1) ≤ n) : k ≤ (lim n).length := by
  have := lim_length_lt hk
  omega

theorem lv_ge_last {a : List Int} (h : Lb a) (hne : a ≠ []) (h0 : a.getD (a.length - 1) 0 ≠ 0) : 4294967296 ^ (a.length - 1) ≤ lv a := by
  have hl : 0 < a.length := List.length_pos_iff.2 hne
  have e := lv_take_succ (a := a) (i := a.length - 1) (by omega)
  rw [show a.length - 1 + 1 = a.length by omega, lv_take_all] at e
  have hg := h.getD (a.length - 1)
  have : 4294967296 ^ (a.length - 1) * 1 ≤ 4294967296 ^ (a.length - 1) * (a.getD (a.length - 1) 0).toNat := Nat.mul_le_mul_left _ (by omega)
  omega

/-- The divisor, moved up as far as its limbs go. -/
theorem norm_len {y : List Int} {by_ : Int} (h : Lb y) (hne : y ≠ []) (h0 : y.getD (y.length - 1) 0 ≠ 0) (e : by_ = 32 - blen (y.getD (y.length - 1) 0)) :
    0 ≤ by_ ∧ by_ < 32 ∧ (lim (lv y * 2 ^ by_.toNat)).length = y.length := by
  have hl : 0 < y.length := List.length_pos_iff.2 hne
  have hg := h.getD (y.length - 1)
  have b1 := blen_le 32 (x := y.getD (y.length - 1) 0) (by omega)
  obtain ⟨n, q1, q2, q3⟩ := blen_pos (x := y.getD (y.length - 1) 0) (by omega)
  have hb : 0 ≤ by_ ∧ by_ < 32 := by omega
  refine ⟨hb.1, hb.2, ?_⟩
  have hL := blen_len h hne h0
  have hN : blen (lv y : Int) = ((32 * (y.length - 1) + n : Nat) : Int) + 1 := by rw [hL, q1]; omega
  obtain ⟨k1, k2⟩ := (blen_nat_iff _).1 hN
  have p : (4294967296 : Nat) ^ y.length = 2 ^ (32 * (y.length - 1) + n + 1) * 2 ^ by_.toNat := by
    rw [← Nat.pow_add, show (4294967296 : Nat) = 2 ^ 32 by rfl, ← Nat.pow_mul]
    congr 1
    omega
  apply Nat.le_antisymm
  · apply lim_length_le
    rw [p]
    exact Nat.mul_lt_mul_of_pos_right k2 (Nat.two_pow_pos _)
  · apply lim_length_ge hl
    have := lv_ge_last h hne h0
    have h2 : lv y * 1 ≤ lv y * 2 ^ by_.toNat := Nat.mul_le_mul_left _ (Nat.two_pow_pos _)
    omega

theorem div_start {x y : List Int} {k : Nat} (hx : Lb x) (hy : Lb y) (hxn : x ≠ []) (hyn : y ≠ []) (hx0 : x.getD (x.length - 1) 0 ≠ 0) (hy0 : y.getD (y.length - 1) 0 ≠ 0) (hle : y.length ≤ x.length) :
    DivInv (lv x * 2 ^ k) (lv y * 2 ^ k) y.length (lim (lv x * 2 ^ k) ++ [0, 0]) (List.replicate (x.length - y.length + 1) 0) (x.length - y.length + 1) := by
  have hyl : 0 < y.length := List.length_pos_iff.2 hyn
  have hxl : 0 < x.length := List.length_pos_iff.2 hxn
  have g1 := lv_ge_last hx hxn hx0
  have g2 := lv_ge_last hy hyn hy0
  have g3 := lv_lt hx
  have e0 : lv (lim (lv x * 2 ^ k) ++ [0, 0]) = lv x * 2 ^ k := by
    rw [lv_append, lv_lim]
    simp [lv]
  refine ⟨?_, (lim_lb _).append (Lb.cons (by omega) (by omega) (Lb.cons (by omega) (by omega) Lb.nil)), Lb.replicate _, fun j _ => getD_replicate0 _ _, ?_, ?_⟩
  · have : x.length ≤ (lim (lv x * 2 ^ k)).length := by
      apply lim_length_ge hxl
      have : lv x * 1 ≤ lv x * 2 ^ k := Nat.mul_le_mul_left _ (Nat.two_pow_pos _)
      omega
    simp only [List.length_replicate, List.length_append, List.length_cons, List.length_nil]
    omega
  · rw [lv_replicate, e0]; omega
  · rw [e0]
    have e1 : lv y * 2 ^ k * 4294967296 ^ (x.length - y.length + 1) = 2 ^ k * (lv y * 4294967296 ^ (x.length - y.length + 1)) := by grind
    have e2 : 4294967296 ^ (y.length - 1) * 4294967296 ^ (x.length - y.length + 1) = 4294967296 ^ x.length := by
      rw [← Nat.pow_add]; congr 1; omega
    have e3 : 4294967296 ^ (y.length - 1) * 4294967296 ^ (x.length - y.length + 1) ≤ lv y * 4294967296 ^ (x.length - y.length + 1) := Nat.mul_le_mul_right _ g2
    rw [e1, Nat.mul_comm (lv x)]
    exact Nat.mul_lt_mul_of_pos_left (by omega) (Nat.two_pow_pos _)

section
variable {A : Nat} {d R Q : List Int} {at_ top i i' : Int}
/-- where a round works -/
theorem div_at (hl : Q.length < 134217728) (h1 : 0 ≤ i) (h2 : i < Q.length) (ei : i' = i) (ea : at_ = intBinR .sub .i64 (intBinR .sub .i64 Q.length 1) i') : at_ = Q.length - 1 - i := by
  subst ei
  rw [ea]
  show IntKind.i64.wrap (IntKind.i64.wrap ((Q.length : Int) - 1) - i') = _
  rw [wi64_id (n := (Q.length : Int) - 1) (by omega) (by omega), wi64_id (by omega) (by omega)]

theorem div_guess (hi : DivInv A (lv d) d.length R Q (at_.toNat + 1)) (hd : Lb d) (hn : 2 ≤ d.length) (h0 : d.getD (d.length - 1) 0 ≠ 0) (hl : R.length < 134217728) (ha : 0 ≤ at_) (hat : at_ < Q.length)
    (et : top = intBinR .add .i64 at_ d.length) :
    GuessIn (R.getD top.toNat 0) (R.getD (intBinR .sub .i64 top 1).toNat 0) (R.getD (intBinR .sub .i64 top 2).toNat 0) (d.getD (intBinR .sub .i64 d.length 1).toNat 0) (d.getD (intBinR .sub .i64 d.length 2).toNat 0) ∧
    (guessQ (R.getD top.toNat 0) (R.getD (intBinR .sub .i64 top 1).toNat 0) (R.getD (intBinR .sub .i64 top 2).toNat 0) (d.getD (intBinR .sub .i64 d.length 1).toNat 0) (d.getD (intBinR .sub .i64 d.length 2).toNat 0)
      = guessQ (R.getD (at_.toNat + d.length) 0) (R.getD (at_.toNat + d.length - 1) 0) (R.getD (at_.toNat + d.length - 2) 0) (d.getD (d.length - 1) 0) (d.getD (d.length - 2) 0)) := by
  have hr := hi.lenr
  have et' : top = at_ + d.length := by rw [et]; exact wi64_id (by omega) (by omega)
  have e1 : (intBinR .sub .i64 top 1).toNat = at_.toNat + d.length - 1 := by
    have : intBinR .sub .i64 top 1 = top - 1 := wi64_id (by omega) (by omega)
    omega
  have e2 : (intBinR .sub .i64 top 2).toNat = at_.toNat + d.length - 2 := by
    have : intBinR .sub .i64 top 2 = top - 2 := wi64_id (by omega) (by omega)
    omega
  have e3 : (intBinR .sub .i64 d.length 1).toNat = d.length - 1 := by
    have : intBinR .sub .i64 (d.length : Int) 1 = d.length - 1 := wi64_id (by omega) (by omega)
    omega
  have e4 : (intBinR .sub .i64 d.length 2).toNat = d.length - 2 := by
    have : intBinR .sub .i64 (d.length : Int) 2 = d.length - 2 := wi64_id (by omega) (by omega)
    omega
  rw [e1, e2, e3, e4, show top.toNat = at_.toNat + d.length by omega]
  exact ⟨hi.in_ hd hn rfl (by omega) h0, rfl⟩

theorem div_same {g : Int} {r : List Int} (hi : DivInv A (lv d) d.length R Q (at_.toNat + 1)) (hd : Lb d) (hn : 2 ≤ d.length) (h0 : d.getD (d.length - 1) 0 ≠ 0) (ha : 0 ≤ at_) (hat : at_ < Q.length)
    (eg : g = guessQ (R.getD (at_.toNat + d.length) 0) (R.getD (at_.toNat + d.length - 1) 0) (R.getD (at_.toNat + d.length - 2) 0) (d.getD (d.length - 1) 0) (d.getD (d.length - 2) 0))
    (hr : LessR R d g at_.toNat r false) : DivInv A (lv d) d.length r (Q.set at_.toNat g) at_.toNat := by
  have ok := guessQ_ok (hi.in_ hd hn rfl (by omega) h0)
  rw [← eg] at ok
  have nr := hi.near hd hn rfl (by omega) h0 ok
  have g2 := lv_ge_last hd (by intro e; rw [e] at hn; simp at hn) h0
  have hD : 0 < lv d := Nat.lt_of_lt_of_le (Nat.pow_pos (by omega)) g2
  have v := hr.val
  have q0 := ok.q0
  have q1 := ok.q1
  exact hi.same (by omega) hD hr.len hr.lb ⟨q0, by omega⟩ nr.1 (by simpa using v)

theorem div_less {g g' : Int} {r1 r : List Int} (hi : DivInv A (lv d) d.length R Q (at_.toNat + 1)) (hd : Lb d) (hn : 2 ≤ d.length) (h0 : d.getD (d.length - 1) 0 ≠ 0) (ha : 0 ≤ at_) (hat : at_ < Q.length)
    (eg : g = guessQ (R.getD (at_.toNat + d.length) 0) (R.getD (at_.toNat + d.length - 1) 0) (R.getD (at_.toNat + d.length - 2) 0) (d.getD (d.length - 1) 0) (d.getD (d.length - 2) 0))
    (hr1 : LessR R d g at_.toNat r1 true) (hr : MoreR r1 d at_.toNat r) (eg' : g' = intBinR .sub .u32 g 1) : DivInv A (lv d) d.length r (Q.set at_.toNat g') at_.toNat := by
  have ok := guessQ_ok (hi.in_ hd hn rfl (by omega) h0)
  rw [← eg] at ok
  have nr := hi.near hd hn rfl (by omega) h0 ok
  have g2 := lv_ge_last hd (by intro e; rw [e] at hn; simp at hn) h0
  have hD : 0 < lv d := Nat.lt_of_lt_of_le (Nat.pow_pos (by omega)) g2
  have v1 := hr1.val
  obtain ⟨c, c0, c1, v⟩ := hr.val
  have q0 := ok.q0
  have q1 := ok.q1
  obtain ⟨p1, p2⟩ := hi.less (by omega) hD (lv_lt hd) (hr.len.trans hr1.len) hr1.lb hr.lb ⟨q0, by omega⟩ nr.2 (fun j hj => (hr.same j hj).trans (hr1.same j hj)) hr1.same ⟨c0, c1⟩ (by simpa using v1) v
  have e : g' = g - 1 := by rw [eg']; show IntKind.u32.wrap (g - 1) = _; rw [wu32]; omega
  rw [e]; exact p2
end

theorem lv_take_of_lt {R : List Int} {n : Nat} (h : n ≤ R.length) (hlt : lv R < 4294967296 ^ n) : lv (R.take n) = lv R := by
  have e := lv_take_drop R n h
  rcases Nat.eq_zero_or_pos (lv (R.drop n)) with h0 | h0
  · rw [h0] at e; omega
  · have : 4294967296 ^ n * 1 ≤ 4294967296 ^ n * lv (R.drop n) := Nat.mul_le_mul_left _ h0
    omega

theorem div_stop {x y R Q : List Int} {k m : Nat} (hy : Lb y) (hyn : y ≠ []) (hy0 : 0 < lv y) (hm : y.length + 1 ≤ m) (hmR : m ≤ R.length) (hlen : (lim (lv y * 2 ^ k)).length = y.length)
    (hi : DivInv (lv x * 2 ^ k) (lv y * 2 ^ k) y.length R Q 0) : lv Q = lv x / lv y ∧ lv (R.take m) / 2 ^ k = lv x % lv y := by
  obtain ⟨s1, s2⟩ := hi.stop
  have p : 0 < 2 ^ k := Nat.two_pow_pos k
  have hlt : lv R < 4294967296 ^ m := by
    have h1 : lv y * 2 ^ k < 4294967296 ^ y.length := by
      have := lv_lt (lim_lb (lv y * 2 ^ k))
      rwa [lv_lim, hlen] at this
    have h2 : (4294967296 : Nat) ^ y.length ≤ 4294967296 ^ m := Nat.pow_le_pow_right (by omega) (by omega)
    have h3 : lv R < lv y * 2 ^ k := by rw [s2]; exact Nat.mod_lt _ (Nat.mul_pos hy0 p)
    omega
  rw [lv_take_of_lt hmR hlt, s1, s2, Nat.mul_div_mul_right _ _ p, Nat.mul_mod_mul_right, Nat.mul_div_cancel _ p]
  exact ⟨rfl, rfl⟩
end Go.Proofs.Ytaiillbjhdoikaa.Ev

/- Contracts: the quotient and the rest of limbs. Printed by gen.py. -/
namespace Go.Proofs.Ytaiillbjhdoikaa.Ev
open Go Go.Proofs
set_option linter.unusedVariables false
set_option linter.unusedSimpArgs false


attribute [local irreducible] Lb
theorem pred_len {y : List Int} (h : 1 ≤ y.length) (h' : y.length < 67108864) : intBinR .sub .i64 (y.length : Int) 1 = y.length - 1 := wi64_id (by omega) (by omega)
def divS (w : Int) (d : List Int) (n1 nq : Int) : Int × List Int × List Int → St := fun p => ⟨[(9, .int .i64 (.s w)), (10, .sli .u32 d), (11, .ms 2 1 (.l 0) (.s n1)), (12, .ms 3 1 (.l 0) (.s nq)), (73, .int .i64 (.s nq)), (74, .int .i64 (.s p.1))],
  [.dead, .ints true .u32 [0, 0], .ints true .u32 p.2.1, .ints true .u32 p.2.2]⟩
structure DivOK (A : Nat) (d : List Int) (qn rn : Nat) (i : Int) (R Q : List Int) : Prop where
  i0 : 0 ≤ i
  i1 : i ≤ qn
  inv : DivInv A (lv d) d.length R Q ((qn : Int) - i).toNat
  ql : Q.length = qn
  rl : R.length = rn
set_option maxHeartbeats 4000000 in
theorem c_natDiv (a b : List Int) (ha : Lb a) (hb : Lb b) (hla : a.length < 33554432) (hlb : b.length < 33554432) : ∃ t : List Int × List Int × Bool, t = (if lv b = 0 then ([], [], false) else (lim (lv a / lv b), lim (lv a % lv b), true)) ∧
    CallsA Try.prog 66 [.sli .u32 a, .sli .u32 b] (.tup [.sli .u32 t.1, .sli .u32 t.2.1, .bool (.s t.2.2)]) := by
  refine ⟨_, rfl, ?_⟩
  generalize hr : (if lv b = 0 then ([], [], false) else (lim (lv a / lv b), lim (lv a % lv b), true)) = r
  have hlx := lim_length_le' ha
  have hx := lim_lb (lv a)
  have vx := lv_lim (lv a)
  have lx := (lim_cn (lv a)).last
  have hly := lim_length_le' hb
  have hy := lim_lb (lv b)
  have vy := lv_lim (lv b)
  have ly := (lim_cn (lv b)).last
  obtain ⟨x, ex⟩ : ∃ x, lim (lv a) = x := ⟨_, rfl⟩
  obtain ⟨y, ey⟩ : ∃ y, lim (lv b) = y := ⟨_, rfl⟩
  rw [ex] at hlx hx vx lx
  rw [ey] at hly hy vy ly
  have y0 : y.length = 0 ↔ lv b = 0 := by
    rw [← ey, List.length_eq_zero_iff, lim_eq_nil]
  obtain ⟨m, em⟩ : ∃ m : Int × List Int × List Int → Nat, ∀ p, m p = (x.length + 1 - p.1).toNat := ⟨_, fun _ => rfl⟩
  obtain ⟨ok, eok⟩ : ∃ ok : List Int → Int → Nat → Nat → Int × List Int × List Int → Prop, ∀ d w qn rn p, ok d w qn rn p ↔ DivOK (lv x * 2 ^ w.toNat) d qn rn p.1 p.2.1 p.2.2 := ⟨_, fun _ _ _ _ _ => Iff.rfl⟩
  refine callsA_of hG hm Try.func66 (by kernel_rfl) ?_
  intro E hE lp hl
  cbv
  (apply E_callX hE (c_cut a ha (by omega)); (case hf => rfl); (case hc => (cbv <;> trivial)); (case hle => exact ⟨u2_sli, trivial⟩); intro x' hx'; cbv)
  (apply E_callX hE (c_cut b hb (by omega)); (case hf => rfl); (case hc => (cbv <;> trivial)); (case hle => exact ⟨u2_sli, trivial⟩); intro y' hy'; cbv)
  rw [hx'.trans ex, hy'.trans ey]
  clear hx' hy' x' y'
  refine E_br hE (fun h => ?_) (fun h => ?_)
  · have e : lv b = 0 := y0.1 (by subst hE; have := eql_t h; simp only [realE] at this; omega)
    cbv
    rw [← hr, if_pos e]
    exact ⟨rfl, rfl, rfl, trivial⟩
  have hb0 : 0 < lv b := by
    rcases Nat.eq_zero_or_pos (lv b) with e | e
    · exfalso; have := y0.2 e; subst hE; have := eql_f h; simp only [realE] at this; omega
    · exact e
  have ny : y ≠ [] := by intro e; rw [e] at vy; simp only [lv] at vy; omega
  rw [if_neg (by omega)] at hr
  (apply E_callX hE (c_natCmp x y hx hy (by omega) (by omega)); (case hf => rfl); (case hc => (cbv <;> trivial)); (case hle => exact ⟨u2_sli, u2_sli, trivial⟩); intro t ht; cbv)
  rw [vx, vy] at ht
  refine E_br hE (fun h => ?_) (fun h => ?_)
  · have hlt : lv a < lv b := by
      subst hE; have := lss_t h
      rw [ht] at this
      rcases Nat.lt_or_ge (lv a) (lv b) with h1 | h1
      · exact h1
      · rw [if_neg (by omega)] at this; split at this <;> omega
    cbv
    repeat' (first
    | (refine E_br hE (fun h => ?_) (fun h => ?_) <;> cbv)
    | (refine E_nm hE (fun v hv => ?_); cbv)
    | (refine E_nilS hE (fun b hb => ?_); cbv)
    | (apply E_callX hE (c_Clone _ ?_); (case hf => rfl); (case hc => (cbv <;> trivial)); (case hle => exact u_up); all_goals (first | (intro t ht; cbv) | (omega)))
    | fail)
    rw [← hr, Nat.div_eq_of_lt hlt, Nat.mod_eq_of_lt hlt, ex]
    exact ⟨rfl, ‹_›, rfl, trivial⟩
  have hge : lv b ≤ lv a := by
    subst hE; have := lss_f h
    rw [ht] at this
    rcases Nat.lt_or_ge (lv a) (lv b) with h1 | h1
    · rw [if_pos h1] at this; omega
    · exact h1
  refine E_br hE (fun h => ?_) (fun h => ?_)
  · have y1 : y.length = 1 := by subst hE; have := eql_t h; simp only [realE] at this; omega
    have e0 : y = [y.getD 0 0] := by
      obtain ⟨z, hz⟩ := List.length_eq_one_iff.1 y1
      rw [hz]; rfl
    have g0 := hy.getD 0
    have v0 : lv b = (y.getD 0 0).toNat := by
      rw [← vy]
      conv => lhs; rw [e0]
      simp only [lv]; omega
    have p0 : 0 < y.getD 0 0 := by omega
    cbv
    repeat' (first
    | (refine E_br hE (fun h => ?_) (fun h => ?_) <;> cbv)
    | (refine E_nm hE (fun v hv => ?_); cbv)
    | (refine E_nilS hE (fun b hb => ?_); cbv)
    | (apply E_callX hE (c_short x _ hx ?_ ?_ ?_); (case hf => rfl); (case hc => (cbv <;> trivial)); (case hle => exact u_up); all_goals (first | (intro t ht; cbv) | ((subst hE; first | omega | exact p0 | exact g0.2))))
    | fail)
    · subst hE
      have ht' : t = (lim (lv x / (y.getD 0 0).toNat), lim (lv x % (y.getD 0 0).toNat)) := ht
      rw [ht', ← hr, vx, ← v0]; exact ⟨rfl, rfl, rfl, trivial⟩
    · subst hE; have := lss_f h; simp only [realE] at this; omega
  have y2 : 2 ≤ y.length := by
    have h1 : 0 < y.length := List.length_pos_iff.2 ny
    subst hE; have := eql_f h; simp only [realE] at this; omega
  have nx : x ≠ [] := by intro e; rw [e] at vx; simp only [lv] at vx; omega
  have xy : y.length ≤ x.length := by
    rw [← ex, ← ey]
    rcases Nat.lt_or_ge (lim (lv a)).length (lim (lv b)).length with h1 | h1
    · have := lim_len_lt h1; omega
    · exact h1
  have gl := hy.getD (y.length - 1)
  have g1 : E.get y (E.bin .sub .i64 (E.len y) 1) = y.getD (y.length - 1) 0 := by
    subst hE
    show y.getD (intBinR .sub .i64 (y.length : Int) 1).toNat 0 = _
    rw [pred_len (by omega) (by omega), show ((y.length : Int) - 1).toNat = y.length - 1 by omega]
  cbv
  refine E_br hE (fun h => ?_) (fun h => ?_)
  rotate_left
  · exfalso; subst hE; have := leq_f h; change ¬ 0 ≤ intBinR .sub .i64 (y.length : Int) 1 at this; rw [pred_len (by omega) (by omega)] at this; omega
  cbv
  refine E_br hE (fun h => ?_) (fun h => ?_)
  rotate_left
  · exfalso; subst hE; have := lss_f h; change ¬ intBinR .sub .i64 (y.length : Int) 1 < (y.length : Int) at this; rw [pred_len (by omega) (by omega)] at this; omega
  cbv
  (apply E_callX hE (c_LZ32 (E.get y (E.bin .sub .i64 (E.len y) 1)) (by rw [g1]; exact gl.1) (by rw [g1]; exact gl.2)); (case hf => rfl); (case hc => (cbv <;> trivial)); (case hle => exact ⟨u2_int, trivial⟩); intro t1 ht1; cbv)
  refine E_nm hE (fun w hw => ?_)
  have ew : w = 32 - blen (y.getD (y.length - 1) 0) := by rw [hw, ht1, g1]
  have w0 := (norm_len hy ny (ly ny) ew).1
  have w1 := (norm_len hy ny (ly ny) ew).2.1
  have dl := (norm_len hy ny (ly ny) ew).2.2
  clear hw ew ht1
  cbv
  (apply E_callX hE (c_natShl y w hy (by omega)); (case hf => rfl); (case hc => (cbv <;> trivial)); (case hle => exact ⟨u2_sli, u2_int, trivial⟩); intro d hd; cbv)
  have ed : d = lim (lv y * 2 ^ w.toNat) := by
    rw [hd]
    split
    · rw [show w.toNat = 0 by omega, Nat.pow_zero, Nat.mul_one]
    · rw [if_neg (by omega)]
  have ld : Lb d := ed ▸ lim_lb _
  have vd : lv d = lv y * 2 ^ w.toNat := by rw [ed, lv_lim]
  have nd : d.length = y.length := by rw [ed]; exact dl
  have d0 : d.getD (d.length - 1) 0 ≠ 0 := by
    rw [ed]
    refine (lim_cn _).last ?_
    intro e; rw [e] at dl; simp only [List.length_nil] at dl; omega
  have ds := div_start (k := w.toNat) hx hy nx ny (lx nx) (ly ny) xy
  clear lx ly hd
  refine E_callH hE (h_Shl x w hx (by omega) (by omega) w0 (by omega)) ?_
  intro v h1 hv
  obtain ⟨L, k, hv⟩ := hv
  rw [hv.1, hv.2.1]
  have k0 := hv.2.2.1
  have k1 := hv.2.2.2.1
  have k2 := hv.2.2.2.2.1
  have k3 := hv.2.2.2.2.2
  clear hv h1 v
  have kl : k.toNat = (lim (lv x * 2 ^ w.toNat)).length := by
    have := congrArg List.length k2
    rw [List.length_take] at this; omega
  have kx : (x.length : Int) + 1 ≤ k + 2 := by
    have := ds.lenr
    simp only [List.length_replicate, List.length_append, List.length_cons, List.length_nil] at this
    omega
  have kR : k ≤ 134217728 := by omega
  have kb : (lim (lv x * 2 ^ w.toNat)).length ≤ x.length + 1 := by
    apply lim_length_le
    have h1 := lv_lt hx
    have h2 : 2 ^ w.toNat ≤ 4294967296 := two_pow_le (by omega)
    rw [Nat.pow_succ]
    have h3 : lv x * 2 ^ w.toNat ≤ lv x * 4294967296 := Nat.mul_le_mul_left _ h2
    omega
  rw [← vd, ← nd] at ds
  obtain ⟨qn, hqn⟩ : ∃ qn, qn = x.length - d.length + 1 := ⟨_, rfl⟩
  obtain ⟨rn, hrn⟩ : ∃ rn, rn = k.toNat + 2 := ⟨_, rfl⟩
  have start : DivOK (lv x * 2 ^ w.toNat) d qn rn 0 (((L.drop (0 : Int).toNat).take k.toNat) ++ [0, 0]) (List.replicate qn 0) := by
    refine ⟨Int.le_refl _, by omega, ?_, by simp, ?_⟩
    · rw [← hqn] at ds
      rw [show (0 : Int).toNat = 0 by rfl, List.drop_zero, k2, show ((qn : Int) - 0).toNat = qn by omega]
      exact ds
    · rw [show (0 : Int).toNat = 0 by rfl, List.drop_zero, k2, List.length_append, ← kl]
      rw [hrn]; rfl
  have rn1 : x.length + 1 ≤ rn := by omega
  have rn2 : rn < 67108870 := by omega
  have fin : ∀ i R Q, DivOK (lv x * 2 ^ w.toNat) d qn rn i R Q → ¬ i < qn → Lb Q ∧ Q.length = qn ∧ Lb (R.take (x.length + 1)) ∧ (R.take (x.length + 1)).length = x.length + 1 ∧ (lim (lv Q), lim (lv (R.take (x.length + 1)) / 2 ^ w.toNat), true) = r := by
    intro i R Q o hi
    have hi' : ((qn : Int) - i).toNat = 0 := by have := o.i1; omega
    have inv := o.inv
    rw [hi', vd, nd] at inv
    have rl := o.rl
    obtain ⟨f1, f2⟩ := div_stop hy ny (by omega) (m := x.length + 1) (by omega) (by omega) dl inv
    refine ⟨inv.lbq, o.ql, inv.lbr.take _, by rw [List.length_take]; omega, ?_⟩
    rw [f1, f2, vx, vy, hr]
  have nqv : intBinR .add .i64 (intBinR .sub .i64 (x.length : Int) y.length) 1 = qn := by
    have e : intBinR .sub .i64 (x.length : Int) y.length = x.length - y.length := wi64_id (by omega) (by omega)
    have e2 : intBinR .add .i64 ((x.length : Int) - y.length) 1 = x.length - y.length + 1 := wi64_id (by omega) (by omega)
    rw [e, e2, hqn]; omega
  have n1v : intBinR .add .i64 (x.length : Int) 1 = (x.length + 1 : Nat) := by
    have e2 : intBinR .add .i64 (x.length : Int) 1 = x.length + 1 := wi64_id (by omega) (by omega)
    rw [e2]; rfl
  have qn1 : qn < 67108864 := by omega
  have d2 : 2 ≤ d.length := by omega
  have dx : d.length ≤ x.length := by omega
  have xyI : (y.length : Int) ≤ x.length := by omega
  have y2I : (2 : Int) ≤ y.length := by omega
  have xI : (x.length : Int) < 33554432 := by omega
  cbv
  repeat' (first
    | (refine E_br hE (fun h => ?_) (fun h => ?_) <;> cbv)
    | (refine E_nm hE (fun v hv => ?_); cbv)
    | (refine E_nilS hE (fun b hb => ?_); cbv)
    | fail)
  all_goals (try (exfalso; clear start ds dl d0 kl k2 ed vd fin nqv n1v; subst hE; simp only [NatCast.natCast, Int.ofNat_eq_natCast, realE, cmp_eql, cmp_neq, cmp_lss, cmp_leq, cmp_gtr, cmp_geq, intBinR, decide_eq_true_eq, decide_eq_false_iff_not, SI.val, SB.val, Num.eta, Iv.eta] at *; (try simp only [wi64] at *); omega))
  clear ds dl kl k2 ed vd g1 gl k0 k1 k3 kx kR kb
  refine E_loop hE hG hm hl (divS w d (E.bin .add .i64 (E.len x) 1) (E.bin .add .i64 (E.bin .sub .i64 (E.len x) (E.len y)) 1)) m (ok d w qn rn)
    ⟨(0, E.app (E.sub L 0 k) (E.sub [0, 0] 0 (Int.ofNat 2)), E.rep (E.bin .add .i64 (E.bin .sub .i64 (E.len x) (E.len y)) 1)), (eok _ _ _ _ _).2 ?_, stLe rfl ?_⟩ ?_
  · subst hE
    have e : (realE Try.prog).bin .add .i64 ((realE Try.prog).bin .sub .i64 ((realE Try.prog).len x) ((realE Try.prog).len y)) 1 = (qn : Int) := nqv
    rw [e]
    exact start
  · (repeat' (first | exact t_nil | apply t_cons | exact u2_sli | exact u2_int | exact u2_bool | exact u2_ms | exact u2_ptr | exact (rfl : sle2 .s0 .s0)))
  clear start
  rintro ⟨i, R, Q⟩ hok
  have o : DivOK (lv x * 2 ^ w.toNat) d qn rn i R Q := (eok _ _ _ _ _).1 hok
  have fin' := fin i R Q o
  have i0 := o.i0
  have i1 := o.i1
  clear hok fin ht
  cbv
  repeat' (first
    | (refine E_br hE (fun h => ?_) (fun h => ?_) <;> cbv)
    | (refine E_nm hE (fun v hv => ?_); cbv)
    | (refine E_nilS hE (fun b hb => ?_); cbv)
    | fail)
  all_goals (try (exfalso; clear fin' em eok o nqv n1v; subst hE; simp only [NatCast.natCast, Int.ofNat_eq_natCast, realE, cmp_eql, cmp_neq, cmp_lss, cmp_leq, cmp_gtr, cmp_geq, intBinR, decide_eq_true_eq, decide_eq_false_iff_not, SI.val, SB.val, Num.eta, Iv.eta] at *; (try simp only [wi64] at *); omega))
  rotate_left
  · simp only [NatCast.natCast, Int.ofNat_eq_natCast] at nqv n1v
    have hge : ¬ i < (qn : Int) := by
      subst hE
      have q : ¬ i < intBinR .add .i64 (intBinR .sub .i64 (x.length : Int) y.length) 1 := lss_f h
      rw [nqv] at q
      exact q
    have f1 := (fin' hge).1
    have f2 := (fin' hge).2.1
    have f3 := (fin' hge).2.2.1
    have f4 := (fin' hge).2.2.2.1
    have f5 := (fin' hge).2.2.2.2
    have e1 : E.sub Q 0 (E.bin .add .i64 (E.bin .sub .i64 (E.len x) (E.len y)) 1) = Q := by
      subst hE
      show (Q.drop (0 : Int).toNat).take (intBinR .add .i64 (intBinR .sub .i64 (x.length : Int) y.length) 1).toNat = Q
      rw [nqv]
      exact sub_all (by rw [f2])
    have e2 : E.sub R 0 (E.bin .add .i64 (E.len x) 1) = R.take (x.length + 1) := by
      subst hE
      show (R.drop (0 : Int).toNat).take (intBinR .add .i64 (x.length : Int) 1).toNat = _
      rw [n1v, Int.toNat_natCast]; rfl
    clear fin' o em eok
    (apply E_callX hE (c_cut (E.sub Q 0 (E.bin .add .i64 (E.bin .sub .i64 (E.len x) (E.len y)) 1)) (by rw [e1]; exact f1) (by rw [e1, f2]; omega)); (case hf => rfl); (case hc => (cbv <;> trivial)); (case hle => exact ⟨u2_sli, trivial⟩); intro q hq; cbv)
    (apply E_callX hE (c_natShr (E.sub R 0 (E.bin .add .i64 (E.len x) 1)) w (by rw [e2]; exact f3) (by rw [e2, f4]; omega)); (case hf => rfl); (case hc => (cbv <;> trivial)); (case hle => exact ⟨u2_sli, u2_int, trivial⟩); intro q2 hq2; cbv)
    rw [← f5]
    rw [e1] at hq
    rw [e2] at hq2
    exact ⟨hq, hq2, rfl, trivial⟩
  rename_i i' ei at_ eat _ _ _ _ _ _ _ _ _
  simp only [NatCast.natCast, Int.ofNat_eq_natCast] at nqv n1v xyI y2I xI
  have hi : i < (qn : Int) := by
    subst hE
    have q : i < intBinR .add .i64 (intBinR .sub .i64 (x.length : Int) y.length) 1 := lss_t ‹(realE Try.prog).cmp .lss i _ = true›
    rw [nqv] at q
    exact q
  have nqE : E.bin .add .i64 (E.bin .sub .i64 (E.len x) (E.len y)) 1 = qn := by subst hE; exact nqv
  have n1E : E.bin .add .i64 (E.len x) 1 = (x.length + 1 : Nat) := by subst hE; exact n1v
  have hat : at_ = qn - 1 - i := by
    rw [nqE] at eat
    subst hE
    rw [← o.ql] at eat ⊢
    exact div_at (by rw [o.ql]; omega) o.i0 (by rw [o.ql]; exact hi) ei eat
  have i0 := o.i0
  have a0 : 0 ≤ at_ := by omega
  have a1 : at_ < Q.length := by rw [o.ql]; omega
  have a2 : at_ + d.length < ((x.length + 1 : Nat) : Int) := by omega
  have a3 : ((x.length + 1 : Nat) : Int) ≤ R.length := by rw [o.rl]; omega
  have a4 : R.length < 134217728 := by rw [o.rl]; omega
  have inv : DivInv (lv x * 2 ^ w.toNat) (lv d) d.length R Q (at_.toNat + 1) := by
    have := o.inv
    rwa [show ((qn : Int) - i).toNat = at_.toNat + 1 by omega] at this
  have etop := hv
  have dg : GuessIn (E.get R v) (E.get R (E.bin .sub .i64 v 1)) (E.get R (E.bin .sub .i64 v 2)) (E.get d (E.bin .sub .i64 (E.len d) 1)) (E.get d (E.bin .sub .i64 (E.len d) 2)) ∧
      guessQ (E.get R v) (E.get R (E.bin .sub .i64 v 1)) (E.get R (E.bin .sub .i64 v 2)) (E.get d (E.bin .sub .i64 (E.len d) 1)) (E.get d (E.bin .sub .i64 (E.len d) 2)) =
        guessQ (R.getD (at_.toNat + d.length) 0) (R.getD (at_.toNat + d.length - 1) 0) (R.getD (at_.toNat + d.length - 2) 0) (d.getD (d.length - 1) 0) (d.getD (d.length - 2) 0) := by
    subst hE
    exact div_guess inv ld d2 d0 a4 a0 a1 etop
  have gq := guessQ_ok dg.1
  (apply E_pcallX hE (c_guess _ _ _ _ _ dg.1); (case hm => rfl); (case hle => exact ⟨u2_int, u2_int, u2_int, u2_int, u2_int, trivial⟩); intro g hg)
  have g0 : 0 ≤ g ∧ g < 4294967296 := by rw [hg]; exact ⟨gq.q0, by have := gq.q1; omega⟩
  have eg := hg.trans dg.2
  clear dg gq hg
  have j1 : ∀ j, j = intBinR .add .i64 i 1 → j = i + 1 := fun j e => e.trans (wi64_id (by omega) (by omega))
  have lbR := inv.lbr
  have next : ∀ (j : Int) (r' : List Int) (g' : Int), j = intBinR .add .i64 i 1 → r'.length = R.length → DivInv (lv x * 2 ^ w.toNat) (lv d) d.length r' (Q.set at_.toNat g') at_.toNat →
      m (j, r', Q.set at_.toNat g') < m (i, R, Q) ∧ ok d w qn rn (j, r', Q.set at_.toNat g') := by
    intro j r' g' ej hl hi'
    have ej := j1 j ej
    refine ⟨by rw [em, em]; show ((x.length : Int) + 1 - j).toNat < ((x.length : Int) + 1 - i).toNat; omega, (eok _ _ _ _ _).2 ⟨by show 0 ≤ j; omega, by show j ≤ (qn : Int); omega, ?_, by rw [List.length_set]; exact o.ql, hl.trans o.rl⟩⟩
    show DivInv _ _ _ _ _ ((qn : Int) - j).toNat
    rw [show ((qn : Int) - j).toNat = at_.toNat by omega]
    exact hi'
  have n1a : at_ + d.length < E.bin .add .i64 (E.len x) 1 := by rw [n1E]; exact a2
  have n1b : E.bin .add .i64 (E.len x) 1 ≤ R.length := by rw [n1E]; exact a3
  have a5 : at_ + d.length < R.length := by omega
  have aq : at_ < E.bin .add .i64 (E.bin .sub .i64 (E.len x) (E.len y)) 1 := by rw [nqE]; omega
  cbv
  refine E_nm hE (fun g' hg' => ?_)
  rw [hg']
  clear hg' g'
  cbv
  refine E_callH hE (h_less d [0, 0] R Q g at_ (E.bin .add .i64 (E.len x) 1) ld lbR g0 a4 a0 a5 n1a n1b) ?_
  intro v1 h1 hv1
  obtain ⟨r1, bb, hv1⟩ := hv1
  have lr := hv1.2.2
  rw [hv1.1, hv1.2.1]
  clear hv1 v1 h1
  refine E_br hE (fun hb1 => ?_) (fun hb1 => ?_)
  · have lr1 : LessR R d g at_.toNat r1 true := hb1 ▸ lr
    have l1 := lr1.len
    cbv
    refine E_nm hE (fun g' hg' => ?_)
    cbv
    refine E_callH hE (h_more d [0, 0] r1 Q at_ (E.bin .add .i64 (E.len x) 1) ld lr1.lb (by rw [l1]; exact a4) a0 (by rw [l1]; exact a5) n1a (by rw [l1]; exact n1b)) ?_
    intro v1 h1 hv1
    obtain ⟨r2, hv1⟩ := hv1
    have mr := hv1.2.2
    rw [hv1.1, hv1.2.1]
    clear hv1 v1 h1
    have dn := fun e => div_less inv ld d2 d0 a0 a1 eg lr1 mr (g' := g') e
    have l2 := mr.len.trans l1
    cbv
    repeat' (first
    | (refine E_br hE (fun h => ?_) (fun h => ?_) <;> cbv)
    | (refine E_nm hE (fun v hv => ?_); cbv)
    | (refine E_nilS hE (fun b hb => ?_); cbv)
    | fail)
    all_goals (try refine ⟨(E.bin .add .i64 i 1, r2, E.set Q at_ g'), ?_, ?_, stLe rfl ?_⟩)
    all_goals (try ((repeat' (first | exact t_nil | apply t_cons | exact u2_sli | exact u2_int | exact u2_bool | exact u2_ms | exact u2_ptr | exact (rfl : sle2 .s0 .s0))); done))
    all_goals (subst hE)
    · exact (next _ r2 g' rfl l2 (dn hg')).1
    · exact (next _ r2 g' rfl l2 (dn hg')).2
    all_goals (first | exact absurd a0 (leq_f h) | exact absurd aq (lss_f h))
  · have lr1 : LessR R d g at_.toNat r1 false := hb1 ▸ lr
    have dn := div_same inv ld d2 d0 a0 a1 eg lr1
    have l1 := lr1.len
    cbv
    repeat' (first
    | (refine E_br hE (fun h => ?_) (fun h => ?_) <;> cbv)
    | (refine E_nm hE (fun v hv => ?_); cbv)
    | (refine E_nilS hE (fun b hb => ?_); cbv)
    | fail)
    all_goals (try refine ⟨(E.bin .add .i64 i 1, r1, E.set Q at_ g), ?_, ?_, stLe rfl ?_⟩)
    all_goals (try ((repeat' (first | exact t_nil | apply t_cons | exact u2_sli | exact u2_int | exact u2_bool | exact u2_ms | exact u2_ptr | exact (rfl : sle2 .s0 .s0))); done))
    all_goals (subst hE)
    · exact (next _ r1 g rfl l1 dn).1
    · exact (next _ r1 g rfl l1 dn).2
    all_goals (first | exact absurd a0 (leq_f h) | exact absurd aq (lss_f h))
  all_goals trace_state

end Go.Proofs.Ytaiillbjhdoikaa.Ev

/- The greatest number whose square is not greater, by Newton's steps: sizes. -/
namespace Go.Proofs.Ytaiillbjhdoikaa.Ev
open Go

structure RootOK (a s0 s : Nat) : Prop where
  pos : 0 < s
  up : a < (s + 1) * (s + 1)
  le : s ≤ s0

theorem lim_len_two {s n M : Nat} (h1 : s ≤ 2 ^ n) (hn : n ≤ 32 * M) : (lim s).length ≤ M + 1 := by
  apply lim_length_le
  have h2 : 2 ^ n ≤ 2 ^ (32 * M) := Nat.pow_le_pow_right (by omega) hn
  have h3 : (2 : Nat) ^ (32 * M) < 2 ^ (32 * (M + 1)) := Nat.pow_lt_pow_right (by omega) (by omega)
  have h4 : (4294967296 : Nat) ^ (M + 1) = 2 ^ (32 * (M + 1)) := by rw [Nat.pow_mul]
  rw [h4]
  omega
theorem RootOK.len {a s0 s : Nat} {n : Nat} (h : RootOK a s0 s) (e : s0 = 2 ^ n) (hn : n ≤ 16777216) : (lim s).length ≤ 524289 :=
  lim_len_two (by rw [← e]; exact h.le) (by omega)

theorem lim_add_len {m n k : Nat} (hm : (lim m).length ≤ k) (hn : (lim n).length ≤ k) : (lim (m + n)).length ≤ k + 1 := by
  have h1 := lv_lt (lim_lb m)
  have h2 := lv_lt (lim_lb n)
  rw [lv_lim] at h1 h2
  have h3 : (4294967296 : Nat) ^ (lim m).length ≤ 4294967296 ^ k := Nat.pow_le_pow_right (by omega) hm
  have h4 : (4294967296 : Nat) ^ (lim n).length ≤ 4294967296 ^ k := Nat.pow_le_pow_right (by omega) hn
  apply lim_length_le
  rw [Nat.pow_succ]
  omega
theorem lim_mono {m n : Nat} (h : m ≤ n) : (lim m).length ≤ (lim n).length := by
  have h1 := lv_lt (lim_lb n)
  rw [lv_lim] at h1
  exact lim_length_le (by omega)
theorem RootOK.next {a s0 s : Nat} (ha : 0 < a) (h : RootOK a s0 s) (hlt : (s + a / s) / 2 < s) : RootOK a s0 ((s + a / s) / 2) :=
  ⟨newton_pos ha h.pos, newton_step h.pos, by have := h.le; omega⟩
theorem RootOK.stop {a s0 s : Nat} (h : RootOK a s0 s) (hlt : ¬ (s + a / s) / 2 < s) : nsqrt a = s :=
  nsqrt_eq (newton_stop h.pos (by omega)) h.up
end Go.Proofs.Ytaiillbjhdoikaa.Ev

/- Contracts: the root of limbs. Printed by gen.py. -/
namespace Go.Proofs.Ytaiillbjhdoikaa.Ev
open Go Go.Proofs
set_option linter.unusedVariables false
set_option linter.unusedSimpArgs false


attribute [local irreducible] Lb
end Go.Proofs.Ytaiillbjhdoikaa.Ev

/- Contracts: whole numbers as numbers, the quotient. Printed by gen.py out of C9.spec. -/
namespace Go.Proofs.Ytaiillbjhdoikaa.Ev
open Go Go.Proofs
set_option linter.unusedVariables false
set_option linter.unusedSimpArgs false

end Go.Proofs.Ytaiillbjhdoikaa.Ev

/- Contracts: words and limbs. Printed by gen.py. -/
namespace Go.Proofs.Ytaiillbjhdoikaa.Ev
open Go Go.Proofs
set_option linter.unusedVariables false
set_option linter.unusedSimpArgs false


attribute [local irreducible] Lb
theorem word_next {a : List Int} {i n : Int} (ha : Lb a) (hl : a.length ≤ 2) (h1 : 0 ≤ i) (h2 : i < a.length) (hn : n = lv (a.take i.toNat)) {i' x v j : Int} (ei : i' = i) (ex : x = a.getD i.toNat 0)
    (ev : v = intBinR .or .u64 n (intBinR .shl .u64 (IntKind.u64.wrap x) (intBinR .mul .i64 32 i'))) (ej : j = intBinR .add .i64 i 1) :
    0 ≤ j ∧ j ≤ a.length ∧ ((a.length : Int) - j).toNat < ((a.length : Int) - i).toNat ∧ v = lv (a.take j.toNat) := by
  subst ei
  have hx := ha.getD i'.toNat
  have ej' : j = i' + 1 := by rw [ej]; show IntKind.i64.wrap (i' + 1) = _; rw [wi64_id (by omega) (by omega)]
  refine ⟨by omega, by omega, by omega, ?_⟩
  rw [ej', show (i' + 1).toNat = i'.toNat + 1 by omega, lv_take_succ (by omega), ← ex]
  rw [← ex] at hx
  rw [wu64_id hx.1 (by omega)] at ev
  rcases (show i' = 0 ∨ i' = 1 by omega) with rfl | rfl
  · have e0 : n = 0 := by rw [hn]; rfl
    have e1 : intBinR .shl .u64 x (intBinR .mul .i64 32 0) = x := by
      show IntKind.u64.wrap (x * 2 ^ min (IntKind.i64.wrap (32 * 0)).toNat IntKind.u64.bits) = _
      rw [show min (IntKind.i64.wrap (32 * 0)).toNat IntKind.u64.bits = 0 by decide, wu64]
      simp only [Int.pow_zero, Int.mul_one]
      omega
    rw [e1, e0] at ev
    have e2 : intBinR .or .u64 0 x = 0 + 2 ^ 0 * x := by
      have := or64 (l := x) (m := 0) hx.1 hx.2 (by omega) (by omega)
      show IntKind.u64.wrap ((BitVec.ofInt 64 0 ||| BitVec.ofInt 64 x).toNat : Int) = _
      rw [BitVec.or_comm]
      simp only [Int.zero_mul] at this
      rw [this]; omega
    rw [ev, e2, show (Int.toNat 0) = 0 by rfl, List.take_zero]
    simp only [lv, Nat.pow_zero]
    omega
  · have hn0 : 0 ≤ n ∧ n < 4294967296 := by
      have := lv_take_lt ha 1 (by omega)
      rw [show (1 : Int).toNat = 1 by rfl] at hn
      omega
    have e1 : intBinR .shl .u64 x (intBinR .mul .i64 32 1) = x * 4294967296 := by
      show IntKind.u64.wrap (x * 2 ^ min (IntKind.i64.wrap (32 * 1)).toNat IntKind.u64.bits) = _
      rw [show min (IntKind.i64.wrap (32 * 1)).toNat IntKind.u64.bits = 32 by decide, wu64]
      have : (2 : Int) ^ 32 = 4294967296 := by decide
      rw [this]; omega
    rw [e1] at ev
    have e2 : intBinR .or .u64 n (x * 4294967296) = n + x * 4294967296 := or64 hn0.1 hn0.2 hx.1 hx.2
    rw [ev, e2, show (Int.toNat 1) = 1 by rfl]
    rw [show (1 : Int).toNat = 1 by rfl] at hn
    rw [hn]
    omega

def wordS (E : Env) (a : List Int) : Int × Int → St := fun p => ⟨[(3, .int .u64 (.s p.2)), (6, .sli .u32 a), (7, .int .i64 (.s (E.len a))), (8, .int .i64 (.s p.1))], []⟩
theorem c_word (a : List Int) (ha : Lb a) (hl : a.length ≤ 2) : ∃ t : Int, t = lv a ∧ CallsA Try.prog 59 [.sli .u32 a] (.int .u64 (.s t)) := by
  refine ⟨_, rfl, ?_⟩
  generalize hr : (lv a : Int) = r
  obtain ⟨m, em⟩ : ∃ m : Int × Int → Nat, ∀ p, m p = (a.length - p.1).toNat := ⟨_, fun _ => rfl⟩
  obtain ⟨ok, eok⟩ : ∃ ok : Int × Int → Prop, ∀ p, ok p ↔ 0 ≤ p.1 ∧ p.1 ≤ a.length ∧ p.2 = lv (a.take p.1.toNat) := ⟨_, fun _ => Iff.rfl⟩
  refine callsA_of hG hm Try.func59 (by kernel_rfl) ?_
  intro E hE lp hl'
  cbv
  repeat' (first
    | (refine E_br hE (fun h => ?_) (fun h => ?_) <;> cbv)
    | (refine E_nm hE (fun v hv => ?_); cbv)
    | (refine E_nilS hE (fun b hb => ?_); cbv)
    | fail)
  refine E_loop hE hG hm hl' (wordS E a) m ok ⟨(0, 0), (eok _).2 ⟨by show (0 : Int) ≤ 0; omega, by show (0 : Int) ≤ a.length; omega, rfl⟩, stLe rfl ?_⟩ ?_
  · (repeat' (first | exact t_nil | apply t_cons | exact u2_sli | exact u2_int | exact u2_bool | exact u2_ms | exact u2_ptr | exact (rfl : sle2 .s0 .s0)))
  rintro ⟨i, n⟩ hok
  have h1 : 0 ≤ i := ((eok _).1 hok).1
  have h2 : i ≤ a.length := ((eok _).1 hok).2.1
  have hn : n = lv (a.take i.toNat) := ((eok _).1 hok).2.2
  have fin : ¬ i < a.length → n = r := by
    intro h
    rw [hn, show i.toNat = a.length by omega, List.take_length]; exact hr
  clear hok
  cbv
  repeat' (first
    | (refine E_br hE (fun h => ?_) (fun h => ?_) <;> cbv)
    | (refine E_nm hE (fun v hv => ?_); cbv)
    | (refine E_nilS hE (fun b hb => ?_); cbv)
    | fail)
  all_goals (try refine ⟨(E.bin .add .i64 i 1, v), ?_, ?_, stLe rfl ?_⟩)
  all_goals (try ((repeat' (first | exact t_nil | apply t_cons | exact u2_sli | exact u2_int | exact u2_bool | exact u2_ms | exact u2_ptr | exact (rfl : sle2 .s0 .s0))); done))
  all_goals (subst hE)
  all_goals (try (first
    | (rw [em, em]; exact (word_next ha hl h1 (lss_t ‹_›) hn ‹_ = i› ‹_› ‹_› rfl).2.2.1)
    | (rw [eok]; have q := word_next ha hl h1 (lss_t ‹_›) hn ‹_ = i› ‹_› ‹_› rfl; exact ⟨q.1, q.2.1, q.2.2.2⟩)
    | exact fin (lss_f ‹_›)
    | exact ‹_ = n›.trans (fin (lss_f ‹_›))))
  all_goals (clear fin eok em hn; simp only [NatCast.natCast, Int.ofNat_eq_natCast, realE, cmp_eql, cmp_neq, cmp_lss, cmp_leq, cmp_gtr, cmp_geq, intBinR, decide_eq_true_eq, decide_eq_false_iff_not, SI.val, SB.val, Num.eta, Iv.eta] at *; (try simp only [wi64] at *); omega)

theorem limbs_lb {m : Int} (h0 : 0 ≤ m) (h1 : m < 18446744073709551616) : Lb [m % 4294967296, m / 4294967296] :=
  Lb.cons (by omega) (by omega) (Lb.cons (by omega) (by omega) Lb.nil)
theorem limbs_lv {m : Int} (h0 : 0 ≤ m) : lv [m % 4294967296, m / 4294967296] = m.toNat := by
  simp only [lv]; omega

/-- the root of a finite number -/
def Num.rootF (a : Num) (up : Bool) : Num :=
  if a.e % 2 = 0 then Num.grow false (nsqrt (a.m.toNat * 2 ^ 64)) ((a.e - 64) / 2) (!decide (nsqrt (a.m.toNat * 2 ^ 64) * nsqrt (a.m.toNat * 2 ^ 64) = a.m.toNat * 2 ^ 64)) up
  else Num.grow false (nsqrt (a.m.toNat * 2 ^ 63)) ((a.e - 63) / 2) (!decide (nsqrt (a.m.toNat * 2 ^ 63) * nsqrt (a.m.toNat * 2 ^ 63) = a.m.toNat * 2 ^ 63)) up
def Num.root (a : Num) (up : Bool) : Num × Bool :=
  if a.fair.kind ≠ 0 ∧ a.fair.neg = true then (Num.zero, false) else if a.fair.kind ≠ 1 then (a.fair, true) else (Num.rootF a.fair up, true)

end Go.Proofs.Ytaiillbjhdoikaa.Ev

/- Contracts: whole numbers of 64 bits, of what sign; ten, so many times. Printed by gen.py. -/
namespace Go.Proofs.Ytaiillbjhdoikaa.Ev
open Go Go.Proofs
set_option linter.unusedVariables false
set_option linter.unusedSimpArgs false

attribute [local irreducible] Lb
theorem c_wFrom (n : Int) (h1 : -9223372036854775808 ≤ n) (h2 : n < 9223372036854775808) : ∃ t : Bool × List Int, t = (decide (n < 0), lim n.natAbs) ∧ CallsA Try.prog 15 [.int .i64 (.s n)] (.agg [.bool (.s t.1), .sli .u32 t.2]) := by
  refine ⟨_, rfl, ?_⟩
  generalize hr : ((decide (n < 0), lim n.natAbs) : Bool × List Int) = r
  have lb := limbs_lb (m := (n.natAbs : Int)) (by omega) (by omega)
  obtain ⟨m, em⟩ : ∃ m, m = [(n.natAbs : Int) % 4294967296, (n.natAbs : Int) / 4294967296] := ⟨_, rfl⟩
  rw [← em] at lb
  have ll : m.length ≤ 268435456 := by rw [em]; show (2 : Nat) ≤ _; decide
  have fin : ∀ (c : Bool) (l : List Int) (t : Bool × List Int), c = decide (n < 0) → l = m → t = (c && decide (lv l ≠ 0), lim (lv l)) → t = r := by
    intro c l t hc hl ht
    rw [ht, hl, em, limbs_lv (by omega), ← hr, hc, show ((n.natAbs : Nat) : Int).toNat = n.natAbs from rfl]
    by_cases h : n < 0
    · rw [decide_eq_true (p := n.natAbs ≠ 0) (by omega), Bool.and_true]
    · rw [decide_eq_false h, Bool.false_and]
  have wn : ∀ x : Int, x = (n.natAbs : Int) → [IntKind.u32.wrap x, IntKind.u32.wrap (intBinR .shr .u64 x 32)] = m := by
    intro x hx
    have e1 : intBinR .shr .u64 x 32 = x / 4294967296 := shr32 x
    rw [em, e1, hx, wu32, wu32, Int.emod_eq_of_lt (a := (n.natAbs : Int) / 4294967296) (by omega) (by omega)]
  clear hr em
  refine callsA_of hG hm Try.func15 (by kernel_rfl) ?_
  intro E hE lp hl'
  cbv
  refine E_nm hE (fun u hu => ?_); cbv
  refine E_br hE (fun g => ?_) (fun g => ?_) <;> cbv
  · have hn : n < 0 := by subst hE; exact lss_t g
    refine E_nm hE (fun v hv => ?_); cbv
    have k : E.sub [E.conv .u32 v, E.conv .u32 (E.bin .shr .u64 v 32)] 0 2 = m := by
      subst hE
      exact wn v (by have a : u = IntKind.u64.wrap n := hu; have b : v = IntKind.u64.wrap (0 - u) := hv; have c : (n.natAbs : Int) = -n := Int.ofNat_natAbs_of_nonpos (by omega); simp only [wu64] at a b; exact (show v = -n by omega).trans c.symm)
    (first | (apply E_pcallX hE (c_wMake _ _ ?_ ?_); (case hm => rfl); (case hle => (repeat' (first | exact u_nil | apply u_cons | apply u2_agg | exact u2_int | exact u1_int | exact u2_bool | exact u1_bool | exact u2_sli | exact u1_sli | exact u2_s0 | exact u1_s0))); all_goals (first | (intro t ht; cbv) | (first | exact k ▸ lb | exact k ▸ ll))) | (apply E_callX hE (c_wMake _ _ ?_ ?_); (case hf => rfl); (case hc => (cbv <;> trivial)); (case hle => (repeat' (first | exact u_nil | apply u_cons | apply u2_agg | exact u2_int | exact u1_int | exact u2_bool | exact u1_bool | exact u2_sli | exact u1_sli | exact u2_s0 | exact u1_s0))); all_goals (first | (intro t ht; cbv) | (first | exact k ▸ lb | exact k ▸ ll))))
    rw [← fin _ _ t (by subst hE; rfl) k ht]; exact ⟨rfl, rfl, trivial⟩
  · have hn : ¬ n < 0 := by subst hE; exact lss_f g
    have k : E.sub [E.conv .u32 u, E.conv .u32 (E.bin .shr .u64 u 32)] 0 2 = m := by
      subst hE
      exact wn u (by have a : u = IntKind.u64.wrap n := hu; have c : (n.natAbs : Int) = n := Int.natAbs_of_nonneg (by omega); simp only [wu64] at a; exact (show u = n by omega).trans c.symm)
    (first | (apply E_pcallX hE (c_wMake _ _ ?_ ?_); (case hm => rfl); (case hle => (repeat' (first | exact u_nil | apply u_cons | apply u2_agg | exact u2_int | exact u1_int | exact u2_bool | exact u1_bool | exact u2_sli | exact u1_sli | exact u2_s0 | exact u1_s0))); all_goals (first | (intro t ht; cbv) | (first | exact k ▸ lb | exact k ▸ ll))) | (apply E_callX hE (c_wMake _ _ ?_ ?_); (case hf => rfl); (case hc => (cbv <;> trivial)); (case hle => (repeat' (first | exact u_nil | apply u_cons | apply u2_agg | exact u2_int | exact u1_int | exact u2_bool | exact u1_bool | exact u2_sli | exact u1_sli | exact u2_s0 | exact u1_s0))); all_goals (first | (intro t ht; cbv) | (first | exact k ▸ lb | exact k ▸ ll))))
    rw [← fin _ _ t (by subst hE; rfl) k ht]; exact ⟨rfl, rfl, trivial⟩

theorem c_wSign (na : Bool) (a : List Int) (ha : Lb a) (hla : a.length < 67108864) : ∃ t : Int, t = (if lv a = 0 then 0 else if na then -1 else 1) ∧ CallsA Try.prog 16 [.agg [.bool (.s na), .sli .u32 a]] (.int .i64 (.s t)) := by
  refine ⟨_, rfl, ?_⟩
  generalize hr : (if lv a = 0 then 0 else if na then -1 else 1 : Int) = r
  have z : lv a = 0 → 0 = r := fun h => by rw [← hr, if_pos h]
  have o : lv a ≠ 0 → na = true → -1 = r := fun h k => by rw [← hr, if_neg h, if_pos k]
  have p : lv a ≠ 0 → na = false → 1 = r := fun h k => by rw [← hr, if_neg h, k]; rfl
  have bz : blen (lv a : Int) = 0 ↔ lv a = 0 := by
    constructor
    · intro h
      rcases Nat.eq_zero_or_pos (lv a) with k | k
      · exact k
      · obtain ⟨n, hn, _⟩ := blen_pos (x := (lv a : Int)) (by omega); omega
    · intro h; rw [h]; rfl
  clear hr
  refine callsA_of hG hm Try.func16 (by kernel_rfl) ?_
  intro E hE lp hl'
  cbv
  (first | (apply E_pcallX hE (c_natLen a ha hla); (case hm => rfl); (case hle => (repeat' (first | exact u_nil | apply u_cons | apply u2_agg | exact u2_int | exact u1_int | exact u2_bool | exact u1_bool | exact u2_sli | exact u1_sli | exact u2_s0 | exact u1_s0))); all_goals (first | (intro t ht; cbv) | (assumption))) | (apply E_callX hE (c_natLen a ha hla); (case hf => rfl); (case hc => (cbv <;> trivial)); (case hle => (repeat' (first | exact u_nil | apply u_cons | apply u2_agg | exact u2_int | exact u1_int | exact u2_bool | exact u1_bool | exact u2_sli | exact u1_sli | exact u2_s0 | exact u1_s0))); all_goals (first | (intro t ht; cbv) | (assumption))))
  have ht : t = blen (lv a : Int) := ht
  refine E_br hE (fun g => ?_) (fun g => ?_) <;> cbv
  · rw [← z (bz.1 (ht ▸ (by subst hE; exact eql_t g)))]
  have nz : lv a ≠ 0 := fun h => (show ¬ t = 0 by subst hE; exact eql_f g) (ht.trans (bz.2 h))
  refine E_br hE (fun g => ?_) (fun g => ?_) <;> cbv
  · rw [← o nz g]
  · rw [← p nz g]

end Go.Proofs.Ytaiillbjhdoikaa.Ev

/- Contracts: what is left of limbs. Printed by gen.py. -/
namespace Go.Proofs.Ytaiillbjhdoikaa.Ev
open Go Go.Proofs
set_option linter.unusedVariables false
set_option linter.unusedSimpArgs false


attribute [local irreducible] Lb
def subI (E : Env) (x y : List Int) : Int × Int × List Int → St := fun p => ⟨[(0, .sli .u32 x), (1, .sli .u32 y), (6, .ms 0 1 (.l 0) (.s (E.len x))), (7, .int .u32 (.s p.2.1)), (22, .int .i64 (.s (E.len x))), (23, .int .i64 (.s p.1))], [.ints true .u32 p.2.2]⟩
theorem c_natSub (a b : List Int) (ha : Lb a) (hb : Lb b) (hla : a.length < 134217728) (hlb : b.length < 134217728) : ∃ t : List Int × Bool, t = (if lv a < lv b then ([], false) else (lim (lv a - lv b), true)) ∧ CallsA Try.prog 45 [.sli .u32 a, .sli .u32 b] (.tup [.sli .u32 t.1, .bool (.s t.2)]) := by
  refine ⟨_, rfl, ?_⟩
  generalize hr : (if lv a < lv b then ([], false) else (lim (lv a - lv b), true) : List Int × Bool) = r
  have hlx := lim_length_le' ha
  have hly := lim_length_le' hb
  have hx := lim_lb (lv a)
  have hy := lim_lb (lv b)
  have vx := lv_lim (lv a)
  have vy := lv_lim (lv b)
  have hlen : lv b ≤ lv a → (lim (lv b)).length ≤ (lim (lv a)).length := lim_mono
  obtain ⟨x, ex⟩ : ∃ x, lim (lv a) = x := ⟨_, rfl⟩
  obtain ⟨y, ey⟩ : ∃ y, lim (lv b) = y := ⟨_, rfl⟩
  rw [ex] at hlx hx vx hlen
  rw [ey] at hly hy vy hlen
  rw [← vx, ← vy] at hr hlen
  have lx : x.length < 134217728 := by omega
  have ly : y.length < 134217728 := by omega
  have cx : x.length ≤ 268435456 := by omega
  have cy : y.length ≤ 268435456 := by omega
  have ca : a.length < 9223372036854775808 := by omega
  have cb : b.length < 9223372036854775808 := by omega
  refine callsA_of hG hm Try.func45 (by kernel_rfl) ?_
  intro E hE lp hl
  cbv
  (first | (apply E_pcallX hE (c_cut a ha ca); (case hm => rfl); (case hle => (repeat' (first | exact u_nil | apply u_cons | apply u2_agg | exact u2_int | exact u1_int | exact u2_bool | exact u1_bool | exact u2_sli | exact u1_sli | exact u2_s0 | exact u1_s0))); all_goals (first | (intro x' hx'; cbv) | (assumption))) | (apply E_callX hE (c_cut a ha ca); (case hf => rfl); (case hc => (cbv <;> trivial)); (case hle => (repeat' (first | exact u_nil | apply u_cons | apply u2_agg | exact u2_int | exact u1_int | exact u2_bool | exact u1_bool | exact u2_sli | exact u1_sli | exact u2_s0 | exact u1_s0))); all_goals (first | (intro x' hx'; cbv) | (assumption))))
  have hx2 : x' = x := Eq.trans hx' ex
  rw [hx2]
  clear hx' hx2
  (first | (apply E_pcallX hE (c_cut b hb cb); (case hm => rfl); (case hle => (repeat' (first | exact u_nil | apply u_cons | apply u2_agg | exact u2_int | exact u1_int | exact u2_bool | exact u1_bool | exact u2_sli | exact u1_sli | exact u2_s0 | exact u1_s0))); all_goals (first | (intro y' hy'; cbv) | (assumption))) | (apply E_callX hE (c_cut b hb cb); (case hf => rfl); (case hc => (cbv <;> trivial)); (case hle => (repeat' (first | exact u_nil | apply u_cons | apply u2_agg | exact u2_int | exact u1_int | exact u2_bool | exact u1_bool | exact u2_sli | exact u1_sli | exact u2_s0 | exact u1_s0))); all_goals (first | (intro y' hy'; cbv) | (assumption))))
  have hy2 : y' = y := Eq.trans hy' ey
  rw [hy2]
  clear hy' hy2
  (first | (apply E_pcallX hE (c_natCmp x y hx hy cx cy); (case hm => rfl); (case hle => (repeat' (first | exact u_nil | apply u_cons | apply u2_agg | exact u2_int | exact u1_int | exact u2_bool | exact u1_bool | exact u2_sli | exact u1_sli | exact u2_s0 | exact u1_s0))); all_goals (first | (intro q hq; cbv) | (assumption))) | (apply E_callX hE (c_natCmp x y hx hy cx cy); (case hf => rfl); (case hc => (cbv <;> trivial)); (case hle => (repeat' (first | exact u_nil | apply u_cons | apply u2_agg | exact u2_int | exact u1_int | exact u2_bool | exact u1_bool | exact u2_sli | exact u1_sli | exact u2_s0 | exact u1_s0))); all_goals (first | (intro q hq; cbv) | (assumption))))
  have hq : q = (if lv x < lv y then -1 else if lv y < lv x then 1 else 0 : Int) := hq
  refine E_br hE (fun g => ?_) (fun g => ?_)
  · have g : q < 0 := by subst hE; exact lss_t g
    have k : lv x < lv y := by
      by_cases k : lv x < lv y
      · exact k
      · rw [hq, if_neg k] at g; split at g <;> omega
    rw [if_pos k] at hr
    cbv
    rw [← hr]
    exact ⟨rfl, rfl, trivial⟩
  have hle : lv y ≤ lv x := by
    have g : ¬ q < 0 := by subst hE; exact lss_f g
    by_cases k : lv x < lv y
    · rw [hq, if_pos k] at g; exact absurd (by decide) g
    · omega
  rw [if_neg (by omega)] at hr
  have hxy := hlen hle
  clear hq g hlen
  cbv
  repeat' (first
    | (refine E_br hE (fun h => ?_) (fun h => ?_) <;> cbv)
    | (refine E_nm hE (fun v hv => ?_); cbv)
    | (refine E_nilS hE (fun b hb => ?_); cbv)
    | fail)
  all_goals (try (exfalso; subst hE; simp only [NatCast.natCast, Int.ofNat_eq_natCast, realE, cmp_eql, cmp_neq, cmp_lss, cmp_leq, cmp_gtr, cmp_geq, intBinR, decide_eq_true_eq, decide_eq_false_iff_not, SI.val, SB.val, Num.eta, Iv.eta] at *; omega))
  obtain ⟨m, em⟩ : ∃ m : Int × Int × List Int → Nat, ∀ p, m p = (x.length - p.1).toNat := ⟨_, fun _ => rfl⟩
  obtain ⟨ok, eok⟩ : ∃ ok : Int × Int × List Int → Prop, ∀ p, ok p ↔ 0 ≤ p.1 ∧ p.1 ≤ x.length ∧ SubInv x y p.2.2 p.1.toNat p.2.1 := ⟨_, fun _ => Iff.rfl⟩
  refine E_loop hE hG hm hl (subI E x y) m ok ⟨(0, 0, E.rep (E.len x)), (eok _).2 ?_, stLe rfl ?_⟩ ?_
  · refine ⟨by show (0 : Int) ≤ 0; omega, by show (0 : Int) ≤ x.length; omega, ?_⟩
    have := SubInv.start x y
    subst hE; simp only [NatCast.natCast, Int.ofNat_eq_natCast, realE, cmp_eql, cmp_neq, cmp_lss, cmp_leq, cmp_gtr, cmp_geq, intBinR, decide_eq_true_eq, decide_eq_false_iff_not, SI.val, SB.val, Num.eta, Iv.eta] at *
    exact this
  · (repeat' (first | exact t_nil | apply t_cons | exact u2_sli | exact u2_int | exact u2_bool | exact u2_ms | exact u2_ptr | exact (rfl : sle2 .s0 .s0)))
  rintro ⟨i, c, out⟩ hok
  obtain ⟨h1, h2, inv⟩ := (eok _).1 hok
  dsimp only at h1 h2 inv
  have hgx := hx.getD i.toNat
  have hgy := hy.getD i.toNat
  have hc0 := inv.c0
  have hc1 := inv.c1
  have hol := inv.len
  have next : ∀ (j k c' z : Int) (v : Int × Int), i < x.length → k = i → j = IntKind.i64.wrap (i + 1) → (z = y.getD k.toNat 0 ∨ (¬ k < y.length ∧ z = 0)) →
      v = ((x.getD k.toNat 0 - z - c) % 4294967296, (if x.getD k.toNat 0 < z + c then 1 else 0 : Int)) → c' = v.2 →
      m (j, c', out.set k.toNat v.1) < m (i, c, out) ∧ ok (j, c', out.set k.toNat v.1) := by
    intro j k c' z v h hk hj hz hv hc
    subst hk
    have hz : z = y.getD k.toNat 0 := by
      rcases hz with hz | ⟨hz, h0⟩
      · exact hz
      · rw [h0, getD_past (by omega)]
    have hj : j = k + 1 := by rw [hj, wi64_id (by omega) (by omega)]
    refine ⟨by rw [em, em]; show ((x.length : Int) - j).toNat < ((x.length : Int) - k).toNat; omega, (eok _).2 ⟨by show 0 ≤ j; omega, by show j ≤ (x.length : Int); omega, ?_⟩⟩
    have := inv.step hx hy (by omega)
    rw [← hz] at this
    rw [hc, hv, hj]
    show SubInv x y (out.set k.toNat ((x.getD k.toNat 0 - z - c) % 4294967296)) (k + 1).toNat (if x.getD k.toNat 0 < z + c then 1 else 0)
    rw [show (k + 1).toNat = k.toNat + 1 by omega]
    exact this
  have fin : ¬ i < x.length → Lb out ∧ (lim (lv out), true) = r := by
    intro h
    rw [show i.toNat = x.length by omega] at inv
    exact ⟨inv.lb, by rw [inv.stop hx hle hxy]; exact hr⟩
  clear inv hok hr
  cbv
  repeat' (first
    | (refine E_br hE (fun h => ?_) (fun h => ?_) <;> cbv)
    | (refine E_nm hE (fun v hv => ?_); cbv)
    | (refine E_nilS hE (fun b hb => ?_); cbv)
    | (apply E_callX hE (c_Sub32 _ _ _ ?_ ?_ ?_ ?_ ?_ ?_); (case hf => rfl); (case hc => (cbv <;> trivial)); (case hle => (repeat' (first | exact u_nil | apply u_cons | apply u2_agg | exact u2_int | exact u1_int | exact u2_bool | exact u1_bool | exact u2_sli | exact u1_sli | exact u2_s0 | exact u1_s0))); all_goals (first | (intro t ht; cbv) | (subst hE; (try simp only [NatCast.natCast, Int.ofNat_eq_natCast, realE, cmp_eql, cmp_neq, cmp_lss, cmp_leq, cmp_gtr, cmp_geq, intBinR, decide_eq_true_eq, decide_eq_false_iff_not, SI.val, SB.val, Num.eta, Iv.eta] at *); subst_vars; (first | assumption | omega))))
    | (apply E_callX hE (c_cut _ ?_ ?_); (case hf => rfl); (case hc => (cbv <;> trivial)); (case hle => (repeat' (first | exact u_nil | apply u_cons | apply u2_agg | exact u2_int | exact u1_int | exact u2_bool | exact u1_bool | exact u2_sli | exact u1_sli | exact u2_s0 | exact u1_s0))); all_goals (first | (intro t ht; cbv) | ((subst hE; simp only [NatCast.natCast, Int.ofNat_eq_natCast, realE, cmp_eql, cmp_neq, cmp_lss, cmp_leq, cmp_gtr, cmp_geq, intBinR, decide_eq_true_eq, decide_eq_false_iff_not, SI.val, SB.val, Num.eta, Iv.eta] at *; rw [sub_all (by omega)]; first | exact (fin ‹_›).1 | omega))))
    | fail)
  all_goals (try refine ⟨(E.bin .add .i64 i 1, v, E.set out _ t.1), ?_, ?_, stLe rfl ?_⟩)
  all_goals (try ((repeat' (first | exact t_nil | apply t_cons | exact u2_sli | exact u2_int | exact u2_bool | exact u2_ms | exact u2_ptr | exact (rfl : sle2 .s0 .s0))); done))
  all_goals (subst hE; simp only [NatCast.natCast, Int.ofNat_eq_natCast, realE, cmp_eql, cmp_neq, cmp_lss, cmp_leq, cmp_gtr, cmp_geq, intBinR, decide_eq_true_eq, decide_eq_false_iff_not, SI.val, SB.val, Num.eta, Iv.eta] at *)
  all_goals (first | exact (next _ _ _ _ _ ‹_› ‹_› rfl (by first | exact .inl ‹_› | exact .inr ⟨‹_›, rfl⟩) ‹t = _› ‹_›).1 | exact (next _ _ _ _ _ ‹_› ‹_› rfl (by first | exact .inl ‹_› | exact .inr ⟨‹_›, rfl⟩) ‹t = _› ‹_›).2 | (exfalso; clear next fin; omega) | skip)
  have k := fin ‹_›
  rw [← k.2]
  refine ⟨?_, rfl, trivial⟩
  rw [‹t = _›, sub_all (by omega)]

end Go.Proofs.Ytaiillbjhdoikaa.Ev

/- Contracts: whole numbers, by their values. Printed by gen.py. -/
namespace Go.Proofs.Ytaiillbjhdoikaa.Ev
open Go Go.Proofs
set_option linter.unusedVariables false
set_option linter.unusedSimpArgs false

attribute [local irreducible] Lb
/-- the value of a whole number -/
def wv (na : Bool) (a : List Int) : Int := if na then -(lv a : Int) else lv a
/-- a whole number, as it may be -/
def whN (z : Int) : Bool × List Int := (decide (z < 0), lim z.natAbs)
theorem whN_of (na : Bool) (n : Nat) : (na && decide (n ≠ 0), lim n) = whN (if na then -(n : Int) else n) := by
  unfold whN
  cases na
  · simp only [Bool.false_and, Bool.false_eq_true, if_false]
    rw [decide_eq_false (by omega), Int.natAbs_natCast]
  · simp only [Bool.true_and, if_true]
    rw [Int.natAbs_neg, Int.natAbs_natCast]
    congr 1
    apply decide_eq_decide.2; omega
theorem wv_whN (z : Int) : wv (whN z).1 (whN z).2 = z := by
  unfold wv whN
  simp only [lv_lim, decide_eq_true_eq]
  split <;> omega
theorem whN_lb (z : Int) : Lb (whN z).2 := lim_lb _
theorem whN_len {z : Int} {k : Nat} (h : z.natAbs < 4294967296 ^ k) : (whN z).2.length ≤ k := lim_length_le h
theorem c_wAdd (na : Bool) (a : List Int) (nb : Bool) (b : List Int) (ha : Lb a) (hb : Lb b) (hla : a.length < 134217728) (hlb : b.length < 134217728) :
    ∃ t : Bool × List Int, t = whN (wv na a + wv nb b) ∧ CallsA Try.prog 18 [.agg [.bool (.s na), .sli .u32 a], .agg [.bool (.s nb), .sli .u32 b]] (.agg [.bool (.s t.1), .sli .u32 t.2]) := by
  refine ⟨_, rfl, ?_⟩
  generalize hr : whN (wv na a + wv nb b) = r
  have la : a.length < 268435456 := by omega
  have lb : b.length < 268435456 := by omega
  have one : na = nb → (na && decide (lv a + lv b ≠ 0), lim (lv a + lv b)) = r := by
    intro e; subst e
    rw [← hr, whN_of]; unfold wv; congr 1; cases na <;> simp; omega
  have two : na ≠ nb → ¬ lv a < lv b → (na && decide (lv a - lv b ≠ 0), lim (lv a - lv b)) = r := by
    intro e h
    rw [← hr, whN_of]; unfold wv; congr 1; cases na <;> cases nb <;> simp at e ⊢ <;> omega
  have three : na ≠ nb → lv a < lv b → (nb && decide (lv b - lv a ≠ 0), lim (lv b - lv a)) = r := by
    intro e h
    rw [← hr, whN_of]; unfold wv; congr 1; cases na <;> cases nb <;> simp at e ⊢ <;> omega
  have lim1 : (lim (lv a + lv b)).length ≤ 268435456 := by have h := lim_add_len (m := lv a) (n := lv b) (k := 134217728) (by have := lim_length_le' ha; omega) (by have := lim_length_le' hb; omega); omega
  have lim2 : (lim (lv a - lv b)).length ≤ 268435456 := by have := lim_mono (Nat.sub_le (lv a) (lv b)); have := lim_length_le' ha; omega
  have lim3 : (lim (lv b - lv a)).length ≤ 268435456 := by have := lim_mono (Nat.sub_le (lv b) (lv a)); have := lim_length_le' hb; omega
  clear hr
  refine callsA_of hG hm Try.func18 (by kernel_rfl) ?_
  intro E hE lp hl'
  cbv
  refine E_br hE (fun g => ?_) (fun g => ?_) <;> cbv
  · have g : na = nb := by subst hE; exact eq_of_beq g
    (first | (apply E_pcallX hE (c_natAdd a b ha hb la lb); (case hm => rfl); (case hle => (repeat' (first | exact u_nil | apply u_cons | apply u2_agg | exact u2_int | exact u1_int | exact u2_bool | exact u1_bool | exact u2_sli | exact u1_sli | exact u2_s0 | exact u1_s0))); all_goals (first | (intro u hu; cbv) | (assumption))) | (apply E_callX hE (c_natAdd a b ha hb la lb); (case hf => rfl); (case hc => (cbv <;> trivial)); (case hle => (repeat' (first | exact u_nil | apply u_cons | apply u2_agg | exact u2_int | exact u1_int | exact u2_bool | exact u1_bool | exact u2_sli | exact u1_sli | exact u2_s0 | exact u1_s0))); all_goals (first | (intro u hu; cbv) | (assumption))))
    have hu : u = lim (lv a + lv b) := hu
    have ub : Lb u := by rw [hu]; exact lim_lb _
    have ul : u.length ≤ 268435456 := by rw [hu]; exact lim1
    (first | (apply E_pcallX hE (c_wMake na u ub ul); (case hm => rfl); (case hle => (repeat' (first | exact u_nil | apply u_cons | apply u2_agg | exact u2_int | exact u1_int | exact u2_bool | exact u1_bool | exact u2_sli | exact u1_sli | exact u2_s0 | exact u1_s0))); all_goals (first | (intro t ht; cbv) | (assumption))) | (apply E_callX hE (c_wMake na u ub ul); (case hf => rfl); (case hc => (cbv <;> trivial)); (case hle => (repeat' (first | exact u_nil | apply u_cons | apply u2_agg | exact u2_int | exact u1_int | exact u2_bool | exact u1_bool | exact u2_sli | exact u1_sli | exact u2_s0 | exact u1_s0))); all_goals (first | (intro t ht; cbv) | (assumption))))
    have k : t = r := by
      have k : t = (na && decide (lv u ≠ 0), lim (lv u)) := ht
      rw [k, hu, lv_lim]; exact one g
    rw [← k]; exact ⟨rfl, rfl, trivial⟩
  · have g : na ≠ nb := by subst hE; intro e; rw [e] at g; exact absurd ((beq_self_eq_true nb).symm.trans g) (by decide)
    (first | (apply E_pcallX hE (c_natSub a b ha hb hla hlb); (case hm => rfl); (case hle => (repeat' (first | exact u_nil | apply u_cons | apply u2_agg | exact u2_int | exact u1_int | exact u2_bool | exact u1_bool | exact u2_sli | exact u1_sli | exact u2_s0 | exact u1_s0))); all_goals (first | (intro u hu; cbv) | (assumption))) | (apply E_callX hE (c_natSub a b ha hb hla hlb); (case hf => rfl); (case hc => (cbv <;> trivial)); (case hle => (repeat' (first | exact u_nil | apply u_cons | apply u2_agg | exact u2_int | exact u1_int | exact u2_bool | exact u1_bool | exact u2_sli | exact u1_sli | exact u2_s0 | exact u1_s0))); all_goals (first | (intro u hu; cbv) | (assumption))))
    have hu : u = (if lv a < lv b then ([], false) else (lim (lv a - lv b), true)) := hu
    refine E_br hE (fun q => ?_) (fun q => ?_) <;> cbv
    · have n : ¬ lv a < lv b := by intro h; rw [hu, if_pos h] at q; cases q
      have u1 : u.1 = lim (lv a - lv b) := by rw [hu, if_neg n]
      have ub : Lb u.1 := by rw [u1]; exact lim_lb _
      have ul : u.1.length ≤ 268435456 := by rw [u1]; exact lim2
      (first | (apply E_pcallX hE (c_wMake na u.1 ub ul); (case hm => rfl); (case hle => (repeat' (first | exact u_nil | apply u_cons | apply u2_agg | exact u2_int | exact u1_int | exact u2_bool | exact u1_bool | exact u2_sli | exact u1_sli | exact u2_s0 | exact u1_s0))); all_goals (first | (intro t ht; cbv) | (assumption))) | (apply E_callX hE (c_wMake na u.1 ub ul); (case hf => rfl); (case hc => (cbv <;> trivial)); (case hle => (repeat' (first | exact u_nil | apply u_cons | apply u2_agg | exact u2_int | exact u1_int | exact u2_bool | exact u1_bool | exact u2_sli | exact u1_sli | exact u2_s0 | exact u1_s0))); all_goals (first | (intro t ht; cbv) | (assumption))))
      have k : t = r := by
        have k : t = (na && decide (lv u.1 ≠ 0), lim (lv u.1)) := ht
        rw [k, u1, lv_lim]; exact two g n
      rw [← k]; exact ⟨rfl, rfl, trivial⟩
    · have n : lv a < lv b := by
        by_cases h : lv a < lv b
        · exact h
        · rw [hu, if_neg h] at q; cases q
      (first | (apply E_pcallX hE (c_natSub b a hb ha hlb hla); (case hm => rfl); (case hle => (repeat' (first | exact u_nil | apply u_cons | apply u2_agg | exact u2_int | exact u1_int | exact u2_bool | exact u1_bool | exact u2_sli | exact u1_sli | exact u2_s0 | exact u1_s0))); all_goals (first | (intro u2 hu2; cbv) | (assumption))) | (apply E_callX hE (c_natSub b a hb ha hlb hla); (case hf => rfl); (case hc => (cbv <;> trivial)); (case hle => (repeat' (first | exact u_nil | apply u_cons | apply u2_agg | exact u2_int | exact u1_int | exact u2_bool | exact u1_bool | exact u2_sli | exact u1_sli | exact u2_s0 | exact u1_s0))); all_goals (first | (intro u2 hu2; cbv) | (assumption))))
      have hu2 : u2 = (if lv b < lv a then ([], false) else (lim (lv b - lv a), true)) := hu2
      have u1 : u2.1 = lim (lv b - lv a) := by rw [hu2, if_neg (by omega)]
      have ub : Lb u2.1 := by rw [u1]; exact lim_lb _
      have ul : u2.1.length ≤ 268435456 := by rw [u1]; exact lim3
      (first | (apply E_pcallX hE (c_wMake nb u2.1 ub ul); (case hm => rfl); (case hle => (repeat' (first | exact u_nil | apply u_cons | apply u2_agg | exact u2_int | exact u1_int | exact u2_bool | exact u1_bool | exact u2_sli | exact u1_sli | exact u2_s0 | exact u1_s0))); all_goals (first | (intro t ht; cbv) | (assumption))) | (apply E_callX hE (c_wMake nb u2.1 ub ul); (case hf => rfl); (case hc => (cbv <;> trivial)); (case hle => (repeat' (first | exact u_nil | apply u_cons | apply u2_agg | exact u2_int | exact u1_int | exact u2_bool | exact u1_bool | exact u2_sli | exact u1_sli | exact u2_s0 | exact u1_s0))); all_goals (first | (intro t ht; cbv) | (assumption))))
      have k : t = r := by
        have k : t = (nb && decide (lv u2.1 ≠ 0), lim (lv u2.1)) := ht
        rw [k, u1, lv_lim]; exact three g n
      rw [← k]; exact ⟨rfl, rfl, trivial⟩

theorem c_wSub (na : Bool) (a : List Int) (nb : Bool) (b : List Int) (ha : Lb a) (hb : Lb b) (hla : a.length < 134217728) (hlb : b.length < 134217728) :
    ∃ t : Bool × List Int, t = whN (wv na a - wv nb b) ∧ CallsA Try.prog 14 [.agg [.bool (.s na), .sli .u32 a], .agg [.bool (.s nb), .sli .u32 b]] (.agg [.bool (.s t.1), .sli .u32 t.2]) := by
  refine ⟨_, rfl, ?_⟩
  generalize hr : whN (wv na a - wv nb b) = r
  have lb : b.length ≤ 268435456 := by omega
  have lim1 := lim_length_le' hb
  have vn : wv (!nb && decide (lv b ≠ 0)) (lim (lv b)) = - wv nb b := by
    unfold wv; rw [lv_lim]; by_cases h : lv b = 0 <;> cases nb <;> simp [h]
  refine callsA_of hG hm Try.func14 (by kernel_rfl) ?_
  intro E hE lp hl'
  cbv
  (first | (apply E_pcallX hE (c_wNeg nb b hb lb); (case hm => rfl); (case hle => (repeat' (first | exact u_nil | apply u_cons | apply u2_agg | exact u2_int | exact u1_int | exact u2_bool | exact u1_bool | exact u2_sli | exact u1_sli | exact u2_s0 | exact u1_s0))); all_goals (first | (intro u hu; cbv) | (assumption))) | (apply E_callX hE (c_wNeg nb b hb lb); (case hf => rfl); (case hc => (cbv <;> trivial)); (case hle => (repeat' (first | exact u_nil | apply u_cons | apply u2_agg | exact u2_int | exact u1_int | exact u2_bool | exact u1_bool | exact u2_sli | exact u1_sli | exact u2_s0 | exact u1_s0))); all_goals (first | (intro u hu; cbv) | (assumption))))
  have hu : u = (!nb && decide (lv b ≠ 0), lim (lv b)) := hu
  have vu : wv u.1 u.2 = - wv nb b := by rw [hu]; exact vn
  have ub : Lb u.2 := by rw [hu]; exact lim_lb _
  have ul : u.2.length < 134217728 := by rw [hu]; show (lim (lv b)).length < _; omega
  (first | (apply E_pcallX hE (c_wAdd na a u.1 u.2 ha ub hla ul); (case hm => rfl); (case hle => (repeat' (first | exact u_nil | apply u_cons | apply u2_agg | exact u2_int | exact u1_int | exact u2_bool | exact u1_bool | exact u2_sli | exact u1_sli | exact u2_s0 | exact u1_s0))); all_goals (first | (intro t ht; cbv) | (assumption))) | (apply E_callX hE (c_wAdd na a u.1 u.2 ha ub hla ul); (case hf => rfl); (case hc => (cbv <;> trivial)); (case hle => (repeat' (first | exact u_nil | apply u_cons | apply u2_agg | exact u2_int | exact u1_int | exact u2_bool | exact u1_bool | exact u2_sli | exact u1_sli | exact u2_s0 | exact u1_s0))); all_goals (first | (intro t ht; cbv) | (assumption))))
  have k : t = r := by
    have k : t = whN (wv na a + wv u.1 u.2) := ht
    rw [k, vu, ← hr]; rfl
  rw [← k]; exact ⟨rfl, rfl, trivial⟩

theorem c_wCmp (na : Bool) (a : List Int) (nb : Bool) (b : List Int) (ha : Lb a) (hb : Lb b) (hla : a.length < 67108864) (hlb : b.length < 67108864) :
    ∃ t : Int, t = (if wv na a < wv nb b then -1 else if wv nb b < wv na a then 1 else 0) ∧ CallsA Try.prog 13 [.agg [.bool (.s na), .sli .u32 a], .agg [.bool (.s nb), .sli .u32 b]] (.int .i64 (.s t)) := by
  refine ⟨_, rfl, ?_⟩
  generalize hr : (if wv na a < wv nb b then -1 else if wv nb b < wv na a then 1 else 0 : Int) = r
  have la : a.length ≤ 268435456 := by omega
  have lb : b.length ≤ 268435456 := by omega
  have one : ∀ x y : Int, x = (if lv a = 0 then 0 else if na then -1 else 1) → y = (if lv b = 0 then 0 else if nb then -1 else 1) → x < y → -1 = r := by
    intro x y hx hy h; rw [← hr]; unfold wv; subst hx hy
    cases na <;> cases nb <;> simp at h ⊢ <;> repeat' (first | omega | split at h | split)
  have two : ∀ x y : Int, x = (if lv a = 0 then 0 else if na then -1 else 1) → y = (if lv b = 0 then 0 else if nb then -1 else 1) → y < x → 1 = r := by
    intro x y hx hy h; rw [← hr]; unfold wv; subst hx hy
    cases na <;> cases nb <;> simp at h ⊢ <;> repeat' (first | omega | split at h | split)
  have three : ∀ x y c : Int, x = (if lv a = 0 then 0 else if na then -1 else 1) → y = (if lv b = 0 then 0 else if nb then -1 else 1) → ¬ x < y → ¬ y < x → c = (if lv a < lv b then -1 else if lv b < lv a then 1 else 0) → IntKind.i64.wrap (x * c) = r := by
    intro x y c hx hy h h' hc
    have e : x * c = r := by
      rw [← hr]; unfold wv; subst hx hy hc
      cases na <;> cases nb <;> simp at h h' ⊢ <;> repeat' (first | omega | split at h | split at h' | split)
    rw [e]
    rw [← hr]; split
    · rfl
    · split <;> rfl
  clear hr
  refine callsA_of hG hm Try.func13 (by kernel_rfl) ?_
  intro E hE lp hl'
  cbv
  (first | (apply E_pcallX hE (c_wSign na a ha hla); (case hm => rfl); (case hle => (repeat' (first | exact u_nil | apply u_cons | apply u2_agg | exact u2_int | exact u1_int | exact u2_bool | exact u1_bool | exact u2_sli | exact u1_sli | exact u2_s0 | exact u1_s0))); all_goals (first | (intro x hx; cbv) | (assumption))) | (apply E_callX hE (c_wSign na a ha hla); (case hf => rfl); (case hc => (cbv <;> trivial)); (case hle => (repeat' (first | exact u_nil | apply u_cons | apply u2_agg | exact u2_int | exact u1_int | exact u2_bool | exact u1_bool | exact u2_sli | exact u1_sli | exact u2_s0 | exact u1_s0))); all_goals (first | (intro x hx; cbv) | (assumption))))
  (first | (apply E_pcallX hE (c_wSign nb b hb hlb); (case hm => rfl); (case hle => (repeat' (first | exact u_nil | apply u_cons | apply u2_agg | exact u2_int | exact u1_int | exact u2_bool | exact u1_bool | exact u2_sli | exact u1_sli | exact u2_s0 | exact u1_s0))); all_goals (first | (intro y hy; cbv) | (assumption))) | (apply E_callX hE (c_wSign nb b hb hlb); (case hf => rfl); (case hc => (cbv <;> trivial)); (case hle => (repeat' (first | exact u_nil | apply u_cons | apply u2_agg | exact u2_int | exact u1_int | exact u2_bool | exact u1_bool | exact u2_sli | exact u1_sli | exact u2_s0 | exact u1_s0))); all_goals (first | (intro y hy; cbv) | (assumption))))
  have hx : x = (if lv a = 0 then 0 else if na then -1 else 1) := hx
  have hy : y = (if lv b = 0 then 0 else if nb then -1 else 1) := hy
  (try (refine E_nm hE (fun x1 e1 => ?_); cbv))
  (try (refine E_nm hE (fun y1 e2 => ?_); cbv))
  have hx1 : x1 = (if lv a = 0 then 0 else if na then -1 else 1) := e1.trans hx
  have hy1 : y1 = (if lv b = 0 then 0 else if nb then -1 else 1) := e2.trans hy
  refine E_br hE (fun g => ?_) (fun g => ?_) <;> cbv
  · rw [← one x1 y1 hx1 hy1 (by subst hE; exact lss_t g)]
  have g1 : ¬ x1 < y1 := by subst hE; exact lss_f g
  refine E_br hE (fun g => ?_) (fun g => ?_) <;> cbv
  · rw [← two x1 y1 hx1 hy1 (by subst hE; exact gtr_t g)]
  have g2 : ¬ y1 < x1 := by subst hE; exact gtr_f g
  (first | (apply E_pcallX hE (c_natCmp a b ha hb la lb); (case hm => rfl); (case hle => (repeat' (first | exact u_nil | apply u_cons | apply u2_agg | exact u2_int | exact u1_int | exact u2_bool | exact u1_bool | exact u2_sli | exact u1_sli | exact u2_s0 | exact u1_s0))); all_goals (first | (intro c hc; cbv) | (assumption))) | (apply E_callX hE (c_natCmp a b ha hb la lb); (case hf => rfl); (case hc => (cbv <;> trivial)); (case hle => (repeat' (first | exact u_nil | apply u_cons | apply u2_agg | exact u2_int | exact u1_int | exact u2_bool | exact u1_bool | exact u2_sli | exact u1_sli | exact u2_s0 | exact u1_s0))); all_goals (first | (intro c hc; cbv) | (assumption))))
  (try (refine E_nm hE (fun z ez => ?_); cbv))
  refine ez.trans ?_
  have k := three x1 y1 c hx1 hy1 g1 g2 hc
  rw [← k]; subst hE; rfl

end Go.Proofs.Ytaiillbjhdoikaa.Ev

/- Contracts: the scale of fixed numbers, a number so many times; quotients of numbers above nought. Printed by gen.py. -/
namespace Go.Proofs.Ytaiillbjhdoikaa.Ev
open Go Go.Proofs
set_option linter.unusedVariables false
set_option linter.unusedSimpArgs false

attribute [local irreducible] Lb
def piOne : Nat := 2 ^ 192
theorem c_piScale : ∃ t : Bool × List Int, t = whN (piOne : Int) ∧ CallsA Try.prog 84 [] (.agg [.bool (.s t.1), .sli .u32 t.2]) := by
  refine ⟨_, rfl, ?_⟩
  generalize hr : whN (piOne : Int) = r
  have l1 : Lb [(1 : Int)] := Lb.cons (by decide) (by decide) Lb.nil
  have v1 : lv [(1 : Int)] = 1 := rfl
  have fin : (false && decide (2 ^ 192 ≠ 0), lim (2 ^ 192)) = r := by rw [← hr, show piOne = 2 ^ 192 from rfl, whN_of]; rfl
  have len : (lim (2 ^ 192)).length ≤ 268435456 := Nat.le_trans (lim_length_le (k := 7) (by decide +kernel)) (by decide)
  clear hr
  refine callsA_of hG hm Try.func84 (by kernel_rfl) ?_
  intro E hE lp hl'
  have es : E.sub [1] 0 1 = [1] := by subst hE; rfl
  cbv
  (first | (apply E_pcallX hE (c_natShl _ 192 ?_ ?_); (case hm => rfl); (case hle => (repeat' (first | exact u_nil | apply u_cons | apply u2_agg | exact u2_int | exact u1_int | exact u2_bool | exact u1_bool | exact u2_sli | exact u1_sli | exact u2_s0 | exact u1_s0))); all_goals (first | (intro u hu; cbv) | (first | (show Lb (E.sub [1] 0 1); rw [es]; exact l1) | (show (E.sub [1] 0 1).length < 67108864; rw [es]; decide)))) | (apply E_callX hE (c_natShl _ 192 ?_ ?_); (case hf => rfl); (case hc => (cbv <;> trivial)); (case hle => (repeat' (first | exact u_nil | apply u_cons | apply u2_agg | exact u2_int | exact u1_int | exact u2_bool | exact u1_bool | exact u2_sli | exact u1_sli | exact u2_s0 | exact u1_s0))); all_goals (first | (intro u hu; cbv) | (first | (show Lb (E.sub [1] 0 1); rw [es]; exact l1) | (show (E.sub [1] 0 1).length < 67108864; rw [es]; decide)))))
  have hu : u = lim (2 ^ 192) := by
    have k : u = (if (192 : Int) < 1 then lim (lv (E.sub [1] 0 1)) else if 16777216 < (192 : Int) then [] else lim (lv (E.sub [1] 0 1) * 2 ^ (192 : Int).toNat)) := hu
    rw [k, es, v1, if_neg (by decide), if_neg (by decide), Nat.one_mul]; rfl
  have ub : Lb u := by rw [hu]; exact lim_lb _
  have ul : u.length ≤ 268435456 := by rw [hu]; exact len
  (first | (apply E_pcallX hE (c_wMake false u ub ul); (case hm => rfl); (case hle => (repeat' (first | exact u_nil | apply u_cons | apply u2_agg | exact u2_int | exact u1_int | exact u2_bool | exact u1_bool | exact u2_sli | exact u1_sli | exact u2_s0 | exact u1_s0))); all_goals (first | (intro t ht; cbv) | (assumption))) | (apply E_callX hE (c_wMake false u ub ul); (case hf => rfl); (case hc => (cbv <;> trivial)); (case hle => (repeat' (first | exact u_nil | apply u_cons | apply u2_agg | exact u2_int | exact u1_int | exact u2_bool | exact u1_bool | exact u2_sli | exact u1_sli | exact u2_s0 | exact u1_s0))); all_goals (first | (intro t ht; cbv) | (assumption))))
  have k : t = r := by
    have k : t = (false && decide (lv u ≠ 0), lim (lv u)) := ht
    rw [k, hu, lv_lim]; exact fin
  rw [← k]; exact ⟨rfl, rfl, trivial⟩

theorem mulN (na : Bool) (a : List Int) (nb : Bool) (b : List Int) : ((na != nb) && decide (lv a * lv b ≠ 0), lim (lv a * lv b)) = whN (wv na a * wv nb b) := by
  rw [whN_of]; unfold wv; congr 1
  cases na <;> cases nb <;> simp [Int.neg_mul, Int.mul_neg, Int.neg_neg]
theorem c_piTimes (na : Bool) (a : List Int) (n : Int) (ha : Lb a) (hla : a.length < 60000000) (h1 : -9223372036854775808 ≤ n) (h2 : n < 9223372036854775808) :
    ∃ t : Bool × List Int, t = whN (wv na a * n) ∧ CallsA Try.prog 43 [.agg [.bool (.s na), .sli .u32 a], .int .i64 (.s n)] (.agg [.bool (.s t.1), .sli .u32 t.2]) := by
  refine ⟨_, rfl, ?_⟩
  generalize hr : whN (wv na a * n) = r
  have len : (lim n.natAbs).length < 60000000 := Nat.lt_of_le_of_lt (lim_length_le (k := 2) (by rw [show (4294967296 : Nat) ^ 2 = 18446744073709551616 by decide +kernel]; omega)) (by decide)
  have fin : ∀ (u t : Bool × List Int), u = (decide (n < 0), lim n.natAbs) → t = ((na != u.1) && decide (lv a * lv u.2 ≠ 0), lim (lv a * lv u.2)) → t = r := by
    intro u t hu ht
    rw [ht, mulN, ← hr, show u = whN n from hu, wv_whN]
  clear hr
  refine callsA_of hG hm Try.func43 (by kernel_rfl) ?_
  intro E hE lp hl'
  cbv
  (first | (apply E_pcallX hE (c_wFrom n h1 h2); (case hm => rfl); (case hle => (repeat' (first | exact u_nil | apply u_cons | apply u2_agg | exact u2_int | exact u1_int | exact u2_bool | exact u1_bool | exact u2_sli | exact u1_sli | exact u2_s0 | exact u1_s0))); all_goals (first | (intro u hu; cbv) | (assumption))) | (apply E_callX hE (c_wFrom n h1 h2); (case hf => rfl); (case hc => (cbv <;> trivial)); (case hle => (repeat' (first | exact u_nil | apply u_cons | apply u2_agg | exact u2_int | exact u1_int | exact u2_bool | exact u1_bool | exact u2_sli | exact u1_sli | exact u2_s0 | exact u1_s0))); all_goals (first | (intro u hu; cbv) | (assumption))))
  have ub : Lb u.2 := by rw [show u = (decide (n < 0), lim n.natAbs) from hu]; exact lim_lb _
  have ul : u.2.length < 60000000 := by rw [show u = (decide (n < 0), lim n.natAbs) from hu]; exact len
  apply E_pcallX hE (c_wMul2 na a u.1 u.2 ha ub hla ul)
  case hm => rfl
  case hle => exact ⟨u2_slc', trivial⟩
  intro t ht
  cbv
  have k : t = r := fin u t hu ht
  rw [← k]; exact ⟨rfl, rfl, trivial⟩

theorem c_wDivP (a b : List Int) (ha : Lb a) (hb : Lb b) (hla : a.length < 33554432) (hlb : b.length < 33554432) (hb0 : lv b ≠ 0) :
    ∃ t : (Bool × List Int) × (Bool × List Int), t = (whN ((lv a / lv b : Nat) : Int), whN ((lv a % lv b : Nat) : Int)) ∧
      CallsA Try.prog 83 [.agg [.bool (.s false), .sli .u32 a], .agg [.bool (.s false), .sli .u32 b]] (.tup [.agg [.bool (.s t.1.1), .sli .u32 t.1.2], .agg [.bool (.s t.2.1), .sli .u32 t.2.2], .bool (.s true)]) := by
  refine ⟨_, rfl, ?_⟩
  generalize hr : (whN ((lv a / lv b : Nat) : Int), whN ((lv a % lv b : Nat) : Int)) = r
  have qn : ∀ (t : Bool × List Int), t = (false && decide (lv a / lv b ≠ 0), lim (lv a / lv b)) → t = r.1 := by
    intro t h; rw [h, ← hr, whN_of]; rfl
  have rn : ∀ (t : Bool × List Int), t = (false && decide (lv a % lv b ≠ 0), lim (lv a % lv b)) → t = r.2 := by
    intro t h; rw [h, ← hr, whN_of]; rfl
  have b1 : b.length < 67108864 := by omega
  have l1 : (lim (lv a / lv b)).length ≤ 268435456 := by have := lim_mono (Nat.div_le_self (lv a) (lv b)); have := lim_length_le' ha; omega
  have l2 : (lim (lv a % lv b)).length < 67108864 := by have := lim_mono (Nat.mod_le (lv a) (lv b)); have := lim_length_le' ha; omega
  have l3 : (lim (lv a % lv b)).length ≤ 268435456 := by omega
  clear hr
  refine callsA_of hG hm Try.func83 (by kernel_rfl) ?_
  intro E hE lp hl'
  cbv
  (first | (apply E_pcallX hE (c_natDiv a b ha hb hla hlb); (case hm => rfl); (case hle => (repeat' (first | exact u_nil | apply u_cons | apply u2_agg | exact u2_int | exact u1_int | exact u2_bool | exact u1_bool | exact u2_sli | exact u1_sli | exact u2_s0 | exact u1_s0))); all_goals (first | (intro d hd; cbv) | (assumption))) | (apply E_callX hE (c_natDiv a b ha hb hla hlb); (case hf => rfl); (case hc => (cbv <;> trivial)); (case hle => (repeat' (first | exact u_nil | apply u_cons | apply u2_agg | exact u2_int | exact u1_int | exact u2_bool | exact u1_bool | exact u2_sli | exact u1_sli | exact u2_s0 | exact u1_s0))); all_goals (first | (intro d hd; cbv) | (assumption))))
  have hd : d = (lim (lv a / lv b), lim (lv a % lv b), true) := by
    have k : d = (if lv b = 0 then ([], [], false) else (lim (lv a / lv b), lim (lv a % lv b), true)) := hd
    rw [k, if_neg hb0]
  have d1 : d.1 = lim (lv a / lv b) := by rw [hd]
  have d2 : d.2.1 = lim (lv a % lv b) := by rw [hd]
  have d3 : d.2.2 = true := by rw [hd]
  have db : Lb d.1 := by rw [d1]; exact lim_lb _
  have dc : Lb d.2.1 := by rw [d2]; exact lim_lb _
  have dl : d.1.length ≤ 268435456 := by rw [d1]; exact l1
  have dm : d.2.1.length ≤ 268435456 := by rw [d2]; exact l3
  refine E_br hE (fun g => ?_) (fun g => ?_)
  · exfalso
    have k : E.bnot d.2.2 = true := g
    rw [d3] at k; subst hE; cases k
  cbv
  (first | (apply E_pcallX hE (c_wMake _ d.1 db dl); (case hm => rfl); (case hle => (repeat' (first | exact u_nil | apply u_cons | apply u2_agg | exact u2_int | exact u1_int | exact u2_bool | exact u1_bool | exact u2_sli | exact u1_sli | exact u2_s0 | exact u1_s0))); all_goals (first | (intro x hx; cbv) | (assumption))) | (apply E_callX hE (c_wMake _ d.1 db dl); (case hf => rfl); (case hc => (cbv <;> trivial)); (case hle => (repeat' (first | exact u_nil | apply u_cons | apply u2_agg | exact u2_int | exact u1_int | exact u2_bool | exact u1_bool | exact u2_sli | exact u1_sli | exact u2_s0 | exact u1_s0))); all_goals (first | (intro x hx; cbv) | (assumption))))
  (first | (apply E_pcallX hE (c_wMake _ d.2.1 dc dm); (case hm => rfl); (case hle => (repeat' (first | exact u_nil | apply u_cons | apply u2_agg | exact u2_int | exact u1_int | exact u2_bool | exact u1_bool | exact u2_sli | exact u1_sli | exact u2_s0 | exact u1_s0))); all_goals (first | (intro y hy; cbv) | (assumption))) | (apply E_callX hE (c_wMake _ d.2.1 dc dm); (case hf => rfl); (case hc => (cbv <;> trivial)); (case hle => (repeat' (first | exact u_nil | apply u_cons | apply u2_agg | exact u2_int | exact u1_int | exact u2_bool | exact u1_bool | exact u2_sli | exact u1_sli | exact u2_s0 | exact u1_s0))); all_goals (first | (intro y hy; cbv) | (assumption))))
  have ex : x = r.1 := qn x (by have k : x = ((E.bnot (E.beq false false)) && decide (lv d.1 ≠ 0), lim (lv d.1)) := hx; rw [k, d1, lv_lim]; subst hE; rfl)
  have ey : y = r.2 := rn y (by have k : y = (false && decide (lv d.2.1 ≠ 0), lim (lv d.2.1)) := hy; rw [k, d2, lv_lim])
  have y0 : y = (false, lim (lv a % lv b)) := by have k : y = (false && decide (lv d.2.1 ≠ 0), lim (lv d.2.1)) := hy; rw [k, d2, lv_lim]; rfl
  have yb : Lb y.2 := by rw [y0]; exact lim_lb _
  have yl : y.2.length < 67108864 := by rw [y0]; exact l2
  (first | (apply E_pcallX hE (c_wSign y.1 y.2 yb yl); (case hm => rfl); (case hle => (repeat' (first | exact u_nil | apply u_cons | apply u2_agg | exact u2_int | exact u1_int | exact u2_bool | exact u1_bool | exact u2_sli | exact u1_sli | exact u2_s0 | exact u1_s0))); all_goals (first | (intro s hs; cbv) | (assumption))) | (apply E_callX hE (c_wSign y.1 y.2 yb yl); (case hf => rfl); (case hc => (cbv <;> trivial)); (case hle => (repeat' (first | exact u_nil | apply u_cons | apply u2_agg | exact u2_int | exact u1_int | exact u2_bool | exact u1_bool | exact u2_sli | exact u1_sli | exact u2_s0 | exact u1_s0))); all_goals (first | (intro s hs; cbv) | (assumption))))
  (first | (apply E_pcallX hE (c_wSign false b hb b1); (case hm => rfl); (case hle => (repeat' (first | exact u_nil | apply u_cons | apply u2_agg | exact u2_int | exact u1_int | exact u2_bool | exact u1_bool | exact u2_sli | exact u1_sli | exact u2_s0 | exact u1_s0))); all_goals (first | (intro z hz; cbv) | (assumption))) | (apply E_callX hE (c_wSign false b hb b1); (case hf => rfl); (case hc => (cbv <;> trivial)); (case hle => (repeat' (first | exact u_nil | apply u_cons | apply u2_agg | exact u2_int | exact u1_int | exact u2_bool | exact u1_bool | exact u2_sli | exact u1_sli | exact u2_s0 | exact u1_s0))); all_goals (first | (intro z hz; cbv) | (assumption))))
  have hs : s = 0 ∨ s = 1 := by
    have k : s = (if lv y.2 = 0 then 0 else if y.1 then -1 else 1) := hs
    rw [k, y0]; split
    · exact .inl rfl
    · exact .inr rfl
  have hz : z = 1 := by
    have k : z = (if lv b = 0 then 0 else if false then -1 else 1) := hz
    rw [k, if_neg hb0]; rfl
  refine E_br hE (fun g => ?_) (fun g => ?_)
  · exfalso
    have k : E.bin .mul .i64 s z < 0 := by subst hE; exact lss_t g
    rw [hz] at k
    subst hE
    rcases hs with h | h <;> (rw [h] at k; exact absurd k (by decide))
  cbv
  exact ⟨⟨congrArg Prod.fst ex, congrArg Prod.snd ex, trivial⟩, ⟨congrArg Prod.fst ey, congrArg Prod.snd ey, trivial⟩, trivial⟩

end Go.Proofs.Ytaiillbjhdoikaa.Ev

/- Laws: a natural number as 64 bits of which the highest is 1, and an exponent; the ratio of two natural numbers. -/
namespace Go.Proofs.Ytaiillbjhdoikaa.Ev
open Go Go.Proofs
set_option linter.unusedVariables false
set_option linter.unusedSimpArgs false
attribute [local irreducible] Lb
theorem wi64_in {n : Int} (h0 : -9223372036854775808 ≤ n) (h1 : n < 9223372036854775808) : IntKind.i64.wrap n = n := by rw [wi64]; omega
/-- a natural number as 64 bits of which the highest is 1, and an exponent; was something cut off? -/
def natu (n : Nat) : Nat × Int × Bool :=
  if blen (n : Int) ≤ 64 then (n * 2 ^ (64 - blen (n : Int)).toNat, blen (n : Int) - 64, false)
  else (n / 2 ^ (blen (n : Int) - 64).toNat, blen (n : Int) - 64, decide (n / 2 ^ (blen (n : Int) - 64).toNat * 2 ^ (blen (n : Int) - 64).toNat ≠ n))
theorem blen_lt {n : Nat} : n < 2 ^ (blen (n : Int)).toNat := by
  rcases Nat.eq_zero_or_pos n with h | h
  · rw [h]; decide
  · obtain ⟨k, hk, _, h2⟩ := blen_rng h
    rw [hk, show ((k : Int) + 1).toNat = k + 1 by omega]; exact h2
theorem blen_le_len {m : List Int} (h : Lb m) : blen (lv m : Int) ≤ 32 * m.length := by
  have := blen_le (x := (lv m : Int)) (32 * m.length) (by
    have h1 := lv_lt h
    rw [show (4294967296 : Nat) = 2 ^ 32 by rfl, ← Nat.pow_mul] at h1
    exact_mod_cast h1)
  omega
theorem two64 {n : Nat} (h : n < 2 ^ 64) : (lim n).length ≤ 2 := lim_length_le (by rw [show (4294967296 : Nat) ^ 2 = 2 ^ 64 by decide +kernel]; exact h)
theorem natu_lo {n : Nat} (h : blen (n : Int) ≤ 64) : n * 2 ^ (64 - blen (n : Int)).toNat < 2 ^ 64 := by
  have b0 := blen_nonneg (n : Int)
  have h1 := blen_lt (n := n)
  calc n * 2 ^ (64 - blen (n : Int)).toNat < 2 ^ (blen (n : Int)).toNat * 2 ^ (64 - blen (n : Int)).toNat := Nat.mul_lt_mul_of_pos_right h1 (Nat.two_pow_pos _)
    _ = 2 ^ 64 := by rw [← Nat.pow_add]; congr 1; omega
theorem natu_hi {n : Nat} (h : 64 < blen (n : Int)) : n / 2 ^ (blen (n : Int) - 64).toNat < 2 ^ 64 := by
  have h1 := blen_lt (n := n)
  refine Nat.div_lt_of_lt_mul ?_
  rw [← Nat.pow_add, show (blen (n : Int) - 64).toNat + 64 = (blen (n : Int)).toNat by omega]; exact h1
theorem natu_e {n : Nat} (h : (lim n).length ≤ 200004) : -64 ≤ (natu n).2.1 ∧ (natu n).2.1 ≤ 6400128 := by
  have b0 := blen_nonneg (n : Int)
  have b1 := blen_le_len (lim_lb n)
  rw [lv_lim] at b1
  unfold natu
  split <;> constructor <;> dsimp only <;> omega
/-- the ratio of two natural numbers, of these signs -/
def ratioN (na : Bool) (a : Nat) (nb : Bool) (b : Nat) (up : Bool) : Num :=
  if b = 0 then Num.inf (!up) else if a = 0 then Num.zero else
    Num.grow (na != nb) ((natu (a * 2 ^ (max 0 (65 + blen (b : Int) - blen (a : Int))).toNat / b)).1 : Int) ((natu (a * 2 ^ (max 0 (65 + blen (b : Int) - blen (a : Int))).toNat / b)).2.1 - max 0 (65 + blen (b : Int) - blen (a : Int)))
      ((natu (a * 2 ^ (max 0 (65 + blen (b : Int) - blen (a : Int))).toNat / b)).2.2 || decide (a * 2 ^ (max 0 (65 + blen (b : Int) - blen (a : Int))).toNat % b ≠ 0)) (up != (na != nb))
end Go.Proofs.Ytaiillbjhdoikaa.Ev
