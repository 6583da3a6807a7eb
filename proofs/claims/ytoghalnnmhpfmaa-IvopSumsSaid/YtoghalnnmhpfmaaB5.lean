/- Texts of the proof, joined: Pu16 Pu17 Br5 Br6 R18 Br8 R19 Br9 C5 C6 R20 Br10 R21 R25 Pu18 Br12 C13 C14 C15 C16 C7 C8 C9 C9h C17 C11 C18 R22 R26 Br14 Pu20 Pu28a Br15 -/
import Derived.Test.YtoghalnnmhpfmaaB4
import Derived.Laws.Externs
set_option linter.unusedVariables false
set_option linter.unusedSimpArgs false

/- What a rounded number is: of all numbers on its side of the exact one the nearest. Plain Lean. -/
namespace Go.Proofs.Ytoghalnnmhpfmaa.Ev
open Go

/-- the nearest one on a side of t / c -/
structure Best (r : Num) (up : Bool) (t c : Int) : Prop where
  may : r.may = true
  ok : r.ok
  down : up = false → r ≠ Num.inf false ∧ (r = Num.inf true ∨ r.val * c ≤ t)
  dopt : up = false → ∀ s : Num, s.may = true → s.ok → s ≠ Num.inf false → s.val * c ≤ t → s.val ≤ r.val
  uopt : up = true → ∀ s : Num, s.may = true → s.ok → s ≠ Num.inf true → t ≤ s.val * c → r.val ≤ s.val
  hi : up = true → r ≠ Num.inf true ∧ (r = Num.inf false ∨ t ≤ r.val * c)

theorem Best.side {r : Num} {up : Bool} {t c : Int} (h : Best r up t c) : Side r up t c := ⟨h.may, h.ok, h.down, h.hi⟩

theorem Best.mono {r r' : Num} {up : Bool} {t c t' c' : Int} (h : Best r up t c) (h' : Best r' up t' c') (hc : 0 < c) (hc' : 0 < c') (ht : t * c' ≤ t' * c) : r.val ≤ r'.val := by
  have key : ∀ v : Int, v * c ≤ t → v * c' ≤ t' := by
    intro v hv
    have h1 : v * c * c' ≤ t * c' := Int.mul_le_mul_of_nonneg_right hv (Int.le_of_lt hc')
    refine Int.le_of_mul_le_mul_right (a := c) ?_ hc
    have : v * c' * c = v * c * c' := by grind
    omega
  have key2 : ∀ v : Int, t' ≤ v * c' → t ≤ v * c := by
    intro v hv
    have h1 : t' * c ≤ v * c' * c := Int.mul_le_mul_of_nonneg_right hv (Int.le_of_lt hc)
    refine Int.le_of_mul_le_mul_right (a := c') ?_ hc'
    have : v * c' * c = v * c * c' := by grind
    omega
  cases up with
  | false =>
    obtain ⟨d1, d2⟩ := h.down rfl
    rcases d2 with d2 | d2
    · have := (Num.val_le h'.may h'.ok).1
      rw [d2, Num.val_inf]
      simpa using this
    · exact h'.dopt rfl r h.may h.ok d1 (key _ d2)
  | true =>
    obtain ⟨d1, d2⟩ := h'.hi rfl
    rcases d2 with d2 | d2
    · have := (Num.val_le h.may h.ok).2
      rw [d2, Num.val_inf]
      simpa using this
    · exact h.uopt rfl r' h'.may h'.ok d1 (key2 _ d2)

theorem Best.uniq {r r' : Num} {up : Bool} {t c t' c' : Int} (h : Best r up t c) (h' : Best r' up t' c') (hc : 0 < c) (hc' : 0 < c') (ht : t * c' = t' * c) : r = r' :=
  Num.val_inj h.may h'.may h.ok h'.ok (Int.le_antisymm (h.mono h' hc hc' (by omega)) (h'.mono h hc' hc (by omega)))

/-- what is a number is not rounded -/
theorem Best.exact {r s : Num} {up : Bool} {t c : Int} (h : Best r up t c) (hc : 0 < c) (ms : s.may = true) (os : s.ok) (ks : s.kind ≠ 2) (ht : s.val * c = t) : r = s := by
  have n : ∀ b, s ≠ Num.inf b := fun b g => ks (by rw [g]; rfl)
  refine h.uniq (t' := s.val) (c' := 1) ⟨ms, os, fun _ => ⟨n _, .inr (by omega)⟩, fun _ x _ _ _ hx => by omega, fun _ x _ _ _ hx => by omega, fun _ => ⟨n _, .inr (by omega)⟩⟩ hc (by decide) (by omega)

/-- down is not above up -/
theorem Best.le {r r' : Num} {t c : Int} (h : Best r false t c) (h' : Best r' true t c) (hc : 0 < c) : r.val ≤ r'.val := by
  obtain ⟨d1, d2⟩ := h.down rfl
  obtain ⟨e1, e2⟩ := h'.hi rfl
  rcases d2 with d2 | d2
  · have := (Num.val_le h'.may h'.ok).1
    rw [d2, Num.val_inf]
    simpa using this
  · rcases e2 with e2 | e2
    · have := (Num.val_le h.may h.ok).2
      rw [e2, Num.val_inf]
      simpa using this
    · exact Int.le_of_mul_le_mul_right (a := c) (by omega) hc

/-! ### the grid of numbers of 64 bits -/
theorem pw_split {e f : Int} (h : -8388608 ≤ e) (h2 : e ≤ f) : pw f = 2 ^ (f - e).toNat * pw e := by
  have := pw_add (e := e) (f := f - e) h (by omega)
  rw [show e + (f - e) = f by omega] at this
  rw [this, Int.mul_comm]

theorem grid_dn {s : Num} (ms : s.may = true) (os : s.ok) (ks : s.kind ≠ 2) {m e : Int} (hm : 9223372036854775808 ≤ m) (he : -4194303 ≤ e) (h : s.W < (m + 1) * pw e) : s.W ≤ m * pw e := by
  have p := pw_pos e
  rcases Num.may3 ms os with k | k | k
  · rw [k, Num.zero_W]; exact Int.mul_nonneg (by omega) (Int.le_of_lt p)
  · rw [k.W] at h ⊢
    have := k.hi; have := k.elo
    rcases Int.lt_or_le s.e e with g | g
    · exact Int.le_of_lt (lex_lt hm k.hi (by omega) g)
    · rw [pw_split (by omega) g, ← Int.mul_assoc] at h ⊢
      have := Int.lt_of_mul_lt_mul_right h (Int.le_of_lt p)
      exact Int.mul_le_mul_of_nonneg_right (by omega) (Int.le_of_lt p)
  · rw [k] at ks; simp [Num.inf] at ks

theorem grid_up {s : Num} (ms : s.may = true) (os : s.ok) {m e : Int} (hm : 9223372036854775808 ≤ m) (he : -4194303 ≤ e) (h : m * pw e < s.W) : (m + 1) * pw e ≤ s.W := by
  have p := pw_pos e
  have up : ∀ (N f : Int), e ≤ f → m * pw e < N * pw f → (m + 1) * pw e ≤ N * pw f := by
    intro N f hf hN
    rw [pw_split (by omega) hf, ← Int.mul_assoc] at hN ⊢
    have := Int.lt_of_mul_lt_mul_right hN (Int.le_of_lt p)
    exact Int.mul_le_mul_of_nonneg_right (by omega) (Int.le_of_lt p)
  rcases Num.may3 ms os with k | k | k
  · rw [k, Num.zero_W] at h
    have := Int.mul_nonneg (show 0 ≤ m by omega) (Int.le_of_lt p)
    omega
  · rw [k.W] at h ⊢
    have := k.hi; have := k.elo
    rcases Int.lt_or_le s.e e with g | g
    · have := lex_lt hm k.hi (by omega) g
      omega
    · exact up _ _ g h
  · rw [k, Num.inf_W] at h ⊢
    rcases Int.lt_or_le 1048640 e with g | g
    · have h1 := pw_lt (e := 1048640) (by decide) g
      have h2 : 1 * pw e ≤ m * pw e := Int.mul_le_mul_of_nonneg_right (by omega) (Int.le_of_lt p)
      have := pw_pos 1048640
      omega
    · have := up 1 1048640 g (by omega)
      omega

theorem W_nn (s : Num) (ms : s.may = true) (os : s.ok) : 0 ≤ s.W := by
  rcases Num.may3 ms os with k | k | k
  · rw [k, Num.zero_W]; exact Int.le_refl _
  · exact Int.le_of_lt k.lt.1
  · rw [k, Num.inf_W]; exact Int.le_of_lt (pw_pos _)

theorem W_huge {s : Num} (ms : s.may = true) (os : s.ok) (ks : s.kind ≠ 2) : s.W ≤ 18446744073709551615 * pw 1048576 := by
  rcases Num.may3 ms os with k | k | k
  · rw [k, Num.zero_W]; exact Int.mul_nonneg (by decide) (Int.le_of_lt (pw_pos _))
  · rw [k.W]
    have h1 := k.hi; have h2 := k.lo; have h3 := k.elo; have h4 := k.ehi
    have h5 : s.m * pw s.e ≤ 18446744073709551615 * pw s.e := Int.mul_le_mul_of_nonneg_right (by omega) (Int.le_of_lt (pw_pos _))
    have h6 : 18446744073709551615 * pw s.e ≤ 18446744073709551615 * pw 1048576 := Int.mul_le_mul_of_nonneg_left (pw_mono (by omega) h4) (by decide)
    omega
  · rw [k] at ks; simp [Num.inf] at ks

theorem W_tiny {s : Num} (ms : s.may = true) (os : s.ok) (h : 0 < s.W) : 9223372036854775808 * pw (-1048576) ≤ s.W := by
  rcases Num.may3 ms os with k | k | k
  · rw [k, Num.zero_W] at h; omega
  · rw [k.W]
    have h1 := k.hi; have h2 := k.lo; have h3 := k.elo; have h4 := k.ehi
    have h5 : 9223372036854775808 * pw s.e ≤ s.m * pw s.e := Int.mul_le_mul_of_nonneg_right h2 (Int.le_of_lt (pw_pos _))
    have h6 : 9223372036854775808 * pw (-1048576) ≤ 9223372036854775808 * pw s.e := Int.mul_le_mul_of_nonneg_left (pw_mono (by decide) h3) (by decide)
    omega
  · rw [k, Num.inf_W]
    have h6 : pw (-1048576 + 63) ≤ pw 1048640 := pw_mono (by decide) (by decide)
    rw [pw_63 (by decide)] at h6
    omega

theorem mag_dn {neg cut : Bool} {m e : Int} (hm : 9223372036854775808 ≤ m) (hm' : m < 18446744073709551616) (he : -4194303 ≤ e) {s : Num} (ms : s.may = true) (os : s.ok) (ks : s.kind ≠ 2)
    (h : s.W < (m + 1) * pw e) : s.W ≤ (Num.grow neg m e cut false).W := by
  unfold Num.grow
  rw [if_neg (by simp)]
  unfold Num.bound
  by_cases h1 : 1048576 < e
  · rw [if_pos h1, if_neg (by decide)]
    exact W_huge ms os ks
  · rw [if_neg h1]
    by_cases h2 : e < -1048576
    · rw [if_pos h2, if_neg (by decide), Num.zero_W]
      rcases Int.lt_or_le 0 s.W with h3 | h3
      · have h4 := W_tiny ms os h3
        have h5 : (m + 1) * pw e ≤ 18446744073709551616 * pw e := Int.mul_le_mul_of_nonneg_right (by omega) (Int.le_of_lt (pw_pos _))
        have h6 := pw_lt (e := e) (f := -1048576) (by omega) h2
        omega
      · exact h3
    · rw [if_neg h2]
      have f : (Num.mk 1 neg m e).Fin := ⟨rfl, hm, hm', by show -1048576 ≤ e; omega, by show e ≤ 1048576; omega⟩
      rw [f.W]
      exact grid_dn ms os ks hm he h

theorem bound_up {neg : Bool} {m e : Int} (hm : 9223372036854775808 ≤ m) (hm' : m < 18446744073709551616) (he : -4194303 ≤ e) {s : Num} (ms : s.may = true) (os : s.ok)
    (h : m * pw e ≤ s.W) : (Num.bound neg m e true).W ≤ s.W := by
  unfold Num.bound
  by_cases h1 : 1048576 < e
  · rw [if_pos h1, if_pos rfl, Num.inf_W]
    have h2 : pw (1048577 + 63) ≤ pw (e + 63) := pw_mono (by decide) (by omega)
    rw [pw_63 (e := e) (by omega), show (1048577 + 63 : Int) = 1048640 by decide] at h2
    have h3 : 9223372036854775808 * pw e ≤ m * pw e := Int.mul_le_mul_of_nonneg_right hm (Int.le_of_lt (pw_pos _))
    omega
  · rw [if_neg h1]
    by_cases h2 : e < -1048576
    · rw [if_pos h2, if_pos rfl]
      have h3 : 0 < m * pw e := Int.mul_pos (by omega) (pw_pos _)
      exact W_tiny ms os (by omega)
    · rw [if_neg h2]
      have f : (Num.mk 1 neg m e).Fin := ⟨rfl, hm, hm', by show -1048576 ≤ e; omega, by show e ≤ 1048576; omega⟩
      rw [f.W]
      exact h

theorem mag_up {neg cut : Bool} {m e : Int} (hm : 9223372036854775808 ≤ m) (hm' : m < 18446744073709551616) (he : -4194303 ≤ e) (he' : e ≤ 4194303) {s : Num} (ms : s.may = true) (os : s.ok)
    (h : if cut then m * pw e < s.W else m * pw e ≤ s.W) : (Num.grow neg m e cut true).W ≤ s.W := by
  unfold Num.grow
  cases cut with
  | false =>
    rw [if_neg (by decide)] at h
    rw [if_neg (by decide)]
    exact bound_up hm hm' he ms os h
  | true =>
    rw [if_pos rfl] at h
    rw [if_pos (by decide)]
    have h' := grid_up ms os hm he h
    by_cases h0 : IntKind.u64.wrap (m + 1) = 0
    · rw [if_pos h0]
      have em : m + 1 = 18446744073709551616 := by rw [wu64] at h0; omega
      have ee : IntKind.i64.wrap (e + 1) = e + 1 := by rw [wi64]; omega
      rw [ee]
      have et : Num.top = 9223372036854775808 := rfl
      rw [et]
      refine bound_up (by omega) (by omega) (by omega) ms os ?_
      rw [pw_succ (by omega)]
      rw [em] at h'
      omega
    · rw [if_neg h0]
      have em : IntKind.u64.wrap (m + 1) = m + 1 := by rw [wu64] at h0 ⊢; omega
      have hlt : m + 1 < 18446744073709551616 := by rw [wu64] at h0; omega
      rw [em]
      exact bound_up (by omega) hlt (by omega) ms os h'

theorem Num.val_of {s : Num} (ms : s.may = true) (os : s.ok) : (0 ≤ s.val ∧ s.val = s.W) ∨ (s.val < 0 ∧ s.val = -s.W) := by
  have := W_nn s ms os
  unfold Num.val
  by_cases h : s.neg = true
  · rw [if_pos h]
    rcases Int.lt_or_le 0 s.W with g | g
    · right; omega
    · left; omega
  · rw [if_neg h]; left; omega

/-- THE RULE OF ROUNDING. -/
theorem grow_best {neg cut up : Bool} {m e T c : Int} (hm : 9223372036854775808 ≤ m) (hm' : m < 18446744073709551616) (he : -4194303 ≤ e) (he' : e ≤ 4194303) (hc : 0 < c)
    (h : if cut then m * pw e * c < T ∧ T < (m + 1) * pw e * c else T = m * pw e * c) : Best (Num.grow neg m e cut (up != neg)) up (if neg then -T else T) c := by
  have p := pw_pos e
  have p1 : 0 < m * pw e := Int.mul_pos (by omega) p
  have p2 : 0 < m * pw e * c := Int.mul_pos p1 hc
  have p3 : m * pw e * c ≤ T ∧ T < (m + 1) * pw e * c := by
    cases cut with
    | true => exact ⟨Int.le_of_lt h.1, h.2⟩
    | false =>
      have h : T = m * pw e * c := h
      have : (m + 1) * pw e * c = m * pw e * c + pw e * c := by grind
      have : 0 < pw e * c := Int.mul_pos p hc
      omega
  have S : Side (Num.grow neg m e cut (up != neg)) up (if neg then -T else T) c := by
    refine (grow_rnd (neg := neg) (cut := cut) (away := up != neg) hm hm' (e := e) he he').side p3.1 ?_ (by omega) (Int.le_of_lt hc)
    cases cut with
    | true => rw [if_pos rfl]; exact Int.le_of_lt p3.2
    | false => rw [if_neg (by decide)]; exact Int.le_of_eq h
  have dn : ∀ s : Num, s.may = true → s.ok → s.kind ≠ 2 → s.W * c ≤ T → s.W ≤ (Num.grow neg m e cut false).W := by
    intro s ms os ks hs
    refine mag_dn hm hm' he ms os ks ?_
    exact Int.lt_of_mul_lt_mul_right (a := c) (by omega) (Int.le_of_lt hc)
  have upw : ∀ s : Num, s.may = true → s.ok → T ≤ s.W * c → (Num.grow neg m e cut true).W ≤ s.W := by
    intro s ms os hs
    refine mag_up hm hm' he he' ms os ?_
    cases cut with
    | true => exact Int.lt_of_mul_lt_mul_right (a := c) (by have := h.1; omega) (Int.le_of_lt hc)
    | false =>
      have h : T = m * pw e * c := h
      exact Int.le_of_mul_le_mul_right (a := c) (by omega) hc
  have neg_mul : ∀ s : Num, -s.W * c = -(s.W * c) := fun s => Int.neg_mul _ _
  refine ⟨S.may, S.ok, S.down, ?_, ?_, S.up⟩
  · intro hu s ms os hs hv
    subst hu
    have R := grow_rnd (neg := neg) (cut := cut) (away := false != neg) hm hm' (e := e) he he'
    cases neg with
    | false =>
      have hr : (Num.grow false m e cut (false != false)).val = (Num.grow false m e cut false).W := by
        rcases R.neg with k | k
        · have : (Num.grow false m e cut (false != false)).W = 0 := by unfold Num.W; rw [if_pos k]
          rcases Num.val_of R.may R.ok with q | q
          · exact q.2
          · show _ = (Num.grow false m e cut (false != false)).W
            omega
        · unfold Num.val; rw [if_neg (by rw [k]; decide)]; rfl
      rw [hr]
      have r0 := W_nn _ R.may R.ok
      rcases Num.val_of ms os with q | q
      · rw [q.2]
        refine dn s ms os ?_ (by rw [← q.2]; exact hv)
        intro k
        have e1 := Num.inf_of ms os k
        cases hn : s.neg with
        | false => exact hs (by rw [e1, hn])
        | true =>
          rw [e1, hn, Num.val_inf] at q
          have := pw_pos 1048640
          simp at q
          omega
      · have : 0 ≤ s.W := W_nn s ms os
        show s.val ≤ (Num.grow false m e cut (false != false)).W
        omega
    | true =>
      have hr : (Num.grow true m e cut (false != true)).val = -(Num.grow true m e cut true).W := by
        rcases R.neg with k | k
        · exact absurd k (R.up rfl).1
        · unfold Num.val; rw [if_pos k]; rfl
      rw [hr]
      simp only [if_true] at hv
      rcases Num.val_of ms os with q | q
      · exfalso
        have := Int.mul_nonneg q.1 (Int.le_of_lt hc)
        omega
      · rw [q.2] at hv ⊢
        rw [neg_mul] at hv
        have := upw s ms os (by omega)
        omega
  · intro hu s ms os hs hv
    subst hu
    have R := grow_rnd (neg := neg) (cut := cut) (away := true != neg) hm hm' (e := e) he he'
    cases neg with
    | false =>
      have hr : (Num.grow false m e cut (true != false)).val = (Num.grow false m e cut true).W := by
        rcases R.neg with k | k
        · exact absurd k (R.up rfl).1
        · unfold Num.val; rw [if_neg (by rw [k]; decide)]; rfl
      rw [hr]
      simp only [Bool.false_eq_true, if_false] at hv
      rcases Num.val_of ms os with q | q
      · rw [q.2] at hv ⊢
        exact upw s ms os hv
      · exfalso
        have := Int.mul_nonneg (W_nn s ms os) (Int.le_of_lt hc)
        rw [q.2, neg_mul] at hv
        omega
    | true =>
      have hr : (Num.grow true m e cut (true != true)).val = -(Num.grow true m e cut false).W := by
        rcases R.neg with k | k
        · have : (Num.grow true m e cut (true != true)).W = 0 := by unfold Num.W; rw [if_pos k]
          rcases Num.val_of R.may R.ok with q | q
          · show _ = -(Num.grow true m e cut (true != true)).W
            omega
          · exact q.2
        · unfold Num.val; rw [if_pos k]; rfl
      rw [hr]
      have r0 := W_nn _ R.may R.ok
      simp only [if_true] at hv
      rcases Num.val_of ms os with q | q
      · have : 0 ≤ s.W := W_nn s ms os
        show -(Num.grow true m e cut (true != true)).W ≤ s.val
        omega
      · rw [q.2] at hv ⊢
        rw [neg_mul] at hv
        have := dn s ms os (by
          intro k
          have e1 := Num.inf_of ms os k
          cases hn : s.neg with
          | true => exact hs (by rw [e1, hn])
          | false =>
            rw [e1, hn, Num.val_inf] at q
            have := pw_pos 1048640
            simp at q
            omega) (by omega)
        omega
end Go.Proofs.Ytoghalnnmhpfmaa.Ev

/- Products, quotients and sums are rounded as they ought to be: plain Lean. -/
namespace Go.Proofs.Ytoghalnnmhpfmaa.Ev
open Go

theorem cut_div {N d P e c : Int} (hd : 0 < d) (hP : 0 < P) (hs : pw e * c = d * P) :
    if decide (N % d ≠ 0) = true then N / d * pw e * c < N * P ∧ N * P < (N / d + 1) * pw e * c else N * P = N / d * pw e * c := by
  have e1 := Int.mul_ediv_add_emod N d
  have e2 := Int.emod_nonneg N (show d ≠ 0 by omega)
  have e3 := Int.emod_lt_of_pos N hd
  have a1 : ∀ q : Int, q * pw e * c = d * q * P := fun q => by rw [Int.mul_assoc, hs]; grind
  rw [a1, a1]
  split
  · rename_i h
    simp only [decide_eq_true_eq] at h
    constructor
    · exact Int.mul_lt_mul_of_pos_right (by omega) hP
    · refine Int.mul_lt_mul_of_pos_right ?_ hP
      have : d * (N / d + 1) = d * (N / d) + d := by grind
      omega
  · rename_i h
    simp only [decide_eq_true_eq, Classical.not_not] at h
    congr 1
    omega

/-- rounded to 64 bits: N / d, of a scale -/
theorem grow_div {neg up : Bool} {N d P e c : Int} (hd : 0 < d) (hP : 0 < P) (hs : pw e * c = d * P) (hc : 0 < c) (h1 : 9223372036854775808 ≤ N / d) (h2 : N / d < 18446744073709551616) (he : -4194303 ≤ e) (he' : e ≤ 4194303) :
    Best (Num.grow neg (N / d) e (decide (N % d ≠ 0)) (up != neg)) up (if neg then -(N * P) else N * P) c :=
  grow_best h1 h2 he he' hc (cut_div hd hP hs)

theorem mulF_best {a b : Num} (ha : a.Fin) (hb : b.Fin) (up : Bool) : Best (Num.mulF a b up) up (a.val * b.val) (pw 0) := by
  rw [Num.Fin.val_mul]
  have := ha.lo; have := ha.hi; have := ha.elo; have := ha.ehi
  have := hb.lo; have := hb.hi; have := hb.elo; have := hb.ehi
  have m1 : 9223372036854775808 * 9223372036854775808 ≤ a.m * b.m := Int.mul_le_mul ha.lo hb.lo (by decide) (by omega)
  have m2 : a.m * b.m ≤ 18446744073709551615 * 18446744073709551615 := Int.mul_le_mul (by omega) (by omega) (by omega) (by decide)
  have eW : a.W * b.W = a.m * b.m * (pw (a.e + b.e) * pw 0) := by
    rw [ha.W, hb.W]
    have e := pw_mul (e := a.e) (f := b.e) (by omega) (by omega) (by omega)
    have e1 : a.m * pw a.e * (b.m * pw b.e) = a.m * b.m * (pw a.e * pw b.e) := by grind
    rw [e1, e]; grind
  have p := pw_pos (a.e + b.e)
  have p0 := pw_pos 0
  have pp := Int.mul_pos p p0
  unfold Num.mulF
  rw [eW]
  generalize a.m * b.m = p' at *
  split
  · exact grow_div (by decide) pp (by rw [pw_63 (by omega)]; grind) p0 (by omega) (by omega) (by omega) (by omega)
  · exact grow_div (by decide) pp (by rw [pw_64 (by omega)]; grind) p0 (by omega) (by omega) (by omega) (by omega)

theorem div_bounds {N d : Int} (hd : 0 < d) {l u : Int} (h1 : d * l ≤ N) (h2 : N < d * u) : l ≤ N / d ∧ N / d < u :=
  ⟨(Int.le_ediv_iff_mul_le hd).2 (by rw [Int.mul_comm]; exact h1), Int.ediv_lt_of_lt_mul hd (by rw [Int.mul_comm]; exact h2)⟩

/-! ### sums -/
/-- what is cut off in two steps is what is cut off in one -/
theorem cut_two {N K D : Int} (hK : 0 < K) (hD : 0 < D) : N / K / D = N / (K * D) ∧ (decide (N % K ≠ 0) || decide (N / K % D ≠ 0)) = decide (N % (K * D) ≠ 0) := by
  have h0 : N / K / D = N / (K * D) := Int.ediv_ediv_of_nonneg (Int.le_of_lt hK)
  refine ⟨h0, ?_⟩
  have h : N % (K * D) = N % K + K * (N / K % D) := by
    have e1 := Int.mul_ediv_add_emod N K
    have e2 := Int.mul_ediv_add_emod (N / K) D
    have e3 := Int.mul_ediv_add_emod N (K * D)
    rw [h0] at e2
    have e4 : K * (D * (N / (K * D)) + N / K % D) = K * D * (N / (K * D)) + K * (N / K % D) := by rw [Int.mul_add, Int.mul_assoc]
    rw [e2] at e4
    omega
  have h1 := Int.emod_nonneg N (show K ≠ 0 by omega)
  have h2 := Int.emod_nonneg (N / K) (show D ≠ 0 by omega)
  have h3 : 0 ≤ K * (N / K % D) := Int.mul_nonneg (Int.le_of_lt hK) h2
  have h4 : N / K % D ≠ 0 → 0 < K * (N / K % D) := fun g => Int.mul_pos hK (by omega)
  rw [← Bool.decide_or, decide_eq_decide, h]
  generalize N / K % D = y at *
  by_cases g : y = 0
  · subst g; simp
  · have := h4 g
    constructor
    · intro _; omega
    · intro _; exact .inr g

theorem plus_eq {a b : Num} : plusX a b = (a.m * 2 ^ (a.e - b.e).toNat + b.m) * 18446744073709551616 / 2 ^ (a.e - b.e).toNat ∧ plusC a b = decide ((a.m * 2 ^ (a.e - b.e).toNat + b.m) * 18446744073709551616 % 2 ^ (a.e - b.e).toNat ≠ 0) := by
  have p := two_pos (a.e - b.e).toNat
  have e : (a.m * 2 ^ (a.e - b.e).toNat + b.m) * 18446744073709551616 = b.m * 18446744073709551616 + a.m * 18446744073709551616 * 2 ^ (a.e - b.e).toNat := by grind
  unfold plusX plusC
  rw [e]
  constructor
  · rw [Int.add_mul_ediv_right _ _ (by omega), Int.add_comm]
  · rw [Int.add_mul_emod_self_right]

theorem same_div {N M K D : Int} (hM : 0 < M) : N * M / (K * (M * D)) = N / (K * D) ∧ decide (N * M % (K * (M * D)) ≠ 0) = decide (N % (K * D) ≠ 0) := by
  have e : K * (M * D) = M * (K * D) := Int.mul_left_comm ..
  rw [e, Int.mul_comm N M]
  constructor
  · exact Int.mul_ediv_mul_of_pos _ _ hM
  · rw [Int.mul_emod_mul_of_pos _ _ hM, decide_eq_decide]
    constructor
    · intro h g; exact h (by rw [g]; simp)
    · intro h g
      rcases Int.mul_eq_zero.1 g with q | q
      · omega
      · exact h q

theorem plusP_best {a b : Num} (ha : a.Fin) (hb : b.Fin) (hk : b.e ≤ a.e) (hs : a.neg = b.neg) (up : Bool) : Best (plusP a b up) up (a.val + b.val) 1 := by
  have := ha.lo; have := ha.hi; have := ha.elo; have := ha.ehi
  have := hb.lo; have := hb.hi; have := hb.elo; have := hb.ehi
  have p := two_pos (a.e - b.e).toNat
  have pb := pw_pos b.e
  have ea := pw_split (e := b.e) (f := a.e) (by omega) hk
  have hv : a.val + b.val = if a.neg then -((a.m * 2 ^ (a.e - b.e).toNat + b.m) * pw b.e) else (a.m * 2 ^ (a.e - b.e).toNat + b.m) * pw b.e := by
    unfold Num.val
    rw [← hs, ha.W, hb.W, ea]
    cases a.neg <;> simp <;> grind
  rw [hv]
  unfold plusP
  rw [plus_eq.1, plus_eq.2]
  generalize hN : a.m * 2 ^ (a.e - b.e).toNat + b.m = N at *
  have b1 : 2 ^ (a.e - b.e).toNat * 9223372036854775808 ≤ N := by
    have : 9223372036854775808 * 2 ^ (a.e - b.e).toNat ≤ a.m * 2 ^ (a.e - b.e).toNat := Int.mul_le_mul_of_nonneg_right (by omega) (Int.le_of_lt p)
    omega
  have b2 : N < 2 ^ (a.e - b.e).toNat * 36893488147419103232 := by
    have h1 : a.m * 2 ^ (a.e - b.e).toNat ≤ 18446744073709551615 * 2 ^ (a.e - b.e).toNat := Int.mul_le_mul_of_nonneg_right (by omega) (Int.le_of_lt p)
    omega
  generalize (2 : Int) ^ (a.e - b.e).toNat = K at *
  obtain ⟨q1, q2⟩ := cut_two (N := N * 18446744073709551616) (K := K) (D := 18446744073709551616) p (by decide)
  obtain ⟨q3, q4⟩ := cut_two (N := N * 18446744073709551616) (K := K) (D := 36893488147419103232) p (by decide)
  obtain ⟨r1, r2⟩ := same_div (N := N) (M := 18446744073709551616) (K := K) (D := 1) (by decide)
  obtain ⟨r3, r4⟩ := same_div (N := N) (M := 18446744073709551616) (K := K) (D := 2) (by decide)
  rw [show (18446744073709551616 : Int) * 1 = 18446744073709551616 by decide] at r1 r2
  rw [show (18446744073709551616 : Int) * 2 = 36893488147419103232 by decide] at r3 r4
  rw [q2, q4, q1, q3, r1, r2, r3, r4, Int.mul_one]
  split
  · rename_i h
    have h3 : N / K < 18446744073709551616 := by
      rw [← Int.mul_one K, ← r1, ← q1]
      exact Int.ediv_lt_of_lt_mul (by decide) (by omega)
    exact grow_div p pb (by rw [ea]; grind) (by decide) (div_bounds p b1 b2).1 h3 (by omega) (by omega)
  · rename_i h
    have h3 : 9223372036854775808 ≤ N / (K * 2) := by
      rw [← r3, ← q3]
      exact (Int.le_ediv_iff_mul_le (by decide)).2 (by omega)
    exact grow_div (by omega) pb (by rw [pw_succ (by omega), ea]; grind) (by decide) h3 (Int.ediv_lt_of_lt_mul (by omega) (by omega)) (by omega) (by omega)

theorem neg_div {x K : Int} (hK : 0 < K) : (-x) / K = -(x / K) - (if decide (x % K ≠ 0) = true then 1 else 0) ∧ decide ((-x) % K ≠ 0) = decide (x % K ≠ 0) := by
  have e1 := Int.mul_ediv_add_emod x K
  have e2 := Int.emod_nonneg x (show K ≠ 0 by omega)
  have e3 := Int.emod_lt_of_pos x hK
  have f1 := Int.mul_ediv_add_emod (-x) K
  have f2 := Int.emod_nonneg (-x) (show K ≠ 0 by omega)
  have f3 := Int.emod_lt_of_pos (-x) hK
  have g : K * (x / K + (-x) / K) = -(x % K + (-x) % K) := by rw [Int.mul_add]; omega
  generalize x / K = p at *
  generalize (-x) / K = q at *
  generalize x % K = r at *
  generalize (-x) % K = s at *
  have h1 : p + q ≤ 0 := by
    rcases Int.lt_or_le 0 (p + q) with h | h
    · have := Int.mul_le_mul_of_nonneg_left (c := K) (show 1 ≤ p + q by omega) (by omega)
      omega
    · exact h
  have h2 : -1 ≤ p + q := by
    rcases Int.lt_or_le (p + q) (-1) with h | h
    · have := Int.mul_le_mul_of_nonneg_left (c := K) (show p + q ≤ -2 by omega) (by omega)
      omega
    · exact h
  rcases (show p + q = 0 ∨ p + q = -1 by omega) with h | h
  · rw [h] at g
    simp only [Int.mul_zero] at g
    have hr : r = 0 := by omega
    have hs : s = 0 := by omega
    subst hr; subst hs
    exact ⟨by simp; omega, rfl⟩
  · rw [h] at g
    have hr : r ≠ 0 := by intro hr; omega
    have hs : s ≠ 0 := by intro hs; omega
    exact ⟨by simp [hr]; omega, by simp [hr, hs]⟩

theorem minus_eq {a b : Num} : minusZ a b = (a.m * 2 ^ (a.e - b.e).toNat - b.m) * 18446744073709551616 / 2 ^ (a.e - b.e).toNat ∧
    plusC a b = decide ((a.m * 2 ^ (a.e - b.e).toNat - b.m) * 18446744073709551616 % 2 ^ (a.e - b.e).toNat ≠ 0) := by
  have p := two_pos (a.e - b.e).toNat
  have e : (a.m * 2 ^ (a.e - b.e).toNat - b.m) * 18446744073709551616 = -(b.m * 18446744073709551616) + a.m * 18446744073709551616 * 2 ^ (a.e - b.e).toNat := by grind
  obtain ⟨n1, n2⟩ := neg_div (x := b.m * 18446744073709551616) p
  unfold minusZ plusC
  rw [e]
  constructor
  · rw [Int.add_mul_ediv_right _ _ (by omega), n1]
    omega
  · rw [Int.add_mul_emod_self_right, n2]

theorem minusP_best {a b : Num} (ha : a.Fin) (hb : b.Fin) (hk : b.e ≤ a.e) (hgt : b.e < a.e ∨ b.m < a.m) (hs : a.neg ≠ b.neg) (up : Bool) : Best (minusP a b up) up (a.val + b.val) 1 := by
  have := ha.lo; have := ha.hi; have := ha.elo; have := ha.ehi
  have := hb.lo; have := hb.hi; have := hb.elo; have := hb.ehi
  have p := two_pos (a.e - b.e).toNat
  have ea := pw_split (e := b.e) (f := a.e) (by omega) hk
  have hv : a.val + b.val = if a.neg then -((a.m * 2 ^ (a.e - b.e).toNat - b.m) * 18446744073709551616 * pw (b.e - 64)) else (a.m * 2 ^ (a.e - b.e).toNat - b.m) * 18446744073709551616 * pw (b.e - 64) := by
    have e64 := pw_64 (e := b.e - 64) (by omega)
    rw [show b.e - 64 + 64 = b.e by omega] at e64
    have : (a.m * 2 ^ (a.e - b.e).toNat - b.m) * 18446744073709551616 * pw (b.e - 64) = a.m * pw a.e - b.m * pw b.e := by rw [ea, e64]; grind
    rw [this]
    unfold Num.val
    rw [ha.W, hb.W]
    have hbn : b.neg = !a.neg := by cases h : a.neg <;> cases h2 : b.neg <;> simp_all
    rw [hbn]
    cases a.neg <;> simp <;> omega
  obtain ⟨z0, z1, _, _, _⟩ := minus_parts ha hb hk hgt rfl rfl rfl rfl rfl
  obtain ⟨n, k1, k2, k3⟩ := blen_pos z0
  have bl := blen_le 128 (x := minusZ a b) (by exact z1)
  have pb := pw_pos (b.e - 64)
  rw [hv]
  unfold minusP
  obtain ⟨hZ, hC⟩ := minus_eq (a := a) (b := b)
  have hKN : a.m * 2 ^ (a.e - b.e).toNat - b.m ≥ 9223372036854775808 * 2 ^ (a.e - b.e).toNat - 18446744073709551616 := by
    have : 9223372036854775808 * 2 ^ (a.e - b.e).toNat ≤ a.m * 2 ^ (a.e - b.e).toNat := Int.mul_le_mul_of_nonneg_right (by omega) (Int.le_of_lt p)
    omega
  rw [hC]
  generalize hN : (a.m * 2 ^ (a.e - b.e).toNat - b.m) * 18446744073709551616 = N at *
  generalize minusZ a b = Z at *
  have big1 : 170141183460469231731687303715884105728 ≤ Z * 2 ^ (128 - blen Z).toNat := by
    have g : (170141183460469231731687303715884105728 : Int) = 2 ^ n * 2 ^ (128 - blen Z).toNat := by
      rw [← Int.pow_add, show n + (128 - blen Z).toNat = 127 by omega]; rfl
    rw [g]
    exact Int.mul_le_mul_of_nonneg_right k2 (Int.le_of_lt (two_pos _))
  have big2 : Z * 2 ^ (128 - blen Z).toNat < 340282366920938463463374607431768211456 := by
    have g : (340282366920938463463374607431768211456 : Int) = 2 ^ (n + 1) * 2 ^ (128 - blen Z).toNat := by
      rw [← Int.pow_add, show n + 1 + (128 - blen Z).toNat = 128 by omega]; rfl
    rw [g]
    exact Int.mul_lt_mul_of_pos_right k3 (two_pos _)
  have m1 : 9223372036854775808 ≤ Z * 2 ^ (128 - blen Z).toNat / 18446744073709551616 := by omega
  have m2 : Z * 2 ^ (128 - blen Z).toNat / 18446744073709551616 < 18446744073709551616 := by omega
  generalize hS : 128 - blen Z = s at *
  have s0 : 0 ≤ s := by omega
  by_cases h64 : s ≤ 64
  · have e64 := two_64 (k := s) s0 h64
    have q := two_pos s.toNat
    have q' := two_pos (64 - s).toNat
    obtain ⟨r1, r2⟩ := same_div (N := Z) (M := 2 ^ s.toNat) (K := 1) (D := 2 ^ (64 - s).toNat) q
    rw [Int.one_mul, Int.one_mul, Int.mul_comm (2 ^ s.toNat) (2 ^ (64 - s).toNat), ← e64] at r1 r2
    rw [r1] at m1 m2 ⊢
    rw [r2]
    obtain ⟨c1, c2⟩ := cut_two (N := N) (K := 2 ^ (a.e - b.e).toNat) (D := 2 ^ (64 - s).toNat) p q'
    rw [hZ] at m1 m2 ⊢
    rw [c1] at m1 m2
    rw [c1, c2]
    refine grow_div (Int.mul_pos p q') pb ?_ (by decide) m1 m2 (by omega) (by omega)
    rw [Int.mul_one, pw_split (e := b.e - 64) (f := a.e - s) (by omega) (by omega)]
    congr 1
    rw [← Int.pow_add]
    congr 1
    omega
  · have hz64 : Z < 18446744073709551616 := by
      have : (2 : Int) ^ (n + 1) ≤ 2 ^ 64 := by
        have := Nat.pow_le_pow_right (n := 2) (by omega) (show n + 1 ≤ 64 by omega)
        have e1 : ((2 ^ (n + 1) : Nat) : Int) = (2 : Int) ^ (n + 1) := by push_cast; rfl
        rw [← e1]; exact Int.ofNat_le.2 this
      have e2 : (2 : Int) ^ 64 = 18446744073709551616 := by decide
      omega
    have hcf : N % 2 ^ (a.e - b.e).toNat = 0 := by
      by_cases hk64 : a.e - b.e ≤ 64
      · have e64 := two_64 (k := a.e - b.e) (by omega) hk64
        rw [← hN, e64, ← Int.mul_assoc, Int.mul_emod_left]
      · exfalso
        have hK : 36893488147419103232 ≤ (2 : Int) ^ (a.e - b.e).toNat := by
          have := Nat.pow_le_pow_right (n := 2) (by omega) (show 65 ≤ (a.e - b.e).toNat by omega)
          have e1 : ((2 ^ (a.e - b.e).toNat : Nat) : Int) = (2 : Int) ^ (a.e - b.e).toNat := by push_cast; rfl
          rw [← e1]; exact Int.ofNat_le.2 this
        have : 18446744073709551616 ≤ N / 2 ^ (a.e - b.e).toNat := by
          refine (Int.le_ediv_iff_mul_le p).2 ?_
          rw [← hN]
          generalize (2 : Int) ^ (a.e - b.e).toNat = K at *
          generalize a.m * K - b.m = M at *
          omega
        omega
    have e1 : Z * 2 ^ s.toNat = Z * 2 ^ (s - 64).toNat * 18446744073709551616 := by
      rw [Int.mul_assoc]
      congr 1
      rw [show (18446744073709551616 : Int) = 2 ^ 64 by decide, ← Int.pow_add]
      congr 1
      omega
    have e2 : Z * 2 ^ s.toNat % 18446744073709551616 = 0 := by rw [e1]; exact Int.mul_emod_left _ _
    have e3 : Z * 2 ^ s.toNat / 18446744073709551616 = Z * 2 ^ (s - 64).toNat := by rw [e1]; exact Int.mul_ediv_cancel _ (by decide)
    rw [hcf, e2]
    refine grow_best (cut := _) m1 m2 (by omega) (by omega) (by decide) ?_
    simp only [ne_eq, not_true_eq_false, decide_false, Bool.or_self, Bool.false_eq_true, if_false]
    rw [e3, Int.mul_one]
    have e4 : N = Z * 2 ^ (a.e - b.e).toNat := by
      have := Int.mul_ediv_add_emod N (2 ^ (a.e - b.e).toNat)
      rw [← hZ, hcf] at this
      rw [Int.mul_comm Z]
      omega
    have e5 := pw_split (e := b.e - 64) (f := a.e - 64) (by omega) (by omega)
    rw [show a.e - 64 - (b.e - 64) = a.e - b.e by omega] at e5
    have e6 := pw_split (e := a.e - s) (f := a.e - 64) (by omega) (by omega)
    rw [show a.e - 64 - (a.e - s) = s - 64 by omega] at e6
    rw [e4, Int.mul_assoc, ← e5, e6, Int.mul_assoc]

/-! ### the operations on any numbers -/
theorem Best.self {r : Num} {up : Bool} (m : r.may = true) (o : r.ok) (k : r.kind ≠ 2) {t c : Int} (hc : 0 < c) (ht : r.val * c = t) : Best r up t c := by
  have n : ∀ b, r ≠ Num.inf b := fun b g => k (by rw [g]; rfl)
  refine ⟨m, o, fun _ => ⟨n _, .inr (by omega)⟩, fun _ x _ _ _ hx => ?_, fun _ x _ _ _ hx => ?_, fun _ => ⟨n _, .inr (by omega)⟩⟩
  · exact Int.le_of_mul_le_mul_right (a := c) (by omega) hc
  · exact Int.le_of_mul_le_mul_right (a := c) (by omega) hc

theorem Num.fair_fin {a : Num} (oa : a.ok) (k0 : a.fair.kind ≠ 0) (k2 : a.fair.kind ≠ 2) : a.fair.Fin := by
  rcases Num.may3 a.fair_may (Num.fair_ok oa) with h | h | h
  · rw [h] at k0; simp [Num.zero] at k0
  · exact h
  · rw [h] at k2; simp [Num.inf] at k2
theorem Num.fair_zero {a : Num} (oa : a.ok) (k0 : a.fair.kind = 0) : a.fair = Num.zero := by
  rcases Num.may3 a.fair_may (Num.fair_ok oa) with h | h | h
  · exact h
  · have := h.kind; omega
  · rw [h] at k0; simp [Num.inf] at k0

theorem mul_best {a b : Num} (oa : a.ok) (ob : b.ok) (ka : a.fair.kind ≠ 2) (kb : b.fair.kind ≠ 2) (up : Bool) : Best (Num.mul a b up) up (a.fair.val * b.fair.val) (pw 0) := by
  unfold Num.mul
  by_cases h : a.fair.kind = 0 ∨ b.fair.kind = 0
  · rw [if_pos h]
    refine Best.self Num.zero_may Num.zero_ok (by decide) (pw_pos 0) ?_
    rw [Num.val_zero]
    rcases h with h | h
    · rw [Num.fair_zero oa h, Num.val_zero]; simp
    · rw [Num.fair_zero ob h, Num.val_zero]; simp
  · rw [if_neg h, if_neg (by omega)]
    exact mulF_best (Num.fair_fin oa (by omega) ka) (Num.fair_fin ob (by omega) kb) up

theorem addS_best {a b : Num} (ha : a.Fin) (hb : b.Fin) (hk : b.e < a.e ∨ (b.e = a.e ∧ b.m ≤ a.m)) (up : Bool) : Best (Num.addS a b up) up (a.val + b.val) 1 := by
  unfold Num.addS
  split
  · exact plusP_best ha hb (by omega) ‹_› up
  · rename_i hn
    split
    · rename_i h
      refine Best.self Num.zero_may Num.zero_ok (by decide) (by decide) ?_
      rw [Num.val_zero]
      unfold Num.val
      rw [ha.W, hb.W, h.1, h.2]
      have hbn : b.neg = !a.neg := by cases h : a.neg <;> cases h2 : b.neg <;> simp_all
      rw [hbn]
      cases a.neg <;> simp <;> omega
    · exact minusP_best ha hb (by omega) (by omega) hn up

theorem add_best {a b : Num} (oa : a.ok) (ob : b.ok) (ka : a.fair.kind ≠ 2) (kb : b.fair.kind ≠ 2) (up : Bool) : Best (Num.add a b up) up (a.fair.val + b.fair.val) 1 := by
  unfold Num.add
  rw [if_neg (by omega)]
  split
  · rename_i h
    have h : b.fair.kind = 0 := by omega
    exact Best.self a.fair_may (Num.fair_ok oa) ka (by decide) (by rw [Num.fair_zero ob h, Num.val_zero]; omega)
  · split
    · rename_i h
      have h : a.fair.kind = 0 := by omega
      exact Best.self b.fair_may (Num.fair_ok ob) kb (by decide) (by rw [Num.fair_zero oa h, Num.val_zero]; omega)
    · have FA := Num.fair_fin oa (by omega) ka
      have FB := Num.fair_fin ob (by omega) kb
      unfold Num.addF
      split
      · rw [Int.add_comm]; exact addS_best FB FA (by omega) up
      · exact addS_best FA FB (by omega) up

end Go.Proofs.Ytoghalnnmhpfmaa.Ev

/- The reference's rounding is the best; its products and quotients are the program's: plain Lean. -/
namespace Go.Proofs.Ytoghalnnmhpfmaa.Ev
open Go

/-- an odd number times a power of two, as a value -/
def dyv (p : Bool × Nat × Int) : Int := if p.1 then -((p.2.1 : Int) * pw p.2.2) else (p.2.1 : Int) * pw p.2.2
theorem bound_grow {neg away : Bool} {m e : Int} : Num.bound neg m e away = Num.grow neg m e false away := by
  unfold Num.grow; rw [if_neg (by simp)]

theorem Best.scale {r : Num} {up : Bool} {t c : Int} (h : Best r up t 1) (hc : 0 < c) : Best r up (t * c) c := by
  refine ⟨h.may, h.ok, fun u => ⟨(h.down u).1, ?_⟩, fun u s ms os ks hs => ?_, fun u s ms os ks hs => ?_, fun u => ⟨(h.hi u).1, ?_⟩⟩
  · rcases (h.down u).2 with k | k
    · exact .inl k
    · exact .inr (Int.mul_le_mul_of_nonneg_right (by omega) (Int.le_of_lt hc))
  · exact h.dopt u s ms os ks (by have := Int.le_of_mul_le_mul_right hs hc; omega)
  · exact h.uopt u s ms os ks (by have := Int.le_of_mul_le_mul_right hs hc; omega)
  · rcases (h.hi u).2 with k | k
    · exact .inl k
    · exact .inr (Int.mul_le_mul_of_nonneg_right (by omega) (Int.le_of_lt hc))

/-- rounded: odd numbers -/
theorem rnd_best {ng : Bool} {k : Nat} {e : Int} (up : Bool) (hk : k % 2 = 1) (he : -4190000 ≤ e) (he' : e + blen (k : Int) ≤ 4194000) :
    Best (rnd ng k e up) up (dyv (ng, k, e)) 1 := by
  have k0 : 0 < k := by omega
  obtain ⟨n, h1, h2, h3⟩ := blen_rng k0
  unfold rnd
  rw [if_neg (by omega)]
  show Best _ up (if ng = true then -((k : Int) * pw e) else (k : Int) * pw e) 1
  split
  · rename_i b
    have f := rnd_few k0 b
    rw [bound_grow]
    obtain ⟨s, hs⟩ : ∃ s : Nat, (64 - blen (k : Int)).toNat = s := ⟨_, rfl⟩
    have es : blen (k : Int) = 64 - (s : Int) := by omega
    have hsn : s + n = 63 := by omega
    rw [hs] at f ⊢
    rw [es]
    have lo : 9223372036854775808 ≤ k * 2 ^ s := by
      have : 2 ^ n * 2 ^ s ≤ k * 2 ^ s := Nat.mul_le_mul_right _ h2
      rw [← Nat.pow_add, show n + s = 63 by omega] at this
      have : (2 : Nat) ^ 63 = 9223372036854775808 := by decide
      omega
    refine grow_best (by omega) (by omega) (by omega) (by omega) (by decide) ?_
    rw [if_neg (by decide)]
    have e1 := pw_add (e := e + (64 - (s : Int)) - 64) (f := s) (by omega) (by omega)
    rw [show e + (64 - (s : Int)) - 64 + s = e by omega, Int.toNat_natCast] at e1
    rw [e1]
    push_cast
    grind
  · rename_i b
    have f := rnd_many k0 (by omega)
    obtain ⟨s, hs⟩ : ∃ s : Nat, (blen (k : Int) - 64).toNat = s := ⟨_, rfl⟩
    have es : blen (k : Int) = 64 + (s : Int) := by omega
    rw [hs] at f ⊢
    rw [es]
    refine grow_best (by omega) (by omega) (by omega) (by omega) (by decide) ?_
    rw [if_pos rfl]
    have e1 := pw_add (e := e) (f := s) (by omega) (by omega)
    rw [Int.toNat_natCast] at e1
    rw [show e + (64 + (s : Int)) - 64 = e + s by omega, e1]
    have p := pw_pos e
    have p2 : 0 < 2 ^ s := Nat.pow_pos (by decide)
    have ev : 2 ^ s % 2 = 0 := by
      have : s = (s - 1) + 1 := by omega
      rw [this, Nat.pow_succ]; omega
    have dm := Nat.div_add_mod k (2 ^ s)
    have dl := Nat.mod_lt k p2
    have nz : k % 2 ^ s ≠ 0 := by
      intro z
      rw [z] at dm
      have : k % 2 = 0 := by rw [← dm, Nat.add_zero, Nat.mul_mod, ev]; simp
      omega
    have c2 : ((2 ^ s : Nat) : Int) = (2 : Int) ^ s := by push_cast; rfl
    have a1 : (((k / 2 ^ s : Nat)) : Int) * (pw e * 2 ^ s) * 1 = ((2 ^ s * (k / 2 ^ s) : Nat) : Int) * pw e := by push_cast; grind
    have a2 : (((k / 2 ^ s : Nat) : Int) + 1) * (pw e * 2 ^ s) * 1 = ((2 ^ s * (k / 2 ^ s) + 2 ^ s : Nat) : Int) * pw e := by push_cast; grind
    rw [a1, a2]
    constructor
    · exact Int.mul_lt_mul_of_pos_right (by omega) p
    · exact Int.mul_lt_mul_of_pos_right (by omega) p

theorem dyMake_odd {ng : Bool} {k : Nat} {e : Int} (hk : k % 2 = 1) (he : -4194304 ≤ e) (he' : e ≤ 4194304) : dyMake ng k e = (ng, k, e) := by
  unfold dyMake
  have v : v2 k = 0 := v2_odd (by omega)
  rw [if_neg (by omega), if_neg (by omega), v]
  simp
theorem dyMake_zero (ng : Bool) (e : Int) : dyMake ng 0 e = (false, 0, 0) := by unfold dyMake; rw [if_pos (.inl rfl)]
theorem v2_blen {k : Nat} (h : 0 < k) : (v2 k : Int) < blen (k : Int) := by
  obtain ⟨n, h1, h2, h3⟩ := blen_rng h
  have := v2_lt h h3
  omega
/-- made: the same value, odd -/
theorem dyMake_val {ng : Bool} {k : Nat} {e : Int} (h : 0 < k) (he : -4194304 ≤ e) (he' : e + v2 k ≤ 4194304) :
    (dyMake ng k e).2.1 % 2 = 1 ∧ (dyMake ng k e).1 = ng ∧ (dyMake ng k e).2.2 = e + v2 k ∧ (dyMake ng k e).2.1 * 2 ^ v2 k = k ∧ ((dyMake ng k e).2.1 : Int) * pw (dyMake ng k e).2.2 = k * pw e ∧
      blen ((dyMake ng k e).2.1 : Int) + v2 k = blen (k : Int) := by
  have s := v2_spec k h
  have E : dyMake ng k e = (ng, k / 2 ^ v2 k, e + v2 k) := by
    unfold dyMake
    rw [if_neg (by omega), if_neg (by omega)]
  rw [E]
  refine ⟨s.2.1, rfl, rfl, s.1, ?_, ?_⟩
  · show ((k / 2 ^ v2 k : Nat) : Int) * pw (e + v2 k) = k * pw e
    have e1 := pw_add (e := e) (f := v2 k) (by omega) (by omega)
    rw [Int.toNat_natCast] at e1
    rw [e1]
    have c := congrArg (fun n : Nat => (n : Int)) s.1
    push_cast at c ⊢
    have : (k : Int) / 2 ^ v2 k * (pw e * 2 ^ v2 k) = (k : Int) / 2 ^ v2 k * 2 ^ v2 k * pw e := by grind
    rw [this, c]
  · show blen ((k / 2 ^ v2 k : Nat) : Int) + v2 k = blen (k : Int)
    have c : (2 : Int) ^ v2 k ≤ (k : Int) := by have := s.2.2; exact_mod_cast this
    have := blen_div (x := (k : Int)) (v2 k) c
    have e2 : ((k / 2 ^ v2 k : Nat) : Int) = (k : Int) / 2 ^ v2 k := by push_cast; rfl
    rw [e2]
    omega

/-- an exact finite number -/
theorem exact_fin {n : Num} (h : n.Fin) : n.exact.2 = true ∧ n.exact.1.1 = n.neg ∧ n.exact.1.2.1 % 2 = 1 ∧ -1048576 ≤ n.exact.1.2.2 ∧ n.exact.1.2.2 ≤ 1048640 ∧ (n.exact.1.2.1 : Int) * pw n.exact.1.2.2 = n.W ∧
    n.exact.1.2.1 < 18446744073709551616 ∧ n.e ≤ n.exact.1.2.2 := by
  have lo := h.lo
  have hi := h.hi
  have elo := h.elo
  have ehi := h.ehi
  have hk := h.kind
  have v := v2_lt (n := n.m.toNat) (k := 64) (by omega) (by show n.m.toNat < 18446744073709551616; omega)
  have d := dyMake_val (ng := n.neg) (k := n.m.toNat) (e := n.e) (by omega) (by omega) (by omega)
  have r := dyMake_rng n.neg n.m.toNat n.e
  unfold Num.exact
  rw [if_neg (by rw [h.may, hk]; decide), if_neg (by rw [hk]; decide)]
  refine ⟨rfl, d.2.1, d.1, ?_, ?_, ?_, ?_, ?_⟩
  · show -1048576 ≤ (dyMake n.neg n.m.toNat n.e).2.2; omega
  · show (dyMake n.neg n.m.toNat n.e).2.2 ≤ 1048640; omega
  · show ((dyMake n.neg n.m.toNat n.e).2.1 : Int) * pw (dyMake n.neg n.m.toNat n.e).2.2 = _
    rw [d.2.2.2.2.1, h.W, show ((n.m.toNat : Nat) : Int) = n.m by omega]
  · show (dyMake n.neg n.m.toNat n.e).2.1 < _; omega
  · show n.e ≤ (dyMake n.neg n.m.toNat n.e).2.2; omega
theorem dyNorm_odd {p : Bool × Nat × Int} (hk : p.2.1 % 2 = 1) (he : -4194304 ≤ p.2.2) (he' : p.2.2 ≤ 4194304) : dyNorm p = p := dyMake_odd hk he he'
end Go.Proofs.Ytoghalnnmhpfmaa.Ev

/- The reference's quotients are the program's: plain Lean. -/
namespace Go.Proofs.Ytoghalnnmhpfmaa.Ev
open Go

/-- rounded with a bit that is there alone to be cut off -/
theorem rnd_cut {ng : Bool} {k : Nat} {e : Int} (up : Bool) (hk : k % 2 = 1) (hb : 64 < blen (k : Int)) :
    ∃ s : Nat, 1 ≤ s ∧ blen (k : Int) = 64 + s ∧ rnd ng k e up = Num.grow ng ((k / 2 ^ s : Nat) : Int) (e + s) true (up != ng) ∧ 9223372036854775808 ≤ k / 2 ^ s ∧ k / 2 ^ s < 18446744073709551616 ∧
      2 ^ s * (k / 2 ^ s) + 1 ≤ k ∧ k + 1 ≤ 2 ^ s * (k / 2 ^ s) + 2 ^ s := by
  have k0 : 0 < k := by omega
  have f := rnd_many k0 hb
  obtain ⟨s, hs⟩ : ∃ s : Nat, (blen (k : Int) - 64).toNat = s := ⟨_, rfl⟩
  have es : blen (k : Int) = 64 + (s : Int) := by omega
  rw [hs] at f
  have p2 : 0 < 2 ^ s := Nat.pow_pos (by decide)
  have ev : 2 ^ s % 2 = 0 := by
    have : s = (s - 1) + 1 := by omega
    rw [this, Nat.pow_succ]; omega
  have dm := Nat.div_add_mod k (2 ^ s)
  have dl := Nat.mod_lt k p2
  have nz : k % 2 ^ s ≠ 0 := by
    intro z
    rw [z] at dm
    have : k % 2 = 0 := by rw [← dm, Nat.add_zero, Nat.mul_mod, ev]; simp
    omega
  refine ⟨s, by omega, es, ?_, f.1, f.2, by omega, by omega⟩
  unfold rnd
  rw [if_neg (by omega), if_neg (by omega), hs, show e + blen (k : Int) - 64 = e + s by omega]

/-- rounded, as a number grown -/
theorem rnd_form {ng : Bool} {k : Nat} {e : Int} (up : Bool) (hk : k % 2 = 1) (he : -4190000 ≤ e) :
    ∃ (m e' : Int) (cut : Bool), rnd ng k e up = Num.grow ng m e' cut (up != ng) ∧ 9223372036854775808 ≤ m ∧ m < 18446744073709551616 ∧ e' = e + blen (k : Int) - 64 ∧
      (if cut then m * pw e' < k * pw e else m * pw e' = k * pw e) ∧ k * pw e < (m + 1) * pw e' := by
  have k0 : 0 < k := by omega
  have p := pw_pos e
  rcases Int.lt_or_le 64 (blen (k : Int)) with b | b
  · obtain ⟨s, h1, h2, h3, h4, h5, h6, h7⟩ := rnd_cut (ng := ng) (e := e) up hk b
    refine ⟨_, _, _, h3, by omega, by omega, by omega, ?_, ?_⟩
    all_goals
      have e1 := pw_add (e := e) (f := s) (by omega) (by omega)
      rw [Int.toNat_natCast] at e1
      rw [e1]
    · rw [if_pos rfl]
      have a1 : (((k / 2 ^ s : Nat)) : Int) * (pw e * 2 ^ s) = ((2 ^ s * (k / 2 ^ s) : Nat) : Int) * pw e := by push_cast; grind
      rw [a1]
      exact Int.mul_lt_mul_of_pos_right (by omega) p
    · have a2 : (((k / 2 ^ s : Nat) : Int) + 1) * (pw e * 2 ^ s) = ((2 ^ s * (k / 2 ^ s) + 2 ^ s : Nat) : Int) * pw e := by push_cast; grind
      rw [a2]
      exact Int.mul_lt_mul_of_pos_right (by omega) p
  · obtain ⟨n, h1, h2, h3⟩ := blen_rng k0
    have f := rnd_few k0 b
    obtain ⟨s, hs⟩ : ∃ s : Nat, (64 - blen (k : Int)).toNat = s := ⟨_, rfl⟩
    have es : blen (k : Int) = 64 - (s : Int) := by omega
    have hsn : s + n = 63 := by omega
    rw [hs] at f
    have lo : 9223372036854775808 ≤ k * 2 ^ s := by
      have : 2 ^ n * 2 ^ s ≤ k * 2 ^ s := Nat.mul_le_mul_right _ h2
      rw [← Nat.pow_add, show n + s = 63 by omega] at this
      have : (2 : Nat) ^ 63 = 9223372036854775808 := by decide
      omega
    have e1 := pw_add (e := e - (s : Int)) (f := s) (by omega) (by omega)
    rw [show e - (s : Int) + s = e by omega, Int.toNat_natCast] at e1
    have a1 : (((k * 2 ^ s : Nat)) : Int) * pw (e - s) = k * pw e := by rw [e1]; push_cast; grind
    refine ⟨((k * 2 ^ s : Nat) : Int), e - s, false, ?_, by omega, by omega, by omega, ?_, ?_⟩
    · unfold rnd
      rw [if_neg (by omega), if_pos b, bound_grow, hs, show e + blen (k : Int) - 64 = e - s by omega]
    · rw [if_neg (by decide)]; exact a1
    · have q := pw_pos (e - (s : Int))
      have a2 : ((((k * 2 ^ s : Nat)) : Int) + 1) * pw (e - s) = (((k * 2 ^ s : Nat)) : Int) * pw (e - s) + pw (e - s) := by grind
      omega

end Go.Proofs.Ytoghalnnmhpfmaa.Ev

/- Contracts of the reference: the ratio of two whole numbers. Printed by gen.py. -/
namespace Go.Proofs.Ytoghalnnmhpfmaa.Ev
open Go Go.Proofs
set_option linter.unusedVariables false
set_option linter.unusedSimpArgs false

attribute [local irreducible] Lb
end Go.Proofs.Ytoghalnnmhpfmaa.Ev

/- The reference's sums are the program's: plain Lean. -/
namespace Go.Proofs.Ytoghalnnmhpfmaa.Ev
open Go

/-- the sum of two whole numbers with signs -/
def wsum (na : Bool) (ka : Nat) (nb : Bool) (kb : Nat) : Bool × Nat :=
  if na = nb then (na && decide (ka + kb ≠ 0), ka + kb) else if ka < kb then (nb && decide (kb - ka ≠ 0), kb - ka) else (na && decide (ka - kb ≠ 0), ka - kb)
def sv (n : Bool) (k : Nat) : Int := if n then -(k : Int) else k
theorem wsum_val (na nb : Bool) (ka kb : Nat) : sv (wsum na ka nb kb).1 (wsum na ka nb kb).2 = sv na ka + sv nb kb := by
  have z : ∀ (n : Bool) (k : Nat), sv (n && decide (k ≠ 0)) k = sv n k := by
    intro n k
    by_cases h : k = 0
    · subst h; cases n <;> simp [sv]
    · rw [decide_eq_true h, Bool.and_true]
  unfold wsum
  split
  · rename_i h
    subst h
    show sv (na && decide (ka + kb ≠ 0)) (ka + kb) = _
    rw [z]; unfold sv; split <;> omega
  · rename_i h
    split
    · show sv (nb && decide (kb - ka ≠ 0)) (kb - ka) = _
      rw [z]; cases na <;> cases nb <;> simp [sv] at h ⊢ <;> omega
    · show sv (na && decide (ka - kb ≠ 0)) (ka - kb) = _
      rw [z]; cases na <;> cases nb <;> simp [sv] at h ⊢ <;> omega
theorem wsum_le (na nb : Bool) (ka kb : Nat) : (wsum na ka nb kb).2 ≤ ka + kb := by
  unfold wsum
  split
  · exact Nat.le_refl _
  · split
    · show kb - ka ≤ _; omega
    · show ka - kb ≤ _; omega
theorem dyv_sv (p : Bool × Nat × Int) : dyv p = sv p.1 p.2.1 * pw p.2.2 := by
  unfold dyv sv
  split
  · rw [Int.neg_mul]
  · rfl
def dyAlign (lo hi : Bool × Nat × Int) : Bool × Nat × Int :=
  dyMake (wsum lo.1 lo.2.1 (hi.1 && decide (hi.2.1 * 2 ^ (hi.2.2 - lo.2.2).toNat ≠ 0)) (hi.2.1 * 2 ^ (hi.2.2 - lo.2.2).toNat)).1 (wsum lo.1 lo.2.1 (hi.1 && decide (hi.2.1 * 2 ^ (hi.2.2 - lo.2.2).toNat ≠ 0)) (hi.2.1 * 2 ^ (hi.2.2 - lo.2.2).toNat)).2 lo.2.2
def dyPlus (p q : Bool × Nat × Int) : Bool × Nat × Int :=
  if (dyNorm p).2.1 = 0 then dyNorm q else if (dyNorm q).2.1 = 0 then dyNorm p else if (dyNorm q).2.2 < (dyNorm p).2.2 then dyAlign (dyNorm q) (dyNorm p) else dyAlign (dyNorm p) (dyNorm q)
def Num.radd (x y : Num) (up : Bool) : Num :=
  if x.fair.kind = 2 ∧ y.fair.kind = 2 ∧ x.fair.neg ≠ y.fair.neg then Num.inf (!up) else if x.fair.kind = 2 then x.fair else if y.fair.kind = 2 then y.fair else dyRound (dyPlus x.fair.exact.1 y.fair.exact.1) up

/-- a number as an odd one times a power of two; or nought -/
structure Dy (p : Bool × Nat × Int) (t : Int) : Prop where
  odd : p = (false, 0, 0) ∨ p.2.1 % 2 = 1
  lo : -1048576 ≤ p.2.2
  hi : p.2.2 ≤ 1048640
  lt : p.2.1 < 18446744073709551616
  val : dyv p = t
theorem Dy.norm {p : Bool × Nat × Int} {t : Int} (h : Dy p t) : dyNorm p = p := by
  rcases h.odd with k | k
  · rw [k]; exact dyMake_zero _ _
  · have := h.lo; have := h.hi
    exact dyNorm_odd k (by omega) (by omega)
theorem exact_dy {x : Num} (ox : x.ok) (k : x.fair.kind ≠ 2) : Dy x.fair.exact.1 x.fair.val := by
  by_cases k0 : x.fair.kind = 0
  · rw [Num.fair_zero ox k0]
    have e : Num.zero.exact.1 = (false, 0, 0) := by unfold Num.exact; rfl
    rw [e]
    exact ⟨.inl rfl, by decide, by decide, by decide, by simp [dyv, Num.val_zero]⟩
  · have F := Num.fair_fin ox k0 k
    obtain ⟨x1, x2, x3, x4, x5, x6, x7, _⟩ := exact_fin F
    refine ⟨.inr x3, x4, x5, x7, ?_⟩
    unfold dyv Num.val
    rw [x2, x6]
theorem round_zero (up : Bool) : dyRound (false, 0, 0) up = Num.zero := by
  unfold dyRound
  rw [show dyNorm (false, 0, 0) = (false, 0, 0) from dyMake_zero _ _]
  unfold rnd; rfl
/-- rounded, if it is odd and not far, or nought -/
theorem round_best {p : Bool × Nat × Int} (up : Bool) (h : p = (false, 0, 0) ∨ p.2.1 % 2 = 1) (lo : -4190000 ≤ p.2.2) (hi : p.2.2 + blen (p.2.1 : Int) ≤ 4194000) : Best (dyRound p up) up (dyv p) 1 := by
  rcases h with h | h
  · rw [h, round_zero]
    exact Best.self Num.zero_may Num.zero_ok (by decide) (by decide) (by simp [dyv, Num.val_zero])
  · have b := blen_nonneg (p.2.1 : Int)
    unfold dyRound
    rw [dyNorm_odd h (by omega) (by omega)]
    exact rnd_best up h lo hi
theorem dyAlign_best {lo hi : Bool × Nat × Int} {t u : Int} (up : Bool) (hl : Dy lo t) (hh : Dy hi u) (hle : lo.2.2 ≤ hi.2.2) : Best (dyRound (dyAlign lo hi) up) up (t + u) 1 := by
  have l1 := hl.lo
  have l2 := hh.hi
  have l3 := hl.lt
  have l4 := hh.lt
  obtain ⟨d, hd⟩ : ∃ d : Nat, (hi.2.2 - lo.2.2).toNat = d := ⟨_, rfl⟩
  have eh := pw_add (e := lo.2.2) (f := d) (by omega) (by omega)
  rw [show lo.2.2 + (d : Int) = hi.2.2 by omega, Int.toNat_natCast] at eh
  have bl : hi.2.1 * 2 ^ d + lo.2.1 < 2 ^ (d + 65) := by
    have p2 : 0 < 2 ^ d := Nat.pow_pos (by decide)
    rw [Nat.pow_add]
    have a1 : (hi.2.1 + 1) * 2 ^ d ≤ 18446744073709551616 * 2 ^ d := Nat.mul_le_mul_right _ (by omega)
    have a2 : 18446744073709551616 * 1 ≤ 18446744073709551616 * 2 ^ d := Nat.mul_le_mul_left _ p2
    have a3 : (2 : Nat) ^ d * 2 ^ 65 = 18446744073709551616 * 2 ^ d + 18446744073709551616 * 2 ^ d := by
      rw [show (2 : Nat) ^ 65 = 18446744073709551616 + 18446744073709551616 by decide, Nat.mul_add, Nat.mul_comm]
    have a4 : (hi.2.1 + 1) * 2 ^ d = hi.2.1 * 2 ^ d + 2 ^ d := by rw [Nat.add_mul, Nat.one_mul]
    omega
  have W := wsum_val lo.1 (hi.1 && decide (hi.2.1 * 2 ^ d ≠ 0)) lo.2.1 (hi.2.1 * 2 ^ d)
  have Wl := wsum_le lo.1 (hi.1 && decide (hi.2.1 * 2 ^ d ≠ 0)) lo.2.1 (hi.2.1 * 2 ^ d)
  have z : sv (hi.1 && decide (hi.2.1 * 2 ^ d ≠ 0)) (hi.2.1 * 2 ^ d) = sv hi.1 (hi.2.1 * 2 ^ d) := by
    by_cases h : hi.2.1 * 2 ^ d = 0
    · rw [h]; cases hi.1 <;> simp [sv]
    · rw [decide_eq_true h, Bool.and_true]
  rw [z] at W
  unfold dyAlign
  rw [hd]
  generalize wsum lo.1 lo.2.1 (hi.1 && decide (hi.2.1 * 2 ^ d ≠ 0)) (hi.2.1 * 2 ^ d) = w at *
  have V : sv w.1 w.2 * pw lo.2.2 = t + u := by
    rw [W, ← hl.val, ← hh.val, dyv_sv, dyv_sv, eh]
    unfold sv
    split <;> split <;> push_cast <;> grind
  rcases Nat.eq_zero_or_pos w.2 with h0 | h0
  · rw [h0, dyMake_zero, round_zero]
    refine Best.self Num.zero_may Num.zero_ok (by decide) (by decide) ?_
    rw [← V, h0, Num.val_zero]
    unfold sv; split <;> simp
  · have v := v2_blen h0
    have bw : blen (w.2 : Int) ≤ d + 65 := by
      have : w.2 < 2 ^ (d + 65) := by omega
      have := blen_le (x := (w.2 : Int)) (d + 65) (by exact_mod_cast this)
      omega
    obtain ⟨d1, d2, d3, d4, d5, d6⟩ := dyMake_val (ng := w.1) (k := w.2) (e := lo.2.2) h0 (by omega) (by omega)
    generalize dyMake w.1 w.2 lo.2.2 = P at *
    have := round_best (p := P) up (.inr d1) (by omega) (by omega)
    rw [← V]
    have eV : dyv P = sv w.1 w.2 * pw lo.2.2 := by
      unfold dyv sv; rw [d2, d5]; split
      · rw [Int.neg_mul]
      · rfl
    rw [← eV]; exact this

/-- THE SUM of the reference is the program's. -/
theorem radd_eq {x y : Num} (ox : x.ok) (oy : y.ok) (up : Bool) : Num.radd x y up = Num.add x y up := by
  by_cases k0 : x.fair.kind = 2 ∧ y.fair.kind = 2 ∧ x.fair.neg ≠ y.fair.neg
  · unfold Num.radd Num.add; rw [if_pos k0, if_pos k0]
  by_cases k1 : x.fair.kind = 2
  · unfold Num.radd Num.add; rw [if_neg k0, if_pos k1, if_neg k0, if_pos (.inl k1)]
  by_cases k2 : y.fair.kind = 2
  · unfold Num.radd Num.add
    rw [if_neg k0, if_neg k1, if_pos k2, if_neg k0, if_neg (by omega), if_pos (.inl k2)]
  have B := add_best ox oy k1 k2 up
  have R : Best (Num.radd x y up) up (x.fair.val + y.fair.val) 1 := by
    have DX := exact_dy ox k1
    have DY := exact_dy oy k2
    unfold Num.radd
    rw [if_neg k0, if_neg k1, if_neg k2]
    generalize x.fair.exact.1 = X at *
    generalize y.fair.exact.1 = Y at *
    have bx : blen (X.2.1 : Int) ≤ 64 := blen_le 64 (by have := DX.lt; show (X.2.1 : Int) < 18446744073709551616; omega)
    have bY : blen (Y.2.1 : Int) ≤ 64 := blen_le 64 (by have := DY.lt; show (Y.2.1 : Int) < 18446744073709551616; omega)
    have := DX.lo; have := DX.hi; have := DY.lo; have := DY.hi
    unfold dyPlus
    rw [DX.norm, DY.norm]
    split
    · rename_i z
      have e : x.fair.val = 0 := by rw [← DX.val]; unfold dyv; rw [z]; split <;> simp
      rw [e, Int.zero_add, ← DY.val]
      exact round_best up DY.odd (by omega) (by omega)
    · split
      · rename_i z
        have e : y.fair.val = 0 := by rw [← DY.val]; unfold dyv; rw [z]; split <;> simp
        rw [e, Int.add_zero, ← DX.val]
        exact round_best up DX.odd (by omega) (by omega)
      · split
        · rw [Int.add_comm]; exact dyAlign_best up DY DX (by omega)
        · exact dyAlign_best up DX DY (by omega)
  exact R.uniq B (by decide) (by decide) rfl
end Go.Proofs.Ytoghalnnmhpfmaa.Ev

/- Contracts of the reference: the quotient of two numbers. Printed by gen.py. -/
namespace Go.Proofs.Ytoghalnnmhpfmaa.Ev
open Go Go.Proofs
set_option linter.unusedVariables false
set_option linter.unusedSimpArgs false

attribute [local irreducible] Lb
end Go.Proofs.Ytoghalnnmhpfmaa.Ev

/- The reference's order of numbers is the program's: plain Lean. -/
namespace Go.Proofs.Ytoghalnnmhpfmaa.Ev
open Go

def Num.rcmp (x y : Num) : Int :=
  if x.fair.sign ≠ y.fair.sign then (if x.fair.sign < y.fair.sign then -1 else 1)
  else if x.fair.sign = 0 ∨ x.fair = y.fair then 0
  else if x.fair.kind = 2 ∨ (y.fair.kind ≠ 2 ∧ (y.fair.e < x.fair.e ∨ (x.fair.e = y.fair.e ∧ y.fair.m < x.fair.m))) then x.fair.sign else IntKind.i64.wrap (0 - x.fair.sign)
theorem more_iff {A B : Num} (mA : A.may = true) (mB : B.may = true) (oA : A.ok) (oB : B.ok) (kA : A.kind ≠ 0) (kB : B.kind ≠ 0) (hn : A.neg = B.neg) (hne : A ≠ B) :
    (A.kind = 2 ∨ (B.kind ≠ 2 ∧ (B.e < A.e ∨ (A.e = B.e ∧ B.m < A.m)))) ↔ B.W < A.W := by
  rw [← Num.farther_iff mA mB oA oB]
  unfold Num.farther
  rcases Num.may3 mA oA with h | h | h
  · rw [h] at kA; exact absurd rfl kA
  · have a1 := h.kind
    rcases Num.may3 mB oB with k | k | k
    · rw [k] at kB; exact absurd rfl kB
    · have b1 := k.kind
      rw [if_neg (by rw [a1, b1]; decide)]
      split
      · rw [decide_eq_true_eq]; omega
      · rw [decide_eq_true_eq]; omega
    · have b1 : B.kind = 2 := by rw [k]; rfl
      rw [if_pos (by omega), decide_eq_true_eq]; omega
  · have a1 : A.kind = 2 := by rw [h]; rfl
    rcases Num.may3 mB oB with k | k | k
    · rw [k] at kB; exact absurd rfl kB
    · have b1 := k.kind
      rw [if_pos (by omega), decide_eq_true_eq]; omega
    · exact absurd (by rw [h, k, hn]) hne
theorem rcmp_eq {x y : Num} (ox : x.ok) (oy : y.ok) : Num.rcmp x y = Num.cmp x y := by
  have S := Num.cmp_spec ox oy
  have mA := x.fair_may
  have mB := y.fair_may
  have oA := Num.fair_ok ox
  have oB := Num.fair_ok oy
  unfold Num.rcmp
  generalize Num.cmp x y = c at *
  generalize x.fair = A at *
  generalize y.fair = B at *
  have sA := Num.sign_of mA oA
  have sB := Num.sign_of mB oB
  have w1 : IntKind.i64.wrap (0 - 1) = -1 := by decide
  have w2 : IntKind.i64.wrap (0 - -1) = 1 := by decide
  by_cases h : A.sign = B.sign
  · rw [if_neg (by omega)]
    by_cases h0 : A.sign = 0 ∨ A = B
    · rw [if_pos h0]
      rcases h0 with h0 | h0
      · omega
      · rw [h0] at S; omega
    · rw [if_neg h0]
      have hne : A ≠ B := fun e => h0 (.inr e)
      have vne : A.val ≠ B.val := fun e => hne (Num.val_inj mA mB oA oB e)
      rcases sA with sA | sA | sA
      · omega
      · rcases sB with sB | sB | sB
        · omega
        · have M := more_iff mA mB oA oB sA.2.2.2.2 sB.2.2.2.2 (by rw [sA.2.2.2.1, sB.2.2.2.1]) hne
          rw [sA.1, w1]
          split
          · rename_i q; have := M.1 q; omega
          · rename_i q
            have : ¬ B.W < A.W := fun k => q (M.2 k)
            omega
        · omega
      · rcases sB with sB | sB | sB
        · omega
        · omega
        · have M := more_iff mA mB oA oB sA.2.2.2.2 sB.2.2.2.2 (by rw [sA.2.2.2.1, sB.2.2.2.1]) hne
          rw [sA.1, w2]
          split
          · rename_i q; have := M.1 q; omega
          · rename_i q
            have : ¬ B.W < A.W := fun k => q (M.2 k)
            omega
  · rw [if_pos h]
    split <;> omega
end Go.Proofs.Ytoghalnnmhpfmaa.Ev

namespace Go.Proofs.Ytoghalnnmhpfmaa.Ev
open Go Go.Proofs
set_option linter.unusedVariables false

theorem c_Least (l : List Num) (n : Int) (hn : n = l.length) (hb : n < 9223372036854775808) : ∃ t, t = Num.least l ∧ CallsA Try.prog 55 [.slc 4 (.s n) (fun i => Num.cells (l.getD i Num.zero))] (Num.av t) := by
  refine ⟨_, rfl, ?_⟩
  generalize hr : Num.least l = r
  obtain ⟨z, hz⟩ : ∃ z, z = Num.zero := ⟨_, rfl⟩
  rw [← hz]
  refine callsA_of hG hm Try.func55 (by kernel_rfl) ?_
  intro E hE lp hl
  cbv
  (apply E_callX hE (c_Inf _); (case hf => rfl); (case hc => (cbv <;> trivial)); (case hle => exact u_up); intro t ht; cbv)
  refine E_loopW hE hG hm hl (ι := Int × Num) (fun p => ⟨[(9, .int .i64 (.s p.1)), (8, .int .i64 (.s n)), (7, .slc 4 (.s n) (fun i => Num.cells (l.getD i z))), (3, .ptr 1 4 (.l 0) 0), (2, .ptr 0 4 (.l 0) 0)],
      [.rows true 4 [.int .i64 (.l 0), .bool (.l false), .int .u64 (.l 0), .int .i64 (.l 0)] [[.int .i64 (.l 0), .bool (.l false), .int .u64 (.l 0), .int .i64 (.l 0)]],
       .rows true 4 [.int .i64 (.l 0), .bool (.l false), .int .u64 (.l 0), .int .i64 (.l 0)] [Num.cells p.2]]⟩)
    (fun p => (n - p.1).toNat) (fun p => 0 ≤ p.1 ∧ p.1 ≤ n ∧ p.2 = Num.leastTo l p.1) (fun p => rfl) ⟨(0, t), ⟨Int.le_refl 0, (by show (0 : Int) ≤ n; rw [hn]; exact Int.natCast_nonneg _), ht⟩, stLe rfl ?_⟩ ?_
  · repeat' (first | exact t_nil | apply t_cons | exact u2_int | exact u2_ptr | exact u2_slc')
  rintro ⟨i, o⟩ ⟨h1, h2, h3⟩
  dsimp only at h1 h2 h3
  cbv
  repeat' (first
    | (refine E_br hE (fun h => ?_) (fun h => ?_) <;> cbv)
    | (refine E_nm hE (fun v hv => ?_); cbv)
    | (refine E_row hE (cell := Num.cells) (fun t ht => ?_); cbv)
    | (apply E_callX hE (c_Cmp ⟨_, _, _, _⟩ ⟨_, _, _, _⟩); (case hf => rfl); (case hc => (cbv <;> trivial)); (case hle => exact u_up); intro t ht; cbv)
    | (apply E_callX hE (c_fair ⟨_, _, _, _⟩); (case hf => rfl); (case hc => (cbv <;> trivial)); (case hle => exact u_up); intro t ht; cbv)
    | fail)
  all_goals (try (first
    | refine ⟨(E.bin .add .i64 i 1, t), ?_, ⟨?_, ?_, ?_⟩, stLeW rfl ⟨rfl, rfl, trivial⟩ ?_⟩
    | refine ⟨(E.bin .add .i64 i 1, o), ?_, ⟨?_, ?_, ?_⟩, stLeW rfl ⟨rfl, rfl, trivial⟩ ?_⟩))
  all_goals (try (refine w_cons ?_ rfl ?_; (repeat' (first | exact w_nil | refine w_cons ?_ rfl ?_ | exact u2_int | exact u2_ptr | exact u2_slc')); done))
  all_goals (subst hE; simp only [realE, cmp_lss, cmp_leq, intBinR, decide_eq_true_eq, decide_eq_false_iff_not, SI.val, SB.val, Num.eta] at *)
  all_goals (try rw [wi64_succ h1 ‹i < n› hb])
  all_goals (try omega)
  all_goals (replace hn : n = (l.length : Int) := hn)
  case hK.refine_2.refine_2 =>
    refine Num.fin (t := o) ?_
    have hi : i = n := by omega
    rw [← hr, h3, hi, hn, Num.leastTo_all]
  all_goals rw [Num.leastTo_succ l h1 (by omega), ← h3, ← hz, ← ‹_ = l.getD i.toNat z›]
  all_goals unfold Num.lesser
  all_goals (first | (rw [if_pos (by omega)]; assumption) | (rw [if_neg (by omega)]))

theorem c_Most (l : List Num) (n : Int) (hn : n = l.length) (hb : n < 9223372036854775808) : ∃ t, t = Num.most l ∧ CallsA Try.prog 56 [.slc 4 (.s n) (fun i => Num.cells (l.getD i Num.zero))] (Num.av t) := by
  refine ⟨_, rfl, ?_⟩
  generalize hr : Num.most l = r
  obtain ⟨z, hz⟩ : ∃ z, z = Num.zero := ⟨_, rfl⟩
  rw [← hz]
  refine callsA_of hG hm Try.func56 (by kernel_rfl) ?_
  intro E hE lp hl
  cbv
  (apply E_callX hE (c_Inf _); (case hf => rfl); (case hc => (cbv <;> trivial)); (case hle => exact u_up); intro t ht; cbv)
  refine E_loopW hE hG hm hl (ι := Int × Num) (fun p => ⟨[(9, .int .i64 (.s p.1)), (8, .int .i64 (.s n)), (7, .slc 4 (.s n) (fun i => Num.cells (l.getD i z))), (3, .ptr 1 4 (.l 0) 0), (2, .ptr 0 4 (.l 0) 0)],
      [.rows true 4 [.int .i64 (.l 0), .bool (.l false), .int .u64 (.l 0), .int .i64 (.l 0)] [[.int .i64 (.l 0), .bool (.l false), .int .u64 (.l 0), .int .i64 (.l 0)]],
       .rows true 4 [.int .i64 (.l 0), .bool (.l false), .int .u64 (.l 0), .int .i64 (.l 0)] [Num.cells p.2]]⟩)
    (fun p => (n - p.1).toNat) (fun p => 0 ≤ p.1 ∧ p.1 ≤ n ∧ p.2 = Num.mostTo l p.1) (fun p => rfl) ⟨(0, t), ⟨Int.le_refl 0, (by show (0 : Int) ≤ n; rw [hn]; exact Int.natCast_nonneg _), ht⟩, stLe rfl ?_⟩ ?_
  · repeat' (first | exact t_nil | apply t_cons | exact u2_int | exact u2_ptr | exact u2_slc')
  rintro ⟨i, o⟩ ⟨h1, h2, h3⟩
  dsimp only at h1 h2 h3
  cbv
  repeat' (first
    | (refine E_br hE (fun h => ?_) (fun h => ?_) <;> cbv)
    | (refine E_nm hE (fun v hv => ?_); cbv)
    | (refine E_row hE (cell := Num.cells) (fun t ht => ?_); cbv)
    | (apply E_callX hE (c_Cmp ⟨_, _, _, _⟩ ⟨_, _, _, _⟩); (case hf => rfl); (case hc => (cbv <;> trivial)); (case hle => exact u_up); intro t ht; cbv)
    | (apply E_callX hE (c_fair ⟨_, _, _, _⟩); (case hf => rfl); (case hc => (cbv <;> trivial)); (case hle => exact u_up); intro t ht; cbv)
    | fail)
  all_goals (try (first
    | refine ⟨(E.bin .add .i64 i 1, t), ?_, ⟨?_, ?_, ?_⟩, stLeW rfl ⟨rfl, rfl, trivial⟩ ?_⟩
    | refine ⟨(E.bin .add .i64 i 1, o), ?_, ⟨?_, ?_, ?_⟩, stLeW rfl ⟨rfl, rfl, trivial⟩ ?_⟩))
  all_goals (try (refine w_cons ?_ rfl ?_; (repeat' (first | exact w_nil | refine w_cons ?_ rfl ?_ | exact u2_int | exact u2_ptr | exact u2_slc')); done))
  all_goals (subst hE; simp only [realE, cmp_lss, cmp_leq, cmp_gtr, intBinR, decide_eq_true_eq, decide_eq_false_iff_not, SI.val, SB.val, Num.eta] at *)
  all_goals (try rw [wi64_succ h1 ‹i < n› hb])
  all_goals (try omega)
  all_goals (replace hn : n = (l.length : Int) := hn)
  case hK.refine_2.refine_2 =>
    refine Num.fin (t := o) ?_
    have hi : i = n := by omega
    rw [← hr, h3, hi, hn, Num.mostTo_all]
  all_goals rw [Num.mostTo_succ l h1 (by omega), ← h3, ← hz, ← ‹_ = l.getD i.toNat z›]
  all_goals unfold Num.greater
  all_goals (first | (rw [if_pos (by omega)]; assumption) | (rw [if_neg (by omega)]))

end Go.Proofs.Ytoghalnnmhpfmaa.Ev

/- Contracts: the operations on intervals. -/
namespace Go.Proofs.Ytoghalnnmhpfmaa.Ev
open Go Go.Proofs
set_option linter.unusedVariables false
theorem c_none (l : List Iv) (n : Int) (hn : n = l.length) (hb : n < 9223372036854775808) : ∃ t, t = Iv.anyBad l ∧ CallsA Try.prog 22 [.slc 9 (.s n) (fun i => Iv.cells (l.getD i Iv.none))] (.bool (.s t)) := by
  refine ⟨_, rfl, ?_⟩
  generalize hr : Iv.anyBad l = r
  obtain ⟨z, hz⟩ : ∃ z, z = Iv.none := ⟨_, rfl⟩
  rw [← hz]
  refine callsA_of hG hm Try.func22 (by kernel_rfl) ?_
  intro E hE lp hl
  cbv
  refine E_loopW hE hG hm hl (ι := Int) (fun i => ⟨[(7, .int .i64 (.s i)), (6, .int .i64 (.s n)), (5, .slc 9 (.s n) (fun i => Iv.cells (l.getD i z))), (2, .bool (.l false))], []⟩)
    (fun i => (n - i).toNat) (fun i => 0 ≤ i ∧ i ≤ n ∧ Iv.badTo l i = false) (fun p => rfl) ⟨0, ⟨Int.le_refl 0, (by show (0 : Int) ≤ n; rw [hn]; exact Int.natCast_nonneg _), rfl⟩, stLe rfl ?_⟩ ?_
  · repeat' (first | exact t_nil | apply t_cons | exact u2_int | exact u2_ptr | exact u2_slc' | exact (rfl : sle2 (.bool (.l false)) (.bool (.l false))))
  rintro i ⟨h1, h2, h3⟩
  cbv
  repeat' (first
    | (refine E_br hE (fun h => ?_) (fun h => ?_) <;> cbv)
    | (refine E_nm hE (fun v hv => ?_); cbv)
    | (refine E_row hE (cell := Iv.cells) (fun t ht => ?_); cbv)
    | (apply E_callX hE (c_ivMay ⟨_, ⟨_, _, _, _⟩, ⟨_, _, _, _⟩⟩); (case hf => rfl); (case hc => (cbv <;> trivial)); (case hle => exact u_up); intro t ht; cbv)
    | fail)
  all_goals (try refine ⟨E.bin .add .i64 i 1, ?_, ⟨?_, ?_, ?_⟩, stLeW rfl trivial ?_⟩)
  all_goals (try (refine w_cons ?_ rfl ?_; (repeat' (first | exact w_nil | refine w_cons ?_ rfl ?_ | exact u2_int | exact u2_ptr | exact u2_slc' | exact (rfl : sle2 (.bool (.l false)) (.bool (.l false))))); done))
  all_goals (subst hE; simp only [realE, cmp_lss, cmp_leq, intBinR, decide_eq_true_eq, decide_eq_false_iff_not, SI.val, SB.val, Num.eta, Iv.eta] at *)
  all_goals (try rw [wi64_succ h1 ‹i < n› hb])
  all_goals (try omega)
  all_goals (replace hn : n = (l.length : Int) := hn)
  all_goals subst hz
  case refine_2.refine_2 =>
    have hi : i = (l.length : Int) := by omega
    rw [← hr, ← Iv.badTo_all, ← hi, h3]
  all_goals first
    | (rw [← hr]; refine (Iv.anyBad_at l h1 (by omega) ?_).symm; rw [← ‹_ = l.getD i.toNat Iv.none›]; unfold Iv.bad; simp_all; done)
    | (rw [Iv.badTo_succ l h1 (by omega), h3, ← ‹_ = l.getD i.toNat Iv.none›]; unfold Iv.bad; simp_all; done)

theorem slc4 {a b c d : Num} {z : Num} : sle2 (.slc 4 (.l 4) (fun i => getRow [a.cells, b.cells, c.cells, d.cells] (Int.ofNat i))) (.slc 4 (.s 4) (fun i => Num.cells ([a, b, c, d].getD i z))) := by
  have r : ∀ {x : Num}, sleL sle0 x.cells x.cells := ⟨⟨rfl, rfl⟩, rfl, ⟨rfl, rfl⟩, ⟨rfl, rfl⟩, trivial⟩
  refine ⟨rfl, rfl, fun i hi => ?_⟩
  match i, hi with
  | 0, _ => exact r
  | 1, _ => exact r
  | 2, _ => exact r
  | 3, _ => exact r
  | i + 4, hi => exact absurd hi (by simp [SI.val])
theorem c_corners (a b : Iv) (f : FuncId) (F : Num → Num → Bool → Num) (ok : Num → Prop) (hF : ∀ x y up, ok x → ok y → ∃ t, t = F x y up ∧ CallsA Try.prog f [x.av, y.av, .bool (.s up)] t.av)
    (h1 : ok a.lo) (h2 : ok a.hi) (h3 : ok b.lo) (h4 : ok b.hi) :
    ∃ t, t = Iv.make (Num.least [F a.lo b.lo false, F a.lo b.hi false, F a.hi b.lo false, F a.hi b.hi false]) (Num.most [F a.lo b.lo true, F a.lo b.hi true, F a.hi b.lo true, F a.hi b.hi true]) ∧
      CallsA Try.prog 24 [a.av, b.av, .fn f []] t.av := by
  refine ⟨_, rfl, ?_⟩
  generalize hr : Iv.make (Num.least [F a.lo b.lo false, F a.lo b.hi false, F a.hi b.lo false, F a.hi b.hi false]) (Num.most [F a.lo b.lo true, F a.lo b.hi true, F a.hi b.lo true, F a.hi b.hi true]) = r
  refine callsA_of hG hm Try.func24 (by kernel_rfl) ?_
  intro E hE lp hl
  cbv
  refine E_in hE hG hm Try.func54 (by kernel_rfl) (fun lp2 hl2 => ?_)
  cbv
  (apply E_pcallX hE (hF a.lo b.lo false h1 h3); (case hm => rfl); (case hle => exact u_up); intro s1 es1; cbv)
  (apply E_pcallX hE (hF a.lo b.hi false h1 h4); (case hm => rfl); (case hle => exact u_up); intro s2 es2; cbv)
  (apply E_pcallX hE (hF a.hi b.lo false h2 h3); (case hm => rfl); (case hle => exact u_up); intro s3 es3; cbv)
  (apply E_pcallX hE (hF a.hi b.hi false h2 h4); (case hm => rfl); (case hle => exact u_up); intro s4 es4; cbv)
  (apply E_callX hE (c_Least [s1, s2, s3, s4] 4 rfl (by decide)); (case hf => rfl); (case hc => (cbv <;> trivial)); (case hle => exact ⟨slc4, trivial⟩); intro lo elo; cbv)
  refine E_in hE hG hm Try.func54 (by kernel_rfl) (fun lp3 hl3 => ?_)
  cbv
  (apply E_pcallX hE (hF a.lo b.lo true h1 h3); (case hm => rfl); (case hle => exact u_up); intro t1 et1; cbv)
  (apply E_pcallX hE (hF a.lo b.hi true h1 h4); (case hm => rfl); (case hle => exact u_up); intro t2 et2; cbv)
  (apply E_pcallX hE (hF a.hi b.lo true h2 h3); (case hm => rfl); (case hle => exact u_up); intro t3 et3; cbv)
  (apply E_pcallX hE (hF a.hi b.hi true h2 h4); (case hm => rfl); (case hle => exact u_up); intro t4 et4; cbv)
  (apply E_callX hE (c_Most [t1, t2, t3, t4] 4 rfl (by decide)); (case hf => rfl); (case hc => (cbv <;> trivial)); (case hle => exact ⟨slc4, trivial⟩); intro hi ehi; cbv)
  (apply E_callX hE (c_ivMake ⟨_, _, _, _⟩ ⟨_, _, _, _⟩); (case hf => rfl); (case hc => (cbv <;> trivial)); (case hle => exact u_up); intro t ht; cbv)
  have e : t = r := by
    rw [← hr]
    refine ht.trans ?_
    show Iv.make lo hi = _
    rw [elo, ehi, es1, es2, es3, es4, et1, et2, et3, et4]
  subst e
  exact ⟨rfl, rfl, rfl, rfl, rfl, rfl, rfl, rfl, rfl, trivial⟩
end Go.Proofs.Ytoghalnnmhpfmaa.Ev

/- Contracts of the reference: the order of numbers, the least and the greatest. Printed by gen.py. -/
namespace Go.Proofs.Ytoghalnnmhpfmaa.Ev
open Go Go.Proofs
set_option linter.unusedVariables false
set_option linter.unusedSimpArgs false
theorem c_r0Cmp (x : Num) (y : Num)  : ∃ t : Int, t = Num.rcmp x y ∧ CallsA Try.prog 65 [x.av, y.av] (.int .i64 (.s t)) := by
  refine ⟨_, rfl, ?_⟩
  generalize hr : Num.rcmp x y = r
  refine callsA_of hG hm Try.func65 (by kernel_rfl) ?_
  intro E hE lp hl
  cbv
  repeat' (first
    | (apply E_br_t hE; assumption; cbv)
    | (apply E_br_f hE; assumption; cbv)
    | (refine E_br hE (fun h => ?_) (fun h => ?_) <;> cbv)
    | (refine E_nm hE (fun v hv => ?_); cbv)
    | (apply E_callX hE (c_rFair ⟨_, _, _, _⟩); (case hf => rfl); (case hc => (cbv <;> trivial)); (case hle => exact u_up); intro t ht; cbv)
    | (apply E_callX hE (c_rSign ⟨_, _, _, _⟩); (case hf => rfl); (case hc => (cbv <;> trivial)); (case hle => exact u_up); intro t ht; cbv)
    | fail)
  all_goals (subst hE; subst hr)
  all_goals (try simp only [realE, cmp_eql, cmp_neq, cmp_lss, cmp_leq, cmp_gtr, cmp_geq, intBinR, decide_eq_true_eq, decide_eq_false_iff_not, SI.val, SB.val, Num.eta, Iv.eta] at *)
  all_goals (simp only [Num.rcmp])
  all_goals (try subst_vars)
  all_goals (try simp_all [Num.eq_iff])
  all_goals (try (intros; omega))
  all_goals (rw [if_neg (fun k => ‹x.fair.kind = y.fair.kind → x.fair.neg = y.fair.neg → ¬ x.fair.m = y.fair.m› k.1 k.2.1 k.2.2), if_neg (by omega)])

theorem c_r5Cmp (x y : Num) (ox : x.ok) (oy : y.ok) : ∃ t : Int, t = Num.cmp x y ∧ CallsA Try.prog 65 [x.av, y.av] (.int .i64 (.s t)) := by
  obtain ⟨t, ht, hC⟩ := c_r0Cmp x y
  exact ⟨t, ht.trans (rcmp_eq ox oy), hC⟩

end Go.Proofs.Ytoghalnnmhpfmaa.Ev

/- The reference's intervals are the program's: plain Lean. -/
namespace Go.Proofs.Ytoghalnnmhpfmaa.Ev
open Go

theorem Iv.fair_emp (x : Iv) : x.fair.empty = x.bad := by
  unfold Iv.fair Iv.bad
  cases h : x.may
  · simp [Iv.none]
  · simp
theorem Iv.fair_good {x : Iv} (h : x.fair.empty = false) : x.fair = x := by
  rw [Iv.fair_emp] at h
  unfold Iv.bad at h
  simp only [Bool.or_eq_false_iff, Bool.not_eq_false'] at h
  unfold Iv.fair; rw [if_pos h.2]
theorem Iv.fair_oks {x : Iv} (o1 : x.lo.ok) (o2 : x.hi.ok) : x.fair.lo.ok ∧ x.fair.hi.ok := by
  unfold Iv.fair
  split
  · exact ⟨o1, o2⟩
  · exact ⟨Num.zero_ok, Num.zero_ok⟩
theorem Iv.anyBad_two (a b : Iv) : Iv.anyBad [a, b] = (a.fair.empty || b.fair.empty) := by
  rw [Iv.fair_emp, Iv.fair_emp]; simp [Iv.anyBad]

def Iv.rneg (a : Iv) : Iv := if a.fair.empty = true then a.fair else Iv.make a.fair.hi.opp a.fair.lo.opp
theorem Iv.none_of {a : Iv} (h : a.fair.empty = true) : a.fair = Iv.none := by
  unfold Iv.fair at h ⊢
  split
  · rename_i m
    rw [if_pos m] at h
    exact Iv.empty_may m h
  · rfl
theorem Iv.anyBad_one (a : Iv) : Iv.anyBad [a] = a.fair.empty := by rw [Iv.fair_emp]; simp [Iv.anyBad]
theorem Iv.rneg_eq (a : Iv) : Iv.rneg a = Iv.neg a := by
  unfold Iv.rneg Iv.neg
  rw [Iv.anyBad_one]
  split
  · rename_i h; exact Iv.none_of h
  · rename_i h
    rw [Iv.fair_good (by simpa using h)]
end Go.Proofs.Ytoghalnnmhpfmaa.Ev

/- Contracts of the reference: intervals. Printed by gen.py. -/
namespace Go.Proofs.Ytoghalnnmhpfmaa.Ev
open Go Go.Proofs
set_option linter.unusedVariables false
set_option linter.unusedSimpArgs false

theorem c_r8None   : ∃ t : Iv, t = Iv.none ∧ CallsA Try.prog 27 [] (t.av) := by
  refine ⟨_, rfl, ?_⟩
  generalize hr : Iv.none = r
  refine callsA_of hG hm Try.func27 (by kernel_rfl) ?_
  intro E hE lp hl
  cbv
  repeat' (first
    | (refine E_br hE (fun h => ?_) (fun h => ?_) <;> cbv)
    | (refine E_nm hE (fun v hv => ?_); cbv)
    | fail)
  all_goals (subst hE; subst hr)
  all_goals (try simp only [realE, cmp_eql, cmp_neq, cmp_lss, cmp_leq, cmp_gtr, cmp_geq, intBinR, decide_eq_true_eq, decide_eq_false_iff_not, SI.val, SB.val, Num.eta, Iv.eta] at *)
  all_goals (try simp_all [Iv.none, Num.zero])
  all_goals (try omega)
  all_goals (try simp only [Bool.and_assoc])
  all_goals (try rfl)
  all_goals ((repeat' split) <;> (try simp_all) <;> (try omega))

theorem c_r8May (x : Iv) (o1 : x.lo.ok) (o2 : x.hi.ok) : ∃ t : Bool, t = x.may ∧ CallsA Try.prog 60 [x.av] (.bool (.s t)) := by
  refine ⟨_, rfl, ?_⟩
  generalize hr : x.may = r
  refine callsA_of hG hm Try.func60 (by kernel_rfl) ?_
  intro E hE lp hl
  cbv
  repeat' (first
    | (refine E_br hE (fun h => ?_) (fun h => ?_) <;> cbv)
    | (refine E_nm hE (fun v hv => ?_); cbv)
    | (apply E_pcallX hE (c_r8None ); (case hm => rfl); (case hle => exact u_up); intro t ht; cbv)
    | (apply E_callX hE (c_rMay ⟨_, _, _, _⟩); (case hf => rfl); (case hc => (cbv <;> trivial)); (case hle => exact u_up); intro t ht; cbv)
    | (apply E_pcallX hE (c_r5Cmp ⟨_, _, _, _⟩ ⟨_, _, _, _⟩ ?_ ?_); (case hm => rfl); (case hle => exact u_up); all_goals (first | (intro t ht; cbv) | (subst hE; (try simp only [realE, cmp_eql, cmp_neq, cmp_lss, cmp_leq, cmp_gtr, cmp_geq, intBinR, decide_eq_true_eq, decide_eq_false_iff_not, SI.val, SB.val, Num.eta, Iv.eta] at *); first | assumption | omega)))
    | (apply E_pcallX hE (c_rInf _); (case hm => rfl); (case hle => exact u_up); intro t ht; cbv)
    | fail)
  all_goals (subst hE; subst hr)
  all_goals (try simp only [realE, cmp_eql, cmp_neq, cmp_lss, cmp_leq, cmp_gtr, cmp_geq, intBinR, decide_eq_true_eq, decide_eq_false_iff_not, SI.val, SB.val, Num.eta, Iv.eta] at *)
  all_goals (try simp_all [Iv.may, Iv.none, Num.zero, Iv.eq_iff, Num.eq_iff, Num.inf])
  all_goals (try omega)
  all_goals (try simp only [Bool.and_assoc])
  all_goals (try rfl)
  all_goals ((repeat' split) <;> (try simp_all) <;> (try omega))

theorem c_r8Fair (x : Iv) (o1 : x.lo.ok) (o2 : x.hi.ok) : ∃ t : Iv, t = x.fair ∧ CallsA Try.prog 26 [x.av] (t.av) := by
  refine ⟨_, rfl, ?_⟩
  generalize hr : x.fair = r
  refine callsA_of hG hm Try.func26 (by kernel_rfl) ?_
  intro E hE lp hl
  cbv
  repeat' (first
    | (refine E_br hE (fun h => ?_) (fun h => ?_) <;> cbv)
    | (refine E_nm hE (fun v hv => ?_); cbv)
    | (apply E_callX hE (c_r8May ⟨_, ⟨_, _, _, _⟩, ⟨_, _, _, _⟩⟩ ?_ ?_); (case hf => rfl); (case hc => (cbv <;> trivial)); (case hle => exact u_up); all_goals (first | (intro t ht; cbv) | (subst hE; (try simp only [realE, cmp_eql, cmp_neq, cmp_lss, cmp_leq, cmp_gtr, cmp_geq, intBinR, decide_eq_true_eq, decide_eq_false_iff_not, SI.val, SB.val, Num.eta, Iv.eta] at *); first | assumption | omega)))
    | (apply E_callX hE (c_r8None ); (case hf => rfl); (case hc => (cbv <;> trivial)); (case hle => exact u_up); intro t ht; cbv)
    | fail)
  all_goals (subst hE; subst hr)
  all_goals (try simp only [realE, cmp_eql, cmp_neq, cmp_lss, cmp_leq, cmp_gtr, cmp_geq, intBinR, decide_eq_true_eq, decide_eq_false_iff_not, SI.val, SB.val, Num.eta, Iv.eta] at *)
  all_goals (try simp_all [Iv.fair])
  all_goals (try omega)
  all_goals (try simp only [Bool.and_assoc])
  all_goals (try rfl)
  all_goals ((repeat' split) <;> (try simp_all) <;> (try omega))

theorem c_r8Make (lo hi : Num) (o1 : lo.ok) (o2 : hi.ok) : ∃ t : Iv, t = Iv.make lo hi ∧ CallsA Try.prog 29 [lo.av, hi.av] t.av := by
  refine ⟨_, rfl, ?_⟩
  rw [Iv.make_eq]
  generalize hr : Iv.fair ⟨false, lo.fair, hi.fair⟩ = r
  have f1 := Num.fair_ok o1
  have f2 := Num.fair_ok o2
  refine callsA_of hG hm Try.func29 (by kernel_rfl) ?_
  intro E hE lp hl'
  cbv
  (apply E_pcallX hE (c_r6Fair ⟨_, _, _, _⟩); (case hm => rfl); (case hle => exact u_up); all_goals (first | (intro a ha; cbv) | (assumption)))
  (apply E_pcallX hE (c_r6Fair ⟨_, _, _, _⟩); (case hm => rfl); (case hle => exact u_up); all_goals (first | (intro b hb; cbv) | (assumption)))
  (apply E_pcallX hE (c_r8Fair ⟨_, ⟨_, _, _, _⟩, ⟨_, _, _, _⟩⟩ ?_ ?_); (case hm => rfl); (case hle => exact u_up); all_goals (first | (intro t ht; cbv) | (first | (show a.ok; rw [show a = lo.fair from ha]; exact f1) | (show b.ok; rw [show b = hi.fair from hb]; exact f2))))
  have T : t = r := by
    rw [← hr, ← show a = lo.fair from ha, ← show b = hi.fair from hb]; exact ht
  rw [T]; exact ⟨rfl, rfl, rfl, rfl, rfl, rfl, rfl, rfl, rfl, trivial⟩
theorem c_r8Point (n : Num) (o1 : n.ok) : ∃ t : Iv, t = Iv.point n ∧ CallsA Try.prog 37 [n.av] t.av := by
  refine ⟨_, rfl, ?_⟩
  unfold Iv.point
  generalize hr : Iv.make n n = r
  refine callsA_of hG hm Try.func37 (by kernel_rfl) ?_
  intro E hE lp hl'
  cbv
  (apply E_callX hE (c_r8Make ⟨_, _, _, _⟩ ⟨_, _, _, _⟩ ?_ ?_); (case hf => rfl); (case hc => (cbv <;> trivial)); (case hle => exact u_up); all_goals (first | (intro t ht; cbv) | (exact o1)))
  have T : t = r := by rw [← hr]; exact ht
  rw [T]; exact ⟨rfl, rfl, rfl, rfl, rfl, rfl, rfl, rfl, rfl, trivial⟩

end Go.Proofs.Ytoghalnnmhpfmaa.Ev

/- Contracts of the reference: the sum of two numbers. Printed by gen.py. -/
namespace Go.Proofs.Ytoghalnnmhpfmaa.Ev
open Go Go.Proofs
set_option linter.unusedVariables false
set_option linter.unusedSimpArgs false

attribute [local irreducible] Lb
theorem sum_len {a b : List Int} (ha : Lb a) (hb : Lb b) : (lim (lv a + lv b)).length ≤ a.length + b.length + 1 := by
  have l1 := lv_lt ha
  have l2 := lv_lt hb
  have p1 : (4294967296 : Nat) ^ a.length ≤ 4294967296 ^ (a.length + b.length) := Nat.pow_le_pow_right (by decide) (by omega)
  have p2 : (4294967296 : Nat) ^ b.length ≤ 4294967296 ^ (a.length + b.length) := Nat.pow_le_pow_right (by decide) (by omega)
  refine lim_length_le ?_
  rw [Nat.pow_succ]; omega
theorem wsum_len {na nb : Bool} {a b : List Int} (ha : Lb a) (hb : Lb b) : (lim (wsum na (lv a) nb (lv b)).2).length ≤ a.length + b.length + 1 := by
  have l := wsum_le na nb (lv a) (lv b)
  have s := sum_len ha hb
  have q := lim_lt (lv a + lv b)
  exact Nat.le_trans (lim_length_le (Nat.lt_of_le_of_lt l q)) s
theorem c_r2Add (na : Bool) (a : List Int) (nb : Bool) (b : List Int) (ha : Lb a) (hb : Lb b) (hla : a.length ≤ 100000) (hlb : b.length ≤ 100000) :
    ∃ t : Bool × List Int, t = ((wsum na (lv a) nb (lv b)).1, lim (wsum na (lv a) nb (lv b)).2) ∧ CallsA Try.prog 106 [.agg [.bool (.s na), .sli .u32 a], .agg [.bool (.s nb), .sli .u32 b]] (.agg [.bool (.s t.1), .sli .u32 t.2]) := by
  refine ⟨_, rfl, ?_⟩
  generalize hr : (((wsum na (lv a) nb (lv b)).1, lim (wsum na (lv a) nb (lv b)).2) : Bool × List Int) = r
  have same : na = nb → ∀ s : List Int, s = lim (lv a + lv b) → Lb s ∧ s.length ≤ 268435456 ∧ ∀ t : Bool × List Int, t = (na && decide (lv s ≠ 0), lim (lv s)) → t = r := by
    intro h s hs
    refine ⟨by rw [hs]; exact lim_lb _, by rw [hs]; have := sum_len ha hb; omega, fun t ht => ?_⟩
    rw [ht, ← hr, hs, lv_lim]; unfold wsum; rw [if_pos h]
  have less : na ≠ nb → lv a < lv b → ∀ s : List Int, s = lim (lv b - lv a) → Lb s ∧ s.length ≤ 268435456 ∧ ∀ t : Bool × List Int, t = (nb && decide (lv s ≠ 0), lim (lv s)) → t = r := by
    intro h g s hs
    refine ⟨by rw [hs]; exact lim_lb _, by rw [hs]; have := lim_len_of hb (Nat.sub_le (lv b) (lv a)); omega, fun t ht => ?_⟩
    rw [ht, ← hr, hs, lv_lim]; unfold wsum; rw [if_neg h, if_pos g]
  have more : na ≠ nb → ¬ lv a < lv b → ∀ s : List Int, s = lim (lv a - lv b) → Lb s ∧ s.length ≤ 268435456 ∧ ∀ t : Bool × List Int, t = (na && decide (lv s ≠ 0), lim (lv s)) → t = r := by
    intro h g s hs
    refine ⟨by rw [hs]; exact lim_lb _, by rw [hs]; have := lim_len_of ha (Nat.sub_le (lv a) (lv b)); omega, fun t ht => ?_⟩
    rw [ht, ← hr, hs, lv_lim]; unfold wsum; rw [if_neg h, if_neg g]
  have subs : ∀ (x y : List Int) (s : List Int × Bool), s = (if lv x < lv y then ([], false) else (lim (lv x - lv y), true)) → (s.2 = false → lv x < lv y) ∧ (s.2 = true → ¬ lv x < lv y ∧ s.1 = lim (lv x - lv y)) := by
    intro x y s hs
    subst hs
    by_cases k : lv x < lv y
    · rw [if_pos k]; exact ⟨fun _ => k, fun h => by cases h⟩
    · rw [if_neg k]; exact ⟨fun h => by (cases h), fun _ => ⟨k, rfl⟩⟩
  have subs2 : ∀ (x y : List Int) (s : List Int × Bool), lv y < lv x → s = (if lv x < lv y then ([], false) else (lim (lv x - lv y), true)) → s.1 = lim (lv x - lv y) := by
    intro x y s h hs
    rw [hs, if_neg (by omega)]
  clear hr
  refine callsA_of hG hm Try.func106 (by kernel_rfl) ?_
  intro E hE lp hl'
  cbv
  refine E_br hE (fun g => ?_) (fun g => ?_) <;> cbv
  · have gn : na = nb := by subst hE; have k : (na == nb) = true := g; simpa using k
    (apply E_pcallX hE (c_rAdd _ _ ha hb ?_ ?_); (case hm => rfl); (case hle => exact u_up); all_goals (first | (intro s hs; cbv) | (first | exact Nat.lt_of_le_of_lt hla (by decide) | exact Nat.lt_of_le_of_lt hlb (by decide))))
    have S := same gn s hs
    (apply E_pcallX hE (c_r2Make _ _ S.1 S.2.1); (case hm => rfl); (case hle => exact u_up); all_goals (first | (intro t ht; cbv) | (assumption)))
    rw [← S.2.2 t ht]; exact ⟨rfl, rfl, trivial⟩
  · have gn : na ≠ nb := by subst hE; have k : (na == nb) = false := g; simpa using k
    (apply E_callX hE (c_rSub _ _ ha hb ?_ ?_); (case hf => rfl); (case hc => (cbv <;> trivial)); (case hle => exact u_up); all_goals (first | (intro s hs; cbv) | (first | exact Nat.lt_of_le_of_lt hla (by decide) | exact Nat.lt_of_le_of_lt hlb (by decide))))
    have D := subs a b s hs
    clear hs
    refine E_br hE (fun g2 => ?_) (fun g2 => ?_) <;> cbv
    · have S := more gn (D.2 g2).1 s.1 (D.2 g2).2
      (apply E_callX hE (c_r2Make _ _ S.1 S.2.1); (case hf => rfl); (case hc => (cbv <;> trivial)); (case hle => exact u_up); all_goals (first | (intro t ht; cbv) | (assumption)))
      rw [← S.2.2 t ht]; exact ⟨rfl, rfl, trivial⟩
    · have lt := D.1 g2
      (apply E_callX hE (c_rSub _ _ hb ha ?_ ?_); (case hf => rfl); (case hc => (cbv <;> trivial)); (case hle => exact u_up); all_goals (first | (intro u hu; cbv) | (first | exact Nat.lt_of_le_of_lt hla (by decide) | exact Nat.lt_of_le_of_lt hlb (by decide))))
      have S := less gn lt u.1 (subs2 b a u lt hu)
      (apply E_callX hE (c_r2Make _ _ S.1 S.2.1); (case hf => rfl); (case hc => (cbv <;> trivial)); (case hle => exact u_up); all_goals (first | (intro t ht; cbv) | (assumption)))
      rw [← S.2.2 t ht]; exact ⟨rfl, rfl, trivial⟩

/-! ### the sum of two exact numbers -/
/-- not too far, nor too long -/
structure DyN (P : Bool × Nat × Int) : Prop where
  len : (lim P.2.1).length ≤ 1000
  lo : -200000 ≤ P.2.2
  hi : P.2.2 ≤ 200000
theorem dyNorm_n {p : Bool × Nat × Int} (h : (lim p.2.1).length ≤ 1000) (lo : -100000 ≤ p.2.2) (hi : p.2.2 ≤ 100000) : DyN (dyNorm p) := by
  have r := dyMake_rng p.1 p.2.1 p.2.2
  have l := lim_length_le (Nat.lt_of_le_of_lt r.2.2 (lim_lt p.2.1))
  refine ⟨by show (lim (dyMake p.1 p.2.1 p.2.2).2.1).length ≤ 1000; omega, ?_, ?_⟩
  · show -200000 ≤ (dyMake p.1 p.2.1 p.2.2).2.2
    unfold dyMake
    split
    · show (-200000 : Int) ≤ 0; decide
    · split
      · show (-200000 : Int) ≤ 0; decide
      · show -200000 ≤ p.2.2 + _; omega
  · show (dyMake p.1 p.2.1 p.2.2).2.2 ≤ 200000
    unfold dyMake
    split
    · show (0 : Int) ≤ 200000; decide
    · split
      · show (0 : Int) ≤ 200000; decide
      · rename_i h0 _
        show p.2.2 + _ ≤ 200000
        have v := v2_blen (k := p.2.1) (by omega)
        have b := lv_blen (lim_lb p.2.1)
        rw [lv_lim] at b
        omega
/-- limbs of a value -/
structure Of (u : Bool × List Int × Int) (P : Bool × Nat × Int) : Prop where
  eq : u = dyL P
  lb : Lb u.2.1
  len : u.2.1.length ≤ 1000
  val : lv u.2.1 = P.2.1
  neg : u.1 = P.1
  e : u.2.2 = P.2.2
  lo : -200000 ≤ P.2.2
  hi : P.2.2 ≤ 200000
  nil : u.2.1.length = 0 ↔ P.2.1 = 0
theorem of_of {u : Bool × List Int × Int} {P : Bool × Nat × Int} (hP : DyN P) (h : u = dyL P) : Of u P := by
  refine ⟨h, by rw [h]; exact lim_lb _, by rw [h]; exact hP.len, by rw [h]; exact lv_lim _, by rw [h]; rfl, by rw [h]; rfl, hP.lo, hP.hi, ?_⟩
  rw [h]
  have := lim_len_pos P.2.1
  show (lim P.2.1).length = 0 ↔ _
  omega
theorem align_shl {u v : Bool × List Int × Int} {H L : Bool × Nat × Int} {s : List Int} {d : Int} (hH : Of u H) (hL : Of v L) (hle : L.2.2 ≤ H.2.2) (hd : d = IntKind.i64.wrap (u.2.2 - v.2.2))
    (hs : s = if d < 1 then lim (lv u.2.1) else if 16777216 < d then [] else lim (lv u.2.1 * 2 ^ d.toNat)) : Lb s ∧ s.length ≤ 50000 ∧ lv s = H.2.1 * 2 ^ (H.2.2 - L.2.2).toNat := by
  have h1 := hH.lo; have h2 := hH.hi; have h3 := hL.lo; have h4 := hL.hi
  have ed : d = H.2.2 - L.2.2 := by rw [hd, hH.e, hL.e, wi64]; omega
  rw [hH.val, ed] at hs
  have e : s = lim (H.2.1 * 2 ^ (H.2.2 - L.2.2).toNat) := by
    rw [hs]
    split
    · rw [show (H.2.2 - L.2.2).toNat = 0 by omega]; simp
    · rw [if_neg (by omega)]
  rw [e]
  refine ⟨lim_lb _, ?_, lv_lim _⟩
  have l := lv_lt hH.lb
  rw [hH.val] at l
  obtain ⟨y, hy⟩ : ∃ y : Nat, (H.2.2 - L.2.2).toNat = y := ⟨_, rfl⟩
  rw [hy]
  have p : (2 : Nat) ^ y ≤ 2 ^ (32 * (y / 32 + 1)) := Nat.pow_le_pow_right (by decide) (by omega)
  rw [Nat.pow_mul] at p
  have lt : H.2.1 * 2 ^ y < 4294967296 ^ (u.2.1.length + (y / 32 + 1)) := by
    rw [Nat.pow_add]
    exact Nat.mul_lt_mul_of_lt_of_le l p (Nat.pow_pos (by decide))
  have := lim_length_le lt
  have := hH.len
  omega
theorem align_m {u : Bool × List Int × Int} {H L : Bool × Nat × Int} {s : List Int} {m : Bool × List Int} (hH : Of u H) (S : Lb s ∧ s.length ≤ 50000 ∧ lv s = H.2.1 * 2 ^ (H.2.2 - L.2.2).toNat)
    (hm' : m = (u.1 && decide (lv s ≠ 0), lim (lv s))) : Lb m.2 ∧ m.2.length ≤ 50000 ∧ m.1 = (H.1 && decide (H.2.1 * 2 ^ (H.2.2 - L.2.2).toNat ≠ 0)) ∧ lv m.2 = H.2.1 * 2 ^ (H.2.2 - L.2.2).toNat := by
  have l := lim_len_of S.1 (Nat.le_refl (lv s))
  rw [hm']
  refine ⟨lim_lb _, by have := S.2.1; show (lim (lv s)).length ≤ 50000; omega, ?_, ?_⟩
  · show (u.1 && decide (lv s ≠ 0)) = _
    rw [S.2.2, hH.neg]
  · show lv (lim (lv s)) = _
    rw [lv_lim, S.2.2]
theorem align_w {v : Bool × List Int × Int} {H L : Bool × Nat × Int} {m w : Bool × List Int} (hL : Of v L) (M : Lb m.2 ∧ m.2.length ≤ 50000 ∧ m.1 = (H.1 && decide (H.2.1 * 2 ^ (H.2.2 - L.2.2).toNat ≠ 0)) ∧ lv m.2 = H.2.1 * 2 ^ (H.2.2 - L.2.2).toNat)
    (hw : w = ((wsum v.1 (lv v.2.1) m.1 (lv m.2)).1, lim (wsum v.1 (lv v.2.1) m.1 (lv m.2)).2)) : Lb w.2 ∧ w.2.length ≤ 51001 ∧ (-9223372036854775808 ≤ v.2.2 ∧ v.2.2 < 9223372036854775808) ∧ dyMake w.1 (lv w.2) v.2.2 = dyAlign L H := by
  have := hL.lo; have := hL.hi; have := hL.e
  refine ⟨by rw [hw]; exact lim_lb _, ?_, by omega, ?_⟩
  · have q := wsum_len (na := v.1) (nb := m.1) hL.lb M.1
    have := hL.len
    have := M.2.1
    rw [hw]
    show (lim _).length ≤ 51001
    omega
  · rw [hw]
    show dyMake _ (lv (lim _)) _ = _
    rw [lv_lim, hL.e, hL.neg, hL.val, M.2.2.1, M.2.2.2]
    rfl
/-- the sum's cases -/
structure PlusC (P Q : Bool × Nat × Int) (r : Bool × List Int × Int) : Prop where
  z1 : P.2.1 = 0 → r = dyL Q
  z2 : ¬ P.2.1 = 0 → Q.2.1 = 0 → r = dyL P
  a1 : ¬ P.2.1 = 0 → ¬ Q.2.1 = 0 → Q.2.2 < P.2.2 → r = dyL (dyAlign Q P)
  a2 : ¬ P.2.1 = 0 → ¬ Q.2.1 = 0 → ¬ Q.2.2 < P.2.2 → r = dyL (dyAlign P Q)
theorem plus_c {p q : Bool × Nat × Int} {r : Bool × List Int × Int} (h : dyL (dyPlus p q) = r) : PlusC (dyNorm p) (dyNorm q) r := by
  constructor
  · intro k; rw [← h]; unfold dyPlus; rw [if_pos k]
  · intro k g; rw [← h]; unfold dyPlus; rw [if_neg k, if_pos g]
  · intro k g l; rw [← h]; unfold dyPlus; rw [if_neg k, if_neg g, if_pos l]
  · intro k g l; rw [← h]; unfold dyPlus; rw [if_neg k, if_neg g, if_neg l]

theorem c_r3Two (p q : Bool × Nat × Int) (hp : (lim p.2.1).length ≤ 1000) (hq : (lim q.2.1).length ≤ 1000) (ep : -100000 ≤ p.2.2 ∧ p.2.2 ≤ 100000) (eq : -100000 ≤ q.2.2 ∧ q.2.2 ≤ 100000)
    (x y : Bool × List Int × Int) (hx : x = dyL p) (hy : y = dyL q) : ∃ t : Bool × List Int × Int, t = dyL (dyPlus p q) ∧
    CallsA Try.prog 96 [.agg [.bool (.s x.1), .sli .u32 x.2.1, .int .i64 (.s x.2.2)], .agg [.bool (.s y.1), .sli .u32 y.2.1, .int .i64 (.s y.2.2)]] (.agg [.bool (.s t.1), .sli .u32 t.2.1, .int .i64 (.s t.2.2)]) := by
  refine ⟨_, rfl, ?_⟩
  generalize hr : dyL (dyPlus p q) = r
  have C := plus_c hr
  clear hr
  have xa : Lb x.2.1 ∧ x.2.1.length ≤ 125000 ∧ (-9223372036854775808 ≤ x.2.2 ∧ x.2.2 < 9223372036854775808) ∧ dyMake x.1 (lv x.2.1) x.2.2 = dyNorm p := by
    rw [hx]; exact ⟨lim_lb _, Nat.le_trans hp (by decide), ⟨Int.le_trans (by decide) ep.1, Int.lt_of_le_of_lt ep.2 (by decide)⟩, by show dyMake p.1 (lv (lim p.2.1)) p.2.2 = _; rw [lv_lim]; rfl⟩
  have ya : Lb y.2.1 ∧ y.2.1.length ≤ 125000 ∧ (-9223372036854775808 ≤ y.2.2 ∧ y.2.2 < 9223372036854775808) ∧ dyMake y.1 (lv y.2.1) y.2.2 = dyNorm q := by
    rw [hy]; exact ⟨lim_lb _, Nat.le_trans hq (by decide), ⟨Int.le_trans (by decide) eq.1, Int.lt_of_le_of_lt eq.2 (by decide)⟩, by show dyMake q.1 (lv (lim q.2.1)) q.2.2 = _; rw [lv_lim]; rfl⟩
  have na := dyNorm_n hp ep.1 ep.2
  have nb := dyNorm_n hq eq.1 eq.2
  generalize dyNorm p = P at *
  generalize dyNorm q = Q at *
  clear hx hy hp hq ep eq
  refine callsA_of hG hm Try.func96 (by kernel_rfl) ?_
  intro E hE lp hl'
  cbv
  (apply E_callX hE (k_r3Make _ _ _ xa.1 xa.2.1 xa.2.2.1); (case hf => rfl); (case hc => (cbv <;> trivial)); (case hle => exact u_up); all_goals (first | (intro u hu; cbv) | (assumption)))
  have Ou := of_of na (by rw [← xa.2.2.2]; exact hu : u = dyL P)
  clear hu
  (apply E_callX hE (k_r3Make _ _ _ ya.1 ya.2.1 ya.2.2.1); (case hf => rfl); (case hc => (cbv <;> trivial)); (case hle => exact u_up); all_goals (first | (intro v hv; cbv) | (assumption)))
  have Ov := of_of nb (by rw [← ya.2.2.2]; exact hv : v = dyL Q)
  clear hv xa ya na nb
  refine E_br hE (fun g1 => ?_) (fun g1 => ?_) <;> cbv
  · have k : P.2.1 = 0 := Ou.nil.1 (by subst hE; have k : (u.2.1.length : Int) = 0 := eql_t g1; omega)
    rw [← show v = r from Ov.eq.trans (C.z1 k).symm]; exact ⟨rfl, rfl, rfl, trivial⟩
  have k1 : ¬ P.2.1 = 0 := fun k => (by subst hE; exact eql_f g1 : ¬ (u.2.1.length : Int) = 0) (by have := Ou.nil.2 k; omega)
  refine E_br hE (fun g2 => ?_) (fun g2 => ?_) <;> cbv
  · have k : Q.2.1 = 0 := Ov.nil.1 (by subst hE; have k : (v.2.1.length : Int) = 0 := eql_t g2; omega)
    rw [← show u = r from Ou.eq.trans (C.z2 k1 k).symm]; exact ⟨rfl, rfl, rfl, trivial⟩
  have k2 : ¬ Q.2.1 = 0 := fun k => (by subst hE; exact eql_f g2 : ¬ (v.2.1.length : Int) = 0) (by have := Ov.nil.2 k; omega)
  refine E_br hE (fun g3 => ?_) (fun g3 => ?_) <;> cbv
  · have lt : Q.2.2 < P.2.2 := by rw [← Ou.e, ← Ov.e]; subst hE; exact gtr_t g3
    have hle := Int.le_of_lt lt
    (apply E_pcallX hE (c_rShl _ _ Ou.lb ?_); (case hm => rfl); (case hle => exact u_up); all_goals (first | (intro s hs; cbv) | (exact Nat.lt_of_le_of_lt Ou.len (by decide))))
    have S := align_shl (d := E.bin .sub .i64 u.2.2 v.2.2) Ou Ov hle (by subst hE; rfl) hs
    clear hs
    (apply E_pcallX hE (c_r2Make _ _ S.1 ?_); (case hm => rfl); (case hle => exact u_up); all_goals (first | (intro m hm_; cbv) | (exact Nat.le_trans S.2.1 (by decide))))
    have M := align_m (L := Q) Ou S hm_
    clear hm_ S
    (apply E_pcallX hE (c_r2Add _ _ _ _ Ov.lb M.1 ?_ ?_); (case hm => rfl); (case hle => exact u_up); all_goals (first | (intro w hw; cbv) | (first | exact Nat.le_trans Ov.len (by decide) | exact Nat.le_trans M.2.1 (by decide))))
    have W := align_w Ov M hw
    clear hw M
    (apply E_pcallX hE (k_r3Make _ _ _ W.1 ?_ W.2.2.1); (case hm => rfl); (case hle => exact u_up); all_goals (first | (intro t ht; cbv) | (exact Nat.le_trans W.2.1 (by decide))))
    have T : t = r := by rw [C.a1 k1 k2 lt]; rw [← W.2.2.2]; exact ht
    rw [T]; exact ⟨rfl, rfl, rfl, trivial⟩
  · have nlt : ¬ Q.2.2 < P.2.2 := by rw [← Ou.e, ← Ov.e]; subst hE; exact gtr_f g3
    have hle := Int.not_lt.1 nlt
    (apply E_pcallX hE (c_rShl _ _ Ov.lb ?_); (case hm => rfl); (case hle => exact u_up); all_goals (first | (intro s hs; cbv) | (exact Nat.lt_of_le_of_lt Ov.len (by decide))))
    have S := align_shl (d := E.bin .sub .i64 v.2.2 u.2.2) Ov Ou hle (by subst hE; rfl) hs
    clear hs
    (apply E_pcallX hE (c_r2Make _ _ S.1 ?_); (case hm => rfl); (case hle => exact u_up); all_goals (first | (intro m hm_; cbv) | (exact Nat.le_trans S.2.1 (by decide))))
    have M := align_m (L := P) Ov S hm_
    clear hm_ S
    (apply E_pcallX hE (c_r2Add _ _ _ _ Ou.lb M.1 ?_ ?_); (case hm => rfl); (case hle => exact u_up); all_goals (first | (intro w hw; cbv) | (first | exact Nat.le_trans Ou.len (by decide) | exact Nat.le_trans M.2.1 (by decide))))
    have W := align_w Ou M hw
    clear hw M
    (apply E_pcallX hE (k_r3Make _ _ _ W.1 ?_ W.2.2.1); (case hm => rfl); (case hle => exact u_up); all_goals (first | (intro t ht; cbv) | (exact Nat.le_trans W.2.1 (by decide))))
    have T : t = r := by rw [C.a2 k1 k2 nlt]; rw [← W.2.2.2]; exact ht
    rw [T]; exact ⟨rfl, rfl, rfl, trivial⟩


/-- of an exponent that is not too far from nought, if any -/
def Num.near (n : Num) : Prop := n.kind = 1 → -50000 ≤ n.e ∧ n.e ≤ 50000
theorem Num.near_fair {n : Num} (h : n.near) : n.fair.near := by
  unfold Num.fair
  split
  · exact h
  · intro k; exact absurd k (by decide)
theorem exact_near {n : Num} (o : n.ok) (h : n.near) : (lim n.exact.1.2.1).length ≤ 1000 ∧ (-100000 ≤ n.exact.1.2.2 ∧ n.exact.1.2.2 ≤ 100000) := by
  have l := (exact_len o).1
  refine ⟨by omega, ?_⟩
  by_cases k : n.may = true ∧ n.kind = 1
  · have F : n.Fin := by
      rcases Num.may3 k.1 o with q | q | q
      · rw [q] at k; exact absurd k.2 (by decide)
      · exact q
      · have := k.2; rw [q] at this; exact absurd this (by show ¬ (2 : Int) = 1; decide)
    have hn := h k.2
    have lo := F.lo
    have hi := F.hi
    have v := v2_lt (n := n.m.toNat) (k := 64) (by omega) (by show n.m.toNat < 18446744073709551616; omega)
    have d := dyMake_val (ng := n.neg) (k := n.m.toNat) (e := n.e) (by omega) (by omega) (by omega)
    have u : n.exact.1 = dyMake n.neg n.m.toNat n.e := by
      unfold Num.exact
      rw [if_neg (by rw [k.1, k.2]; decide), if_neg (by rw [k.2]; decide)]
    rw [u, d.2.2.1]
    omega
  · have u : n.exact.1.2.2 = 0 := by
      unfold Num.exact
      split
      · rfl
      · rename_i q
        split
        · rfl
        · rename_i q2
          exfalso
          apply k
          have mm : n.may = true := by cases z : n.may; exact absurd (.inl z) q; rfl
          rcases Num.may3 mm o with s | s | s
          · rw [s] at q2; exact absurd rfl q2
          · exact ⟨mm, s.kind⟩
          · exact absurd (.inr (by rw [s]; rfl)) q
    rw [u]; decide
structure AddC (a b : Num) (up : Bool) (r : Num) : Prop where
  ii : a.kind = 2 → b.kind = 2 → a.neg ≠ b.neg → r = Num.inf (!up)
  ai : ¬ (a.kind = 2 ∧ b.kind = 2 ∧ a.neg ≠ b.neg) → a.kind = 2 → r = a
  bi : ¬ (a.kind = 2 ∧ b.kind = 2 ∧ a.neg ≠ b.neg) → ¬ a.kind = 2 → b.kind = 2 → r = b
  fin : ¬ (a.kind = 2 ∧ b.kind = 2 ∧ a.neg ≠ b.neg) → ¬ a.kind = 2 → ¬ b.kind = 2 → r = dyRound (dyPlus a.exact.1 b.exact.1) up
theorem radd_c {x y : Num} {up : Bool} {r : Num} (h : Num.radd x y up = r) : AddC x.fair y.fair up r := by
  constructor
  · intro k1 k2 k3; rw [← h]; unfold Num.radd; rw [if_pos ⟨k1, k2, k3⟩]
  · intro k1 k2; rw [← h]; unfold Num.radd; rw [if_neg k1, if_pos k2]
  · intro k1 k2 k3; rw [← h]; unfold Num.radd; rw [if_neg k1, if_neg k2, if_pos k3]
  · intro k1 k2 k3; rw [← h]; unfold Num.radd; rw [if_neg k1, if_neg k2, if_neg k3]
theorem dyPlus_len {p q : Bool × Nat × Int} (hp : (lim p.2.1).length ≤ 1000) (hq : (lim q.2.1).length ≤ 1000) (ep : -100000 ≤ p.2.2 ∧ p.2.2 ≤ 100000) (eq : -100000 ≤ q.2.2 ∧ q.2.2 ≤ 100000) :
    (lim (dyPlus p q).2.1).length ≤ 62500 ∧ -9223372036854775808 ≤ (dyPlus p q).2.2 ∧ (dyPlus p q).2.2 < 9223372036854775808 := by
  have nP := dyNorm_n hp ep.1 ep.2
  have nQ := dyNorm_n hq eq.1 eq.2
  have al : ∀ {L H : Bool × Nat × Int}, DyN L → DyN H → L.2.2 ≤ H.2.2 → (lim (dyAlign L H).2.1).length ≤ 62500 ∧ -9223372036854775808 ≤ (dyAlign L H).2.2 ∧ (dyAlign L H).2.2 < 9223372036854775808 := by
    intro L H hL hH hle
    have Oh := of_of hH rfl
    have Ol := of_of hL rfl
    obtain ⟨s, hs⟩ : ∃ s, s = (if IntKind.i64.wrap ((dyL H).2.2 - (dyL L).2.2) < 1 then lim (lv (dyL H).2.1) else if 16777216 < IntKind.i64.wrap ((dyL H).2.2 - (dyL L).2.2) then [] else lim (lv (dyL H).2.1 * 2 ^ (IntKind.i64.wrap ((dyL H).2.2 - (dyL L).2.2)).toNat)) := ⟨_, rfl⟩
    have S := align_shl Oh Ol hle rfl hs
    obtain ⟨m, hm'⟩ : ∃ m, m = ((dyL H).1 && decide (lv s ≠ 0), lim (lv s)) := ⟨_, rfl⟩
    have M := align_m (L := L) Oh S hm'
    obtain ⟨w, hw⟩ : ∃ w, w = ((wsum (dyL L).1 (lv (dyL L).2.1) m.1 (lv m.2)).1, lim (wsum (dyL L).1 (lv (dyL L).2.1) m.1 (lv m.2)).2) := ⟨_, rfl⟩
    have W := align_w Ol M hw
    have r := dyMake_rng w.1 (lv w.2) (dyL L).2.2
    rw [W.2.2.2] at r
    exact ⟨Nat.le_trans (lim_len_of W.1 r.2.2) (Nat.le_trans W.2.1 (by decide)), Int.le_trans (by decide) r.1, Int.lt_of_le_of_lt r.2.1 (by decide)⟩
  have one : ∀ {P : Bool × Nat × Int}, DyN P → (lim P.2.1).length ≤ 62500 ∧ -9223372036854775808 ≤ P.2.2 ∧ P.2.2 < 9223372036854775808 := fun h => ⟨Nat.le_trans h.len (by decide), Int.le_trans (by decide) h.lo, Int.lt_of_le_of_lt h.hi (by decide)⟩
  unfold dyPlus
  split
  · exact one nQ
  · split
    · exact one nP
    · split
      · exact al nQ nP (by omega)
      · exact al nP nQ (by omega)
theorem c_r6Add (x y : Num) (up : Bool) (ox : x.ok) (oy : y.ok) (nx : x.near) (ny : y.near) : ∃ t : Num, t = Num.add x y up ∧ CallsA Try.prog 75 [x.av, y.av, .bool (.s up)] t.av := by
  rw [← radd_eq ox oy]
  refine ⟨_, rfl, ?_⟩
  generalize hr : Num.radd x y up = r
  have C := radd_c hr
  have oa := Num.fair_ok ox
  have ob := Num.fair_ok oy
  have ea := exact_near oa (Num.near_fair nx)
  have eb := exact_near ob (Num.near_fair ny)
  have pl := dyPlus_len ea.1 eb.1 ea.2 eb.2
  clear hr
  refine callsA_of hG hm Try.func75 (by kernel_rfl) ?_
  intro E hE lp hl'
  cbv
  (apply E_callX hE (c_r6Fair ⟨_, _, _, _⟩); (case hf => rfl); (case hc => (cbv <;> trivial)); (case hle => exact u_up); all_goals (first | (intro a ha; cbv) | (assumption)))
  (apply E_callX hE (c_r6Fair ⟨_, _, _, _⟩); (case hf => rfl); (case hc => (cbv <;> trivial)); (case hle => exact u_up); all_goals (first | (intro b hb; cbv) | (assumption)))
  replace ha : a = x.fair := ha
  replace hb : b = y.fair := hb
  rw [← ha] at C oa ea pl
  rw [← hb] at C ob eb pl
  clear ha hb
  have eb' : E.bnot (E.beq a.neg b.neg) = (a.neg != b.neg) := by subst hE; rfl
  refine E_br hE (fun g1 => ?_) (fun g1 => ?_) <;> cbv
  · have a2 : a.kind = 2 := by subst hE; exact eql_t g1
    refine E_br hE (fun g2 => ?_) (fun g2 => ?_) <;> cbv
    · have b2 : b.kind = 2 := by subst hE; exact eql_t g2
      refine E_br hE (fun g3 => ?_) (fun g3 => ?_) <;> cbv
      · have ne : a.neg ≠ b.neg := by have k : (a.neg != b.neg) = true := eb'.symm.trans g3; simpa using k
        (apply E_callX hE (c_rInf _); (case hf => rfl); (case hc => (cbv <;> trivial)); (case hle => exact u_up); all_goals (first | (intro t ht; cbv) | (assumption)))
        have T : t = r := by
          have k : t = Num.inf (E.bnot up) := ht
          rw [k, C.ii a2 b2 ne]; subst hE; rfl
        rw [T]; exact ⟨rfl, rfl, rfl, rfl, trivial⟩
      · have ne : ¬ (a.kind = 2 ∧ b.kind = 2 ∧ a.neg ≠ b.neg) := fun k => k.2.2 (by have q : (a.neg != b.neg) = false := eb'.symm.trans g3; simpa using q)
        refine E_br_t hE g1 ?_
        cbv
        rw [C.ai ne a2]; exact ⟨rfl, rfl, rfl, rfl, trivial⟩
    · have b2 : ¬ b.kind = 2 := by subst hE; exact eql_f g2
      refine E_br_t hE g1 ?_
      cbv
      rw [C.ai (fun k => b2 k.2.1) a2]; exact ⟨rfl, rfl, rfl, rfl, trivial⟩
  have a2 : ¬ a.kind = 2 := by subst hE; exact eql_f g1
  refine E_br_f hE g1 ?_
  cbv
  refine E_br hE (fun g2 => ?_) (fun g2 => ?_) <;> cbv
  · have b2 : b.kind = 2 := by subst hE; exact eql_t g2
    rw [C.bi (fun k => a2 k.1) a2 b2]; exact ⟨rfl, rfl, rfl, rfl, trivial⟩
  have b2 : ¬ b.kind = 2 := by subst hE; exact eql_f g2
  have R := C.fin (fun k => a2 k.1) a2 b2
  clear C eb'
  (apply E_callX hE (c_rExact ⟨_, _, _, _⟩ ?_); (case hf => rfl); (case hc => (cbv <;> trivial)); (case hle => exact u_up); all_goals (first | (intro p hp; cbv) | (exact oa)))
  (apply E_callX hE (c_rExact ⟨_, _, _, _⟩ ?_); (case hf => rfl); (case hc => (cbv <;> trivial)); (case hle => exact u_up); all_goals (first | (intro q hq; cbv) | (exact ob)))
  have P : p.1 = dyL a.exact.1 := by rw [show p = (dyL a.exact.1, a.exact.2) from hp]
  have Q : q.1 = dyL b.exact.1 := by rw [show q = (dyL b.exact.1, b.exact.2) from hq]
  clear hp hq
  (apply E_callX hE (c_r3Two a.exact.1 b.exact.1 ea.1 eb.1 ea.2 eb.2 ⟨_, _, _⟩ ⟨_, _, _⟩ ?_ ?_); (case hf => rfl); (case hc => (cbv <;> trivial)); (case hle => exact u_up); all_goals (first | (intro s hs; cbv) | (first | exact P | exact Q)))
  (apply E_callX hE (k_rRound (dyPlus a.exact.1 b.exact.1) up pl.1 pl.2 ⟨_, _, _⟩ ?_); (case hf => rfl); (case hc => (cbv <;> trivial)); (case hle => exact u_up); all_goals (first | (intro t ht; cbv) | (exact hs)))
  have T : t = r := ht.trans R.symm
  rw [T]; exact ⟨rfl, rfl, rfl, rfl, trivial⟩

end Go.Proofs.Ytoghalnnmhpfmaa.Ev

/- What intervals have together, and the least one that has all of some: plain Lean. -/
namespace Go.Proofs.Ytoghalnnmhpfmaa.Ev
open Go

end Go.Proofs.Ytoghalnnmhpfmaa.Ev

/- The reference's sums, roots and what two intervals have are the program's: plain Lean. -/
namespace Go.Proofs.Ytoghalnnmhpfmaa.Ev
open Go

theorem Iv.make_self {x : Iv} (R : x.Real) : Iv.make x.lo x.hi = x := by
  rw [Iv.make_eq, Num.fair_of_may R.lom, Num.fair_of_may R.him]
  have e : (Iv.mk false x.lo x.hi) = x := (Iv.eq_iff _ _).2 ⟨R.some.symm, rfl, rfl⟩
  rw [e]; exact R.fair
/-- the sum of two -/
def Iv.radds (x y : Iv) : Iv := if (x.fair.empty || y.fair.empty) = true then Iv.none else Iv.make (Num.add x.fair.lo y.fair.lo false) (Num.add x.fair.hi y.fair.hi true)
theorem Iv.radds_eq (x y : Iv) : Iv.radds x y = Iv.add [x, y] := by
  unfold Iv.radds Iv.add
  rw [Iv.anyBad_two]
  split
  · rfl
  · rename_i h
    simp only [Bool.or_eq_true, not_or, Bool.not_eq_true] at h
    rw [Iv.fair_good h.1, Iv.fair_good h.2]
    rfl
end Go.Proofs.Ytoghalnnmhpfmaa.Ev

/- Contracts: the sum and the difference of two words with a carry; these have no body in the program's form: the model answers at once. -/
namespace Go.Proofs.Ytoghalnnmhpfmaa.Ev
open Go Go.Proofs Go.RowKit
set_option linter.unusedVariables false

theorem three_vals {O : Nat → Prop} {w : World} {x y c : Int} {vals : Array Value} (hl : [AV.int .u64 (.s x), AV.int .u64 (.s y), AV.int .u64 (.s c)].length = vals.size)
    (hr : ∀ (j : Nat) (a : AV), [AV.int .u64 (.s x), AV.int .u64 (.s y), AV.int .u64 (.s c)][j]? = some a → RoV O w a (vals.getD j undef)) : vals = #[.int .u64 x, .int .u64 y, .int .u64 c] := by
  have g : ∀ {n : Int} {v : Value}, RoV O w (.int .u64 (.s n)) v → v = .int .u64 n := by
    intro n v h; cases h; rename_i h; subst h; rfl
  have e0 := g (hr 0 _ rfl)
  have e1 := g (hr 1 _ rfl)
  have e2 := g (hr 2 _ rfl)
  obtain ⟨l⟩ := vals
  rcases l with _ | ⟨a, _ | ⟨b, _ | ⟨d, _ | ⟨e, r⟩⟩⟩⟩ <;> simp at hl
  simp at e0 e1 e2
  rw [e0, e1, e2]

theorem ro_pair {O : Nat → Prop} {w : World} (a b : Int) : RoV O w (.tup [.int .u64 (.s a), .int .u64 (.s b)]) (.tuple #[.int .u64 a, .int .u64 b]) := by
  refine .tup _ _ rfl (fun j c hj => ?_)
  match j, hj with
  | 0, hj => simp at hj; subst hj; exact .int _ _ _ rfl
  | 1, hj => simp at hj; subst hj; exact .int _ _ _ rfl
  | j + 2, hj => simp at hj

theorem c_Add64 (x y c : Int) (hx : 0 ≤ x) (hy : 0 ≤ y) (hc0 : 0 ≤ c) (hc : c ≤ 1) : ∃ t : Int × Int, t = ((x + y + c) % 18446744073709551616, (x + y + c) / 18446744073709551616) ∧
    CallsA Try.prog 94 [.int .u64 (.s x), .int .u64 (.s y), .int .u64 (.s c)] (.tup [.int .u64 (.s t.1), .int .u64 (.s t.2)]) := by
  refine ⟨_, rfl, fun O w vals hO hl hr => .inr ⟨.tuple #[.int .u64 ((x + y + c) % 18446744073709551616), .int .u64 ((x + y + c) / 18446744073709551616)], ?_, _, rfl, ro_pair _ _, Below.refl _ _⟩⟩
  rw [three_vals hl hr, run_callFunc_extern Try.func94 (by kernel_rfl) (by kernel_rfl) (by kernel_rfl) (e := add64Entry) (by kernel_rfl), run_add64 x y c hx hy hc0 hc]
  rfl

def subE : Array Value → Sem Value := (Extern.MathBitsCarry.rows.getD 1 ("", fun _ => pure .nilIface)).2
theorem run_subE {P : Program} (x y b : Int) (hx : 0 ≤ x) (hy : 0 ≤ y) (hy' : y < 18446744073709551616) (hb0 : 0 ≤ b) (hb : b ≤ 1) (w : World) :
    (subE #[.int .u64 x, .int .u64 y, .int .u64 b]).run P w = .ok (.tuple #[.int .u64 ((x - y - b) % 18446744073709551616), .int .u64 (if x < y + b then 1 else 0)]) w := by
  have key : ∀ k : Nat, k ≤ 1 → (subE #[.int .u64 x, .int .u64 y, .int .u64 (k : Int)]).run P w =
      .ok (Extern.MathBitsCarry.pair ((x.toNat + Extern.MathBitsCarry.m64 - y.toNat - k) % Extern.MathBitsCarry.m64) (if x.toNat < y.toNat + k then 1 else 0)) w := by
    intro k hk
    have : k = 0 ∨ k = 1 := by omega
    rcases this with rfl | rfl <;> rfl
  obtain ⟨k, rfl⟩ := Int.eq_ofNat_of_zero_le hb0
  rw [key k (by omega)]
  obtain ⟨X, rfl⟩ := Int.eq_ofNat_of_zero_le hx
  obtain ⟨Y, rfl⟩ := Int.eq_ofNat_of_zero_le hy
  have e1 : ((((X : Int).toNat + Extern.MathBitsCarry.m64 - (Y : Int).toNat - k) % Extern.MathBitsCarry.m64 : Nat) : Int) = ((X : Int) - Y - k) % 18446744073709551616 := by
    simp only [Extern.MathBitsCarry.m64, Int.toNat_natCast]; omega
  have e2 : (((if (X : Int).toNat < (Y : Int).toNat + k then 1 else 0 : Nat)) : Int) = if (X : Int) < Y + k then 1 else 0 := by
    simp only [Int.toNat_natCast]; split <;> split <;> omega
  show Result.ok (Value.tuple #[.int .u64 _, .int .u64 _]) w = _
  rw [← e1, ← e2]
  rfl
theorem c_Sub64 (x y b : Int) (hx : 0 ≤ x) (hy : 0 ≤ y) (hy' : y < 18446744073709551616) (hb0 : 0 ≤ b) (hb : b ≤ 1) : ∃ t : Int × Int, t = ((x - y - b) % 18446744073709551616, if x < y + b then 1 else 0) ∧
    CallsA Try.prog 95 [.int .u64 (.s x), .int .u64 (.s y), .int .u64 (.s b)] (.tup [.int .u64 (.s t.1), .int .u64 (.s t.2)]) := by
  refine ⟨_, rfl, fun O w vals hO hl hr => .inr ⟨.tuple #[.int .u64 ((x - y - b) % 18446744073709551616), .int .u64 (if x < y + b then 1 else 0)], ?_, _, rfl, ro_pair _ _, Below.refl _ _⟩⟩
  rw [three_vals hl hr, run_callFunc_extern Try.func95 (by kernel_rfl) (by kernel_rfl) (by kernel_rfl) (e := subE) (by kernel_rfl), run_subE x y b hx hy hy' hb0 hb]
  rfl
end Go.Proofs.Ytoghalnnmhpfmaa.Ev

/- Contracts: sums. Printed by gen.py out of C14.spec. -/
namespace Go.Proofs.Ytoghalnnmhpfmaa.Ev
open Go Go.Proofs
set_option linter.unusedVariables false
set_option linter.unusedSimpArgs false

theorem c_lower (m : Int) (k : Int) (h0 : 0 < m) (h1 : m < 18446744073709551616) (h2 : 0 ≤ k) (h3 : k < 9223372036854775808) : ∃ t : Dbl, t = lowerP m k ∧ CallsA Try.prog 93 [.int .u64 (.s m), .int .i64 (.s k)] (t.av) := by
  refine ⟨_, rfl, ?_⟩
  generalize hr : lowerP m k = r
  refine callsA_of hG hm Try.func93 (by kernel_rfl) ?_
  intro E hE lp hl
  cbv
  repeat' (first
    | (apply E_br_t hE; assumption; cbv)
    | (apply E_br_f hE; assumption; cbv)
    | (refine E_br hE (fun h => ?_) (fun h => ?_) <;> cbv)
    | (refine E_nm hE (fun v hv => ?_); cbv)
    | fail)
  all_goals (subst hE; subst hr)
  all_goals (try simp only [realE, cmp_eql, cmp_neq, cmp_lss, cmp_leq, cmp_gtr, cmp_geq, intBinR, decide_eq_true_eq, decide_eq_false_iff_not, SI.val, SB.val, Num.eta, Iv.eta] at *)
  all_goals (try (exfalso; (try simp only [wi64] at *); omega))
  case refine_1.refine_2.refine_2 =>
    rw [lower_small h2 ‹k < 64›, show IntKind.i64.wrap (64 - k) = 64 - k by (simp only [wi64]; omega), show min k.toNat IntKind.u64.bits = k.toNat by (show min k.toNat 64 = _; omega),
      show min (64 - k).toNat IntKind.u64.bits = (64 - k).toNat by (show min (64 - k).toNat 64 = _; omega), shr_lit (Int.le_of_lt (two_pos _)), wu64]
    exact ⟨rfl, rfl, rfl, trivial⟩
  case refine_2.refine_1.refine_2.refine_2 =>
    have ev : v = k - 64 := by rw [hv]; simp only [wi64]; omega
    subst ev
    rw [lower_mid (by omega) h1 (by omega) ‹k < 128›, show IntKind.i64.wrap (64 - (k - 64)) = 128 - k by (simp only [wi64]; omega), show min (k - 64).toNat IntKind.u64.bits = (k - 64).toNat by (show min (k - 64).toNat 64 = _; omega),
      show min (128 - k).toNat IntKind.u64.bits = (128 - k).toNat by (show min (128 - k).toNat 64 = _; omega), shr_lit (Int.le_of_lt (two_pos _)), wu64]
    exact ⟨rfl, rfl, rfl, trivial⟩
  case refine_2.refine_2 =>
    rw [lower_far h0 h1 (by omega)]
    exact ⟨rfl, rfl, rfl, trivial⟩

theorem c_plus (a : Num) (b : Num) (up : Bool) (ha : a.Fin) (hb : b.Fin) (hk : b.e ≤ a.e) : ∃ t : Num, t = plusP a b up ∧ CallsA Try.prog 73 [a.av, b.av, .bool (.s up)] (t.av) := by
  refine ⟨_, rfl, ?_⟩
  generalize hr : plusP a b up = r
  refine callsA_of hG hm Try.func73 (by kernel_rfl) ?_
  intro E hE lp hl
  cbv
  repeat' (first
    | (apply E_br_t hE; assumption; cbv)
    | (apply E_br_f hE; assumption; cbv)
    | (refine E_br hE (fun h => ?_) (fun h => ?_) <;> cbv)
    | (refine E_nm hE (fun v hv => ?_); cbv)
    | (apply E_callX hE (c_lower _ _ ?_ ?_ ?_ ?_); (case hf => rfl); (case hc => (cbv <;> trivial)); (case hle => exact u_up); all_goals (first | (intro t ht; cbv) | (subst hE; (try simp only [realE, cmp_eql, cmp_neq, cmp_lss, cmp_leq, cmp_gtr, cmp_geq, intBinR, decide_eq_true_eq, decide_eq_false_iff_not, SI.val, SB.val, Num.eta, Iv.eta] at *); (have := ha.lo; have := ha.hi; have := hb.lo; have := hb.hi; have := ha.elo; have := ha.ehi; have := hb.elo; have := hb.ehi; first | omega | exact (show 0 < b.m by omega) | exact (show b.m < 18446744073709551616 by omega) | exact (show 0 ≤ IntKind.i64.wrap (a.e - b.e) by (simp only [wi64]; omega)) | exact (show IntKind.i64.wrap (a.e - b.e) < 9223372036854775808 by (simp only [wi64]; omega)) | exact (show 0 ≤ a.m by omega) | (subst_vars; exact lowerP_nn _ _ (by omega))))))
    | (apply E_callX hE (c_Add64 _ _ _ ?_ ?_ ?_ ?_); (case hf => rfl); (case hc => (cbv <;> trivial)); (case hle => exact u_up); all_goals (first | (intro t ht; cbv) | (subst hE; (try simp only [realE, cmp_eql, cmp_neq, cmp_lss, cmp_leq, cmp_gtr, cmp_geq, intBinR, decide_eq_true_eq, decide_eq_false_iff_not, SI.val, SB.val, Num.eta, Iv.eta] at *); (have := ha.lo; have := ha.hi; have := hb.lo; have := hb.hi; have := ha.elo; have := ha.ehi; have := hb.elo; have := hb.ehi; first | omega | exact (show 0 < b.m by omega) | exact (show b.m < 18446744073709551616 by omega) | exact (show 0 ≤ IntKind.i64.wrap (a.e - b.e) by (simp only [wi64]; omega)) | exact (show IntKind.i64.wrap (a.e - b.e) < 9223372036854775808 by (simp only [wi64]; omega)) | exact (show 0 ≤ a.m by omega) | (subst_vars; exact lowerP_nn _ _ (by omega))))))
    | (apply E_callX hE (c_Grow _ _ _ _ _); (case hf => rfl); (case hc => (cbv <;> trivial)); (case hle => exact u_up); intro t ht; cbv)
    | fail)
  all_goals (subst hE; subst hr)
  all_goals (try simp only [realE, cmp_eql, cmp_neq, cmp_lss, cmp_leq, cmp_gtr, cmp_geq, intBinR, decide_eq_true_eq, decide_eq_false_iff_not, SI.val, SB.val, Num.eta, Iv.eta] at *)
  all_goals (refine Num.fin (t := t) ?_)
  all_goals (subst_vars; dsimp only at *)
  all_goals (have hw : IntKind.i64.wrap (a.e - b.e) = a.e - b.e := by (have := ha.elo; have := ha.ehi; have := hb.elo; have := hb.ehi; rw [wi64]; omega))
  all_goals (simp only [hw] at *)
  all_goals (first | rw [plus_carry ha hb rfl ‹_›] | rw [plus_flat ha hb rfl ‹_›])
  all_goals (first | (simp [*]; done) | (simp [*]; rfl) | trace_state)

end Go.Proofs.Ytoghalnnmhpfmaa.Ev

/- Contracts: differences. Printed by gen.py out of C15.spec. -/
namespace Go.Proofs.Ytoghalnnmhpfmaa.Ev
open Go Go.Proofs
set_option linter.unusedVariables false
set_option linter.unusedSimpArgs false

set_option maxHeartbeats 4000000 in
theorem c_minus (a : Num) (b : Num) (up : Bool) (ha : a.Fin) (hb : b.Fin) (hk : b.e ≤ a.e) (hgt : b.e < a.e ∨ b.m < a.m) : ∃ t : Num, t = minusP a b up ∧ CallsA Try.prog 74 [a.av, b.av, .bool (.s up)] (t.av) := by
  refine ⟨_, rfl, ?_⟩
  generalize hr : minusP a b up = r
  refine callsA_of hG hm Try.func74 (by kernel_rfl) ?_
  intro E hE lp hl
  cbv
  repeat' (first
    | (apply E_br_t hE; assumption; cbv)
    | (apply E_br_f hE; assumption; cbv)
    | (refine E_br hE (fun h => ?_) (fun h => ?_) <;> cbv)
    | (refine E_nm hE (fun v hv => ?_); cbv)
    | (apply E_callX hE (c_lower _ _ ?_ ?_ ?_ ?_); (case hf => rfl); (case hc => (cbv <;> trivial)); (case hle => exact u_up); all_goals (first | (intro t ht; cbv) | (subst hE; (try simp only [realE, cmp_eql, cmp_neq, cmp_lss, cmp_leq, cmp_gtr, cmp_geq, intBinR, decide_eq_true_eq, decide_eq_false_iff_not, SI.val, SB.val, Num.eta, Iv.eta] at *); (have := ha.lo; have := ha.hi; have := hb.lo; have := hb.hi; have := ha.elo; have := ha.ehi; have := hb.elo; have := hb.ehi; first | omega | exact (show 0 < b.m by omega) | exact (show b.m < 18446744073709551616 by omega) | exact (show 0 ≤ IntKind.i64.wrap (a.e - b.e) by (simp only [wi64]; omega)) | exact (show IntKind.i64.wrap (a.e - b.e) < 9223372036854775808 by (simp only [wi64]; omega)) | exact (show 0 ≤ a.m by omega) | (subst_vars; first | exact lowerP_nn _ _ (by omega) | exact lowerP_lo _ _ | exact lowerP_lo2 _ _ | exact lowerP_hi2 _ _ (by omega) (by omega) | (dsimp only; first | exact Int.emod_nonneg _ (by decide) | exact Int.emod_lt_of_pos _ (by decide) | exact borrow_nn _ | exact borrow_le _))))))
    | (apply E_callX hE (c_Sub64 _ _ _ ?_ ?_ ?_ ?_ ?_); (case hf => rfl); (case hc => (cbv <;> trivial)); (case hle => exact u_up); all_goals (first | (intro t ht; cbv) | (subst hE; (try simp only [realE, cmp_eql, cmp_neq, cmp_lss, cmp_leq, cmp_gtr, cmp_geq, intBinR, decide_eq_true_eq, decide_eq_false_iff_not, SI.val, SB.val, Num.eta, Iv.eta] at *); (have := ha.lo; have := ha.hi; have := hb.lo; have := hb.hi; have := ha.elo; have := ha.ehi; have := hb.elo; have := hb.ehi; first | omega | exact (show 0 < b.m by omega) | exact (show b.m < 18446744073709551616 by omega) | exact (show 0 ≤ IntKind.i64.wrap (a.e - b.e) by (simp only [wi64]; omega)) | exact (show IntKind.i64.wrap (a.e - b.e) < 9223372036854775808 by (simp only [wi64]; omega)) | exact (show 0 ≤ a.m by omega) | (subst_vars; first | exact lowerP_nn _ _ (by omega) | exact lowerP_lo _ _ | exact lowerP_lo2 _ _ | exact lowerP_hi2 _ _ (by omega) (by omega) | (dsimp only; first | exact Int.emod_nonneg _ (by decide) | exact Int.emod_lt_of_pos _ (by decide) | exact borrow_nn _ | exact borrow_le _))))))
    | (apply E_callX hE (c_LZ64 _ ?_ ?_); (case hf => rfl); (case hc => (cbv <;> trivial)); (case hle => exact u_up); all_goals (first | (intro t ht; cbv) | (subst hE; (try simp only [realE, cmp_eql, cmp_neq, cmp_lss, cmp_leq, cmp_gtr, cmp_geq, intBinR, decide_eq_true_eq, decide_eq_false_iff_not, SI.val, SB.val, Num.eta, Iv.eta] at *); (have := ha.lo; have := ha.hi; have := hb.lo; have := hb.hi; have := ha.elo; have := ha.ehi; have := hb.elo; have := hb.ehi; first | omega | exact (show 0 < b.m by omega) | exact (show b.m < 18446744073709551616 by omega) | exact (show 0 ≤ IntKind.i64.wrap (a.e - b.e) by (simp only [wi64]; omega)) | exact (show IntKind.i64.wrap (a.e - b.e) < 9223372036854775808 by (simp only [wi64]; omega)) | exact (show 0 ≤ a.m by omega) | (subst_vars; first | exact lowerP_nn _ _ (by omega) | exact lowerP_lo _ _ | exact lowerP_lo2 _ _ | exact lowerP_hi2 _ _ (by omega) (by omega) | (dsimp only; first | exact Int.emod_nonneg _ (by decide) | exact Int.emod_lt_of_pos _ (by decide) | exact borrow_nn _ | exact borrow_le _))))))
    | (apply E_callX hE (c_Grow _ _ _ _ _); (case hf => rfl); (case hc => (cbv <;> trivial)); (case hle => exact u_up); intro t ht; cbv)
    | fail)
  all_goals (subst hE; subst hr)
  all_goals (try simp only [realE, cmp_eql, cmp_neq, cmp_lss, cmp_leq, cmp_gtr, cmp_geq, intBinR, decide_eq_true_eq, decide_eq_false_iff_not, SI.val, SB.val, Num.eta, Iv.eta] at *)
  all_goals (try refine Num.fin (t := t) ?_)
  all_goals (subst_vars; dsimp only at *)
  all_goals (have hw : IntKind.i64.wrap (a.e - b.e) = a.e - b.e := by (have := ha.elo; have := ha.ehi; have := hb.elo; have := hb.ehi; rw [wi64]; omega))
  all_goals (simp only [hw] at *)
  all_goals (first
    | (have P := minus_parts (D := lowerP b.m (a.e - b.e)) (c := 1) ha hb hk hgt rfl (by rw [if_pos ‹(lowerP b.m (a.e - b.e)).cut = true›]) rfl rfl rfl)
    | (have P := minus_parts (D := lowerP b.m (a.e - b.e)) (c := 0) ha hb hk hgt rfl (by rw [if_neg (by rw [‹(lowerP b.m (a.e - b.e)).cut = false›]; decide)]) rfl rfl rfl))
  all_goals (obtain ⟨z0, z1, ehi, elo, ecut⟩ := P; simp only [ehi, elo, ecut] at *; clear ehi elo)
  all_goals (have bn := blen_nonneg (minusZ a b % 18446744073709551616); have bn2 := blen_nonneg (minusZ a b / 18446744073709551616))
  all_goals (try (exfalso; (try simp only [wi64] at *); omega))
  all_goals (try (exfalso; exact Bool.noConfusion (‹plusC a b = true›.symm.trans ‹plusC a b = false›)))
  all_goals first
    | rw [minus_A_zero ha z0 (by omega) (by omega)]
    | rw [minus_B_zero ha z0 z1 (by omega) (by omega)]
    | rw [minus_B_pos ha z0 z1 (by omega) (by omega)]
    | rw [minus_A_pos ha z0 (by omega)]
  all_goals first
    | (rw [‹plusC a b = true›]; rfl)
    | (rw [‹plusC a b = false›]; rfl)
    | trace_state

end Go.Proofs.Ytoghalnnmhpfmaa.Ev

/- Contracts: the sum of two numbers. Printed by gen.py out of C16.spec. -/
namespace Go.Proofs.Ytoghalnnmhpfmaa.Ev
open Go Go.Proofs
set_option linter.unusedVariables false
set_option linter.unusedSimpArgs false

set_option maxHeartbeats 4000000 in
theorem c_arAdd (a : Num) (b : Num) (up : Bool) (ha : a.ok) (hb : b.ok) : ∃ t : Num, t = Num.add a b up ∧ CallsA Try.prog 45 [a.av, b.av, .bool (.s up)] (t.av) := by
  refine ⟨_, rfl, ?_⟩
  generalize hr : Num.add a b up = r
  refine callsA_of hG hm Try.func45 (by kernel_rfl) ?_
  intro E hE lp hl
  cbv
  repeat' (first
    | (apply E_br_t hE; assumption; cbv)
    | (apply E_br_f hE; assumption; cbv)
    | (refine E_br hE (fun h => ?_) (fun h => ?_) <;> cbv)
    | (refine E_nm hE (fun v hv => ?_); cbv)
    | (apply E_pcallX hE (c_arFair ⟨_, _, _, _⟩); (case hm => rfl); (case hle => exact u_up); intro t ht; cbv)
    | (apply E_callX hE (c_Inf _); (case hf => rfl); (case hc => (cbv <;> trivial)); (case hle => exact u_up); intro t ht; cbv)
    | (apply E_callX hE (c_plus ⟨_, _, _, _⟩ ⟨_, _, _, _⟩ _ ?_ ?_ ?_); (case hf => rfl); (case hc => (cbv <;> trivial)); (case hle => exact u_up); all_goals (first | (intro t ht; cbv) | (subst hE; (try simp only [realE, cmp_eql, cmp_neq, cmp_lss, cmp_leq, cmp_gtr, cmp_geq, intBinR, decide_eq_true_eq, decide_eq_false_iff_not, SI.val, SB.val, Num.eta, Iv.eta] at *); (subst_vars; have fa := Num.fin_of (n := a) ‹_› ‹_›; have fb := Num.fin_of (n := b) ‹_› ‹_›; have FA : a.fair.Fin := ⟨fa.1, fa.2.1, (Num.fair_ok ha).2, fa.2.2.1, fa.2.2.2⟩; have FB : b.fair.Fin := ⟨fb.1, fb.2.1, (Num.fair_ok hb).2, fb.2.2.1, fb.2.2.2⟩; first | exact FA | exact FB | exact (show b.fair.e ≤ a.fair.e by omega) | exact (show a.fair.e ≤ b.fair.e by omega) | exact (show b.fair.e < a.fair.e ∨ b.fair.m < a.fair.m by omega) | exact (show a.fair.e < b.fair.e ∨ a.fair.m < b.fair.m by omega)))))
    | (apply E_callX hE (c_minus ⟨_, _, _, _⟩ ⟨_, _, _, _⟩ _ ?_ ?_ ?_ ?_); (case hf => rfl); (case hc => (cbv <;> trivial)); (case hle => exact u_up); all_goals (first | (intro t ht; cbv) | (subst hE; (try simp only [realE, cmp_eql, cmp_neq, cmp_lss, cmp_leq, cmp_gtr, cmp_geq, intBinR, decide_eq_true_eq, decide_eq_false_iff_not, SI.val, SB.val, Num.eta, Iv.eta] at *); (subst_vars; have fa := Num.fin_of (n := a) ‹_› ‹_›; have fb := Num.fin_of (n := b) ‹_› ‹_›; have FA : a.fair.Fin := ⟨fa.1, fa.2.1, (Num.fair_ok ha).2, fa.2.2.1, fa.2.2.2⟩; have FB : b.fair.Fin := ⟨fb.1, fb.2.1, (Num.fair_ok hb).2, fb.2.2.1, fb.2.2.2⟩; first | exact FA | exact FB | exact (show b.fair.e ≤ a.fair.e by omega) | exact (show a.fair.e ≤ b.fair.e by omega) | exact (show b.fair.e < a.fair.e ∨ b.fair.m < a.fair.m by omega) | exact (show a.fair.e < b.fair.e ∨ a.fair.m < b.fair.m by omega)))))
    | fail)
  all_goals (subst hE; subst hr)
  all_goals (try simp only [realE, cmp_eql, cmp_neq, cmp_lss, cmp_leq, cmp_gtr, cmp_geq, intBinR, decide_eq_true_eq, decide_eq_false_iff_not, SI.val, SB.val, Num.eta, Iv.eta] at *)
  all_goals subst_vars
  all_goals (try (exfalso; omega))
  all_goals (refine Num.fin (t := ⟨_, _, _, _⟩) ?_)
  all_goals (unfold Num.add Num.addF Num.addS)
  all_goals ((repeat' split) <;> first | rfl | (exfalso; omega) | (exfalso; simp_all; done) | (exfalso; simp_all; omega))

end Go.Proofs.Ytoghalnnmhpfmaa.Ev

/- Contracts: the product of intervals. -/
namespace Go.Proofs.Ytoghalnnmhpfmaa.Ev
open Go Go.Proofs
set_option linter.unusedVariables false

theorem iv_cells_self {x : Iv} : sleL sle0 x.cells x.cells :=
  ⟨rfl, ⟨rfl, rfl⟩, rfl, ⟨rfl, rfl⟩, ⟨rfl, rfl⟩, ⟨rfl, rfl⟩, rfl, ⟨rfl, rfl⟩, ⟨rfl, rfl⟩, trivial⟩
theorem slcO2 {P : Program} {E : Env} (hE : E = realE P) {a b z : Iv} {d : List AV} : sle2 (.slc 9 (.l 2) (E.rfun [a.cells, b.cells] 0 d)) (.slc 9 (.s 2) (fun i => Iv.cells ([a, b].getD i z))) := by
  subst hE
  refine ⟨rfl, rfl, fun i hi => ?_⟩
  match i, hi with
  | 0, _ => exact iv_cells_self
  | 1, _ => exact iv_cells_self
  | i + 2, hi => exact absurd hi (by simp [SI.val])

theorem c_opMul (a b : Iv) (h1 : a.lo.ok) (h2 : a.hi.ok) (h3 : b.lo.ok) (h4 : b.hi.ok) : ∃ t, t = Iv.mul a b ∧ CallsA Try.prog 6 [a.av, b.av] t.av := by
  refine ⟨_, rfl, ?_⟩
  generalize hr : Iv.mul a b = r
  refine callsA_of hG hm Try.func6 (by kernel_rfl) ?_
  intro E hE lp hl
  cbv
  (apply E_callX hE (c_none [a, b] 2 rfl (by decide)); (case hf => rfl); (case hc => (cbv <;> trivial)); (case hle => exact ⟨slcO2 hE, trivial⟩); intro t ht; cbv)
  refine E_br hE (fun h => ?_) (fun h => ?_) <;> cbv
  · (apply E_callX hE c_ivNone; (case hf => rfl); (case hc => (cbv <;> trivial)); (case hle => exact trivial); intro t' ht'; cbv)
    have e : t' = r := by
      rw [← hr, ht']; unfold Iv.mul; rw [if_pos (by rw [← ht]; exact h)]
    subst e
    exact ⟨rfl, rfl, rfl, rfl, rfl, rfl, rfl, rfl, rfl, trivial⟩
  · (apply E_callX hE (c_corners a b 25 Num.mul Num.ok (fun x y up hx hy => c_arMul x y up hx hy) h1 h2 h3 h4); (case hf => rfl); (case hc => (cbv <;> trivial)); (case hle => (repeat' (first | exact u_nil | apply u_cons | apply u2_agg | exact u2_int | exact u1_int | exact u2_bool | exact u1_bool | exact u2_sli | exact u1_sli | exact u2_s0 | exact u1_s0 | exact u2_fn))); intro t' ht'; cbv)
    have e : t' = r := by
      rw [← hr, ht']; unfold Iv.mul; rw [if_neg (by rw [← ht, h]; simp)]; rfl
    subst e
    exact ⟨rfl, rfl, rfl, rfl, rfl, rfl, rfl, rfl, rfl, trivial⟩
end Go.Proofs.Ytoghalnnmhpfmaa.Ev

/- Contracts: a division of two words by one. -/
namespace Go.Proofs.Ytoghalnnmhpfmaa.Ev
open Go Go.Proofs
set_option linter.unusedVariables false
set_option maxHeartbeats 4000000 in
theorem c_Div64 (hi lo y : Int) (h1 : 0 ≤ hi) (h2 : hi < y) (h3 : 9223372036854775808 ≤ y) (h4 : y < 18446744073709551616) (h5 : 0 ≤ lo) (h6 : lo < 18446744073709551616) :
    ∃ t : Int × Int, t = ((hi * 18446744073709551616 + lo) / y, (hi * 18446744073709551616 + lo) % y) ∧
      CallsA Try.prog 68 [.int .u64 (.s hi), .int .u64 (.s lo), .int .u64 (.s y)] (.tup [.int .u64 (.s t.1), .int .u64 (.s t.2)]) := by
  refine ⟨_, rfl, ?_⟩
  generalize hr : ((hi * 18446744073709551616 + lo) / y, (hi * 18446744073709551616 + lo) % y) = r
  refine callsA_of hG hm Try.func68 (by kernel_rfl) ?_
  intro E hE lp hl
  cbv
  refine E_br hE (fun a => ?_) (fun a => ?_)
  · exfalso; subst hE; simp only [realE, cmp_eql, decide_eq_true_eq] at a; omega
  clear a; cbv
  refine E_br hE (fun a => ?_) (fun a => ?_)
  · exfalso; subst hE; simp only [realE, cmp_leq, decide_eq_true_eq] at a; omega
  clear a; cbv
  refine E_br hE (fun a => ?_) (fun a => ?_)
  · have e : hi = 0 := by subst hE; simpa only [realE, cmp_eql, decide_eq_true_eq] using a
    cbv
    refine E_br hE (fun a => ?_) (fun a => ?_)
    · exfalso; subst hE; simp only [realE, cmp_eql, decide_eq_true_eq] at a; omega
    cbv
    repeat' (first
      | (refine E_nm hE (fun v hv => ?_); cbv)
      | (refine E_br hE (fun a => ?_) (fun a => ?_); (exfalso; subst hE; simp only [realE, cmp_eql, decide_eq_true_eq] at a; omega); cbv)
      | fail)
    rename_i v1 hv1
    subst hE
    have b1 := Int.ediv_nonneg h5 (show (0 : Int) ≤ y by omega)
    have b2 := Int.ediv_le_self y h5
    have e1 : v1 = lo / y := by
      rw [hv1]; show IntKind.u64.wrap (lo.tdiv y) = _; rw [Int.tdiv_eq_ediv_of_nonneg h5, wu64]; omega
    have e2 : v = lo % y := by rw [hv]; show lo.tmod y = _; rw [Int.tmod_eq_emod_of_nonneg h5]
    rw [← hr, e, e1, e2]
    simp
  clear a; cbv
  (apply E_callX hE (c_LZ64 y (by omega) (by omega)); (case hf => rfl); (case hc => (cbv <;> trivial)); (case hle => exact ⟨u2_int, trivial⟩); intro t ht; cbv)
  have ht0 : t = 0 := by rw [ht, blen_top h3 h4]; rfl
  subst ht0
  refine E_nm hE (fun s hs => ?_)
  have e : s = 0 := by subst hE; rw [hs]; rfl
  subst e; cbv
  refine E_br hE (fun a => ?_) (fun a => ?_)
  · exfalso; subst hE; simp only [realE, cmp_lss, decide_eq_true_eq] at a; omega
  cbv
  refine E_nm hE (fun y' hy' => ?_)
  have e : y' = y := by subst hE; rw [hy']; exact shl0 y (by omega) h4
  subst e; cbv
  refine E_nm hE (fun yh hyh => ?_)
  have e1 : yh = y' / 4294967296 := by subst hE; rw [hyh]; exact shr32 y'
  clear hyh; cbv
  refine E_nm hE (fun yl hyl => ?_)
  have e2 : yl = y' % 4294967296 := by subst hE; rw [hyl]; exact and_32' y'
  clear hyl; cbv
  refine E_br hE (fun a => ?_) (fun a => ?_)
  · exfalso; subst hE; simp only [realE, cmp_lss, decide_eq_true_eq] at a; omega
  cbv
  refine E_br hE (fun a => ?_) (fun a => ?_)
  · exfalso; subst hE; simp only [realE, cmp_lss, decide_eq_true_eq, intBinR] at a; rw [show IntKind.u64.wrap (64 - 0) = 64 by decide] at a; omega
  cbv
  refine E_nm hE (fun u hu => ?_)
  have e : u = hi := by
    subst hE; rw [hu]
    show IntKind.u64.wrap ((BitVec.ofInt IntKind.u64.bits (IntKind.u64.wrap (hi * 2 ^ min (Int.toNat 0) IntKind.u64.bits)) ||| BitVec.ofInt IntKind.u64.bits (lo.fdiv (2 ^ min (Int.toNat 64) IntKind.u64.bits))).toNat : Int) = hi
    rw [shl0 hi h1 (by omega), shr64 lo h5 h6, or_0 hi h1 (by omega)]
  subst e; cbv
  refine E_br hE (fun a => ?_) (fun a => ?_)
  · exfalso; subst hE; simp only [realE, cmp_lss, decide_eq_true_eq] at a; omega
  cbv
  refine E_nm hE (fun l' hl' => ?_)
  have e : l' = lo := by subst hE; rw [hl']; exact shl0 lo h5 h6
  subst e; cbv
  refine E_nm hE (fun lh hlh => ?_)
  have e3 : lh = l' / 4294967296 := by subst hE; rw [hlh]; exact shr32 l'
  clear hlh; cbv
  refine E_nm hE (fun ll hll => ?_)
  have e4 : ll = l' % 4294967296 := by subst hE; rw [hll]; exact and_32' l'
  clear hll; cbv
  refine E_br hE (fun a => ?_) (fun a => ?_)
  · exfalso; subst hE; simp only [realE, cmp_eql, decide_eq_true_eq] at a; omega
  cbv
  refine E_nm hE (fun q0 hq0 => ?_)
  have e5 : q0 = u / yh := by
    subst hE; rw [hq0]; show IntKind.u64.wrap (u.tdiv yh) = _
    have b1 := Int.ediv_nonneg h1 (show (0 : Int) ≤ yh by omega)
    have b2 := Int.ediv_le_self yh h1
    rw [Int.tdiv_eq_ediv_of_nonneg h1, wu64]; omega
  clear hq0; cbv
  refine E_nm hE (fun r0 hr0 => ?_)
  have D0 : Dig y' u lh q0 (u - q0 * yh) := by
    have := dig_start (y := y') (u := u) (un := lh) h3 h4 h1 h2 (by omega) (by omega)
    rw [← e1, ← e5] at this; exact this
  have e6 : r0 = u - q0 * yh := by
    subst hE; rw [hr0]; show IntKind.u64.wrap (u - IntKind.u64.wrap (q0 * yh)) = _
    have b1 := D0.pos
    have b2 := Int.mul_nonneg D0.nn (show (0 : Int) ≤ yh by omega)
    rw [wu64, wu64]
    generalize q0 * yh = p at *
    omega
  rw [← e6] at D0
  clear hr0 e6; cbv
  clear hs ht hy' hu hl' e5 a
  refine E_loop hE hG hm hl (ι := Int × Int) (fun p => ⟨[(2, .int .u64 (.s y')), (8, .int .u64 (.s 0)), (9, .int .u64 (.s yh)), (10, .int .u64 (.s yl)), (11, .int .u64 (.s u)), (12, .int .u64 (.s l')), (13, .int .u64 (.s lh)), (14, .int .u64 (.s ll)), (15, .int .u64 (.s p.1)), (16, .int .u64 (.s p.2))], []⟩)
    (fun p => p.1.toNat) (fun p => Dig y' u lh p.1 p.2) ⟨(q0, r0), D0, stLe rfl ?_⟩ ?_
  · repeat' (first | exact t_nil | apply t_cons | exact u2_int)
  rintro ⟨q, r'⟩ D
  dsimp only at D
  cbv
  have W := dig_words h3 h4 (show 0 ≤ lh by omega) (by omega) D
  rw [← e1, ← e2] at W
  have less : (4294967296 ≤ q ∨ r' * 4294967296 + lh < q * yl) → u * 4294967296 + lh < (q - 1 + 1) * y' ∧ r' + yh = u - (q - 1) * yh ∧ 1 ≤ q := by
    intro h; rw [e1]; exact dig_less h3 h4 h1 h2 (by omega) (by omega) D (by rw [← e2]; exact h)
  refine E_br hE (fun a => ?_) (fun a => ?_)
  · have H' : 4294967296 ≤ q ∨ r' * 4294967296 + lh < q * yl := .inl (by subst hE; simpa only [realE, cmp_geq, decide_eq_true_eq] using a)
    clear a
    cbv
    refine E_nm hE (fun qn hqn => ?_)
    cbv
    refine E_nm hE (fun rn hrn => ?_)
    obtain ⟨l1, l2, l3⟩ := less H'
    have eqn : qn = q - 1 := by
      subst hE; rw [hqn]; show IntKind.u64.wrap (q - 1) = _
      have := D.top
      rw [wu64]; omega
    have ern : rn = r' + yh := by subst hE; rw [hrn]; exact W.2.2
    rw [← eqn] at l1 l2
    rw [← ern] at l2
    cbv
    refine E_br hE (fun c => ?_) (fun c => ?_)
    · have c' : 4294967296 ≤ rn := by subst hE; simpa only [realE, cmp_geq, decide_eq_true_eq] using c
      have dt := D.top
      have R : Right y' u lh qn := right_of h3 h2 (by omega) (dig_right h3 h4 (by rw [← e1]; exact l2) (dig_break h4 (by omega) (by omega) (by omega) c')) l1 (by omega)
      clear hqn hrn c c' l1 l2 l3 H'
      cbv
      refine E_nm hE (fun w hw => ?_)
      have ew : w = u * 4294967296 + lh - qn * y' := by subst hE; rw [hw]; exact right_wrap h4 R
      have lw := right_left R
      rw [← ew] at lw
      clear hw
      cbv
      refine E_br hE (fun a => ?_) (fun a => ?_)
      · exfalso; subst hE; simp only [realE, cmp_eql, decide_eq_true_eq] at a; omega
      cbv
      refine E_nm hE (fun p0 hp0 => ?_)
      have e5 : p0 = w / yh := by
        subst hE; rw [hp0]; show IntKind.u64.wrap (w.tdiv yh) = _
        have b1 := Int.ediv_nonneg lw.1 (show (0 : Int) ≤ yh by omega)
        have b2 := Int.ediv_le_self yh lw.1
        rw [Int.tdiv_eq_ediv_of_nonneg lw.1, wu64]; omega
      clear hp0; cbv
      refine E_nm hE (fun s0 hs0 => ?_)
      have D1 : Dig y' w ll p0 (w - p0 * yh) := by
        have := dig_start (y := y') (u := w) (un := ll) h3 h4 lw.1 lw.2 (by omega) (by omega)
        rw [← e1, ← e5] at this; exact this
      have e6 : s0 = w - p0 * yh := by
        subst hE; rw [hs0]; show IntKind.u64.wrap (w - IntKind.u64.wrap (p0 * yh)) = _
        have b1 := D1.pos
        have b2 := Int.mul_nonneg D1.nn (show (0 : Int) ≤ yh by omega)
        rw [wu64, wu64]
        generalize p0 * yh = p at *
        omega
      rw [← e6] at D1
      clear hs0 e6 e5 a
      cbv
      refine E_loop hE hG hm hl (ι := Int × Int) (fun p => ⟨[(2, .int .u64 (.s y')), (8, .int .u64 (.s 0)), (9, .int .u64 (.s yh)), (10, .int .u64 (.s yl)), (14, .int .u64 (.s ll)), (15, .int .u64 (.s qn)), (17, .int .u64 (.s w)), (18, .int .u64 (.s p.1)), (16, .int .u64 (.s p.2))], []⟩)
        (fun p => p.1.toNat) (fun p => Dig y' w ll p.1 p.2) ⟨(p0, s0), D1, stLe rfl (by repeat' (first | exact t_nil | apply t_cons | exact u2_int))⟩ ?_
      rintro ⟨p, s⟩ D2
      dsimp only at D2
      cbv
      have W2 := dig_words h3 h4 (show 0 ≤ ll by omega) (by omega) D2
      rw [← e1, ← e2] at W2
      have less2 : (4294967296 ≤ p ∨ s * 4294967296 + ll < p * yl) → w * 4294967296 + ll < (p - 1 + 1) * y' ∧ s + yh = w - (p - 1) * yh ∧ 1 ≤ p := by
        intro h; rw [e1]; exact dig_less h3 h4 lw.1 lw.2 (by omega) (by omega) D2 (by rw [← e2]; exact h)
      have dt2 := D2.top
      have dp2 := D2.pos
      refine E_br hE (fun a => ?_) (fun a => ?_)
      · have H2 : 4294967296 ≤ p ∨ s * 4294967296 + ll < p * yl := .inl (by subst hE; simpa only [realE, cmp_geq, decide_eq_true_eq] using a)
        clear a
        cbv
        refine E_nm hE (fun pn hpn => ?_)
        cbv
        refine E_nm hE (fun sn hsn => ?_)
        obtain ⟨l1, l2, l3⟩ := less2 H2
        have epn : pn = p - 1 := by
          subst hE; rw [hpn]; show IntKind.u64.wrap (p - 1) = _
          rw [wu64]; omega
        have esn : sn = s + yh := by subst hE; rw [hsn]; exact W2.2.2
        rw [← epn] at l1 l2
        rw [← esn] at l2
        cbv
        refine E_br hE (fun c => ?_) (fun c => ?_)
        · have c' : 4294967296 ≤ sn := by subst hE; simpa only [realE, cmp_geq, decide_eq_true_eq] using c
          have R2 : Right y' w ll pn := right_of h3 lw.2 (by omega) (dig_right h3 h4 (by rw [← e1]; exact l2) (dig_break h4 (by omega) (by omega) (by omega) c')) l1 (by omega)
          clear hpn hsn c c' l1 l2 l3 H2
          cbv
          refine E_br hE (fun a => ?_) (fun a => ?_)
          · exfalso; subst hE; simp only [realE, cmp_lss, decide_eq_true_eq] at a; omega
          clear a; cbv
          repeat' (first
            | (refine E_nm hE (fun v hv => ?_); cbv)
            | fail)
          rename_i v1 hv1
          obtain ⟨f1, f2⟩ := two_digits (y := y') (by omega) ew R R2
          subst hE
          have g1 : v1 = qn * 4294967296 + pn := by
            rw [hv1]; show IntKind.u64.wrap (IntKind.u64.wrap (qn * 4294967296) + pn) = _
            have := R.small; have := R2.small; have := R.nn; have := R2.nn
            rw [wu64, wu64]; omega
          have g2 : v = w * 4294967296 + ll - pn * y' := by
            rw [hv]; show (IntKind.u64.wrap (IntKind.u64.wrap (IntKind.u64.wrap (w * 4294967296) + ll) - IntKind.u64.wrap (pn * y'))).fdiv (2 ^ min (Int.toNat 0) IntKind.u64.bits) = _
            rw [right_wrap h4 R2, show (2 : Int) ^ min (Int.toNat 0) IntKind.u64.bits = 1 by decide, shr_lit (by decide), Int.ediv_one]
          have el : l' = lh * 4294967296 + ll := by omega
          rw [← el] at f1 f2
          rw [← hr, g1, g2]
          exact ⟨f1.symm, f2.symm, trivial⟩
        · have c' : sn < 4294967296 := by
            have : ¬ 4294967296 ≤ sn := by subst hE; simpa only [realE, cmp_geq, decide_eq_false_iff_not] using c
            omega
          clear hpn hsn
          cbv
          exact ⟨(pn, sn), by (show pn.toNat < p.toNat; omega), ⟨l1, by rw [← e1]; exact l2, by (show 0 ≤ sn; omega), c', by (show pn ≤ 4294967297; omega), by (show 0 ≤ pn; omega)⟩, stLe rfl (by repeat' (first | exact t_nil | apply t_cons | exact u2_int))⟩
      have a2 : p < 4294967296 := by
        have : ¬ 4294967296 ≤ p := by subst hE; simpa only [realE, cmp_geq, decide_eq_false_iff_not] using a
        omega
      cbv
      refine E_br hE (fun b => ?_) (fun b => ?_)
      · have H2 : 4294967296 ≤ p ∨ s * 4294967296 + ll < p * yl := .inr (by
          subst hE; simp only [realE, cmp_gtr, intBinR, decide_eq_true_eq] at b
          rw [W2.1 a2, W2.2.1] at b; exact b)
        clear b
        cbv
        refine E_nm hE (fun pn hpn => ?_)
        cbv
        refine E_nm hE (fun sn hsn => ?_)
        obtain ⟨l1, l2, l3⟩ := less2 H2
        have epn : pn = p - 1 := by
          subst hE; rw [hpn]; show IntKind.u64.wrap (p - 1) = _
          rw [wu64]; omega
        have esn : sn = s + yh := by subst hE; rw [hsn]; exact W2.2.2
        rw [← epn] at l1 l2
        rw [← esn] at l2
        cbv
        refine E_br hE (fun c => ?_) (fun c => ?_)
        · have c' : 4294967296 ≤ sn := by subst hE; simpa only [realE, cmp_geq, decide_eq_true_eq] using c
          have R2 : Right y' w ll pn := right_of h3 lw.2 (by omega) (dig_right h3 h4 (by rw [← e1]; exact l2) (dig_break h4 (by omega) (by omega) (by omega) c')) l1 (by omega)
          clear hpn hsn c c' l1 l2 l3 H2
          cbv
          refine E_br hE (fun a => ?_) (fun a => ?_)
          · exfalso; subst hE; simp only [realE, cmp_lss, decide_eq_true_eq] at a; omega
          clear a; cbv
          repeat' (first
            | (refine E_nm hE (fun v hv => ?_); cbv)
            | fail)
          rename_i v1 hv1
          obtain ⟨f1, f2⟩ := two_digits (y := y') (by omega) ew R R2
          subst hE
          have g1 : v1 = qn * 4294967296 + pn := by
            rw [hv1]; show IntKind.u64.wrap (IntKind.u64.wrap (qn * 4294967296) + pn) = _
            have := R.small; have := R2.small; have := R.nn; have := R2.nn
            rw [wu64, wu64]; omega
          have g2 : v = w * 4294967296 + ll - pn * y' := by
            rw [hv]; show (IntKind.u64.wrap (IntKind.u64.wrap (IntKind.u64.wrap (w * 4294967296) + ll) - IntKind.u64.wrap (pn * y'))).fdiv (2 ^ min (Int.toNat 0) IntKind.u64.bits) = _
            rw [right_wrap h4 R2, show (2 : Int) ^ min (Int.toNat 0) IntKind.u64.bits = 1 by decide, shr_lit (by decide), Int.ediv_one]
          have el : l' = lh * 4294967296 + ll := by omega
          rw [← el] at f1 f2
          rw [← hr, g1, g2]
          exact ⟨f1.symm, f2.symm, trivial⟩
        · have c' : sn < 4294967296 := by
            have : ¬ 4294967296 ≤ sn := by subst hE; simpa only [realE, cmp_geq, decide_eq_false_iff_not] using c
            omega
          clear hpn hsn
          cbv
          exact ⟨(pn, sn), by (show pn.toNat < p.toNat; omega), ⟨l1, by rw [← e1]; exact l2, by (show 0 ≤ sn; omega), c', by (show pn ≤ 4294967297; omega), by (show 0 ≤ pn; omega)⟩, stLe rfl (by repeat' (first | exact t_nil | apply t_cons | exact u2_int))⟩
      have b2 : p * yl ≤ s * 4294967296 + ll := by
        subst hE; simp only [realE, cmp_gtr, intBinR, decide_eq_false_iff_not] at b
        rw [W2.1 a2, W2.2.1] at b; omega
      have R2 : Right y' w ll p := right_of h3 lw.2 (by omega) (dig_right h3 h4 D2.rest (by rw [← e2]; exact b2)) D2.lt D2.nn
      cbv
      refine E_br hE (fun a => ?_) (fun a => ?_)
      · exfalso; subst hE; simp only [realE, cmp_lss, decide_eq_true_eq] at a; omega
      clear a; cbv
      repeat' (first
        | (refine E_nm hE (fun v hv => ?_); cbv)
        | fail)
      rename_i v1 hv1
      obtain ⟨f1, f2⟩ := two_digits (y := y') (by omega) ew R R2
      subst hE
      have g1 : v1 = qn * 4294967296 + p := by
        rw [hv1]; show IntKind.u64.wrap (IntKind.u64.wrap (qn * 4294967296) + p) = _
        have := R.small; have := R2.small; have := R.nn; have := R2.nn
        rw [wu64, wu64]; omega
      have g2 : v = w * 4294967296 + ll - p * y' := by
        rw [hv]; show (IntKind.u64.wrap (IntKind.u64.wrap (IntKind.u64.wrap (w * 4294967296) + ll) - IntKind.u64.wrap (p * y'))).fdiv (2 ^ min (Int.toNat 0) IntKind.u64.bits) = _
        rw [right_wrap h4 R2, show (2 : Int) ^ min (Int.toNat 0) IntKind.u64.bits = 1 by decide, shr_lit (by decide), Int.ediv_one]
      have el : l' = lh * 4294967296 + ll := by omega
      rw [← el] at f1 f2
      rw [← hr, g1, g2]
      exact ⟨f1.symm, f2.symm, trivial⟩
    · have c' : rn < 4294967296 := by
        have : ¬ 4294967296 ≤ rn := by subst hE; simpa only [realE, cmp_geq, decide_eq_false_iff_not] using c
        omega
      have dt := D.top
      have dp := D.pos
      clear hqn hrn
      cbv
      exact ⟨(qn, rn), by (show qn.toNat < q.toNat; omega), ⟨l1, by rw [← e1]; exact l2, by (show 0 ≤ rn; omega), c', by (show qn ≤ 4294967297; omega), by (show 0 ≤ qn; omega)⟩, stLe rfl (by repeat' (first | exact t_nil | apply t_cons | exact u2_int))⟩
  have a' : q < 4294967296 := by
    have : ¬ 4294967296 ≤ q := by subst hE; simpa only [realE, cmp_geq, decide_eq_false_iff_not] using a
    omega
  cbv
  refine E_br hE (fun b => ?_) (fun b => ?_)
  · have H' : 4294967296 ≤ q ∨ r' * 4294967296 + lh < q * yl := .inr (by
      subst hE; simp only [realE, cmp_gtr, intBinR, decide_eq_true_eq] at b
      rw [W.1 a', W.2.1] at b; exact b)
    clear b
    cbv
    refine E_nm hE (fun qn hqn => ?_)
    cbv
    refine E_nm hE (fun rn hrn => ?_)
    obtain ⟨l1, l2, l3⟩ := less H'
    have eqn : qn = q - 1 := by
      subst hE; rw [hqn]; show IntKind.u64.wrap (q - 1) = _
      have := D.top
      rw [wu64]; omega
    have ern : rn = r' + yh := by subst hE; rw [hrn]; exact W.2.2
    rw [← eqn] at l1 l2
    rw [← ern] at l2
    cbv
    refine E_br hE (fun c => ?_) (fun c => ?_)
    · have c' : 4294967296 ≤ rn := by subst hE; simpa only [realE, cmp_geq, decide_eq_true_eq] using c
      have dt := D.top
      have R : Right y' u lh qn := right_of h3 h2 (by omega) (dig_right h3 h4 (by rw [← e1]; exact l2) (dig_break h4 (by omega) (by omega) (by omega) c')) l1 (by omega)
      clear hqn hrn c c' l1 l2 l3 H'
      cbv
      refine E_nm hE (fun w hw => ?_)
      have ew : w = u * 4294967296 + lh - qn * y' := by subst hE; rw [hw]; exact right_wrap h4 R
      have lw := right_left R
      rw [← ew] at lw
      clear hw
      cbv
      refine E_br hE (fun a => ?_) (fun a => ?_)
      · exfalso; subst hE; simp only [realE, cmp_eql, decide_eq_true_eq] at a; omega
      cbv
      refine E_nm hE (fun p0 hp0 => ?_)
      have e5 : p0 = w / yh := by
        subst hE; rw [hp0]; show IntKind.u64.wrap (w.tdiv yh) = _
        have b1 := Int.ediv_nonneg lw.1 (show (0 : Int) ≤ yh by omega)
        have b2 := Int.ediv_le_self yh lw.1
        rw [Int.tdiv_eq_ediv_of_nonneg lw.1, wu64]; omega
      clear hp0; cbv
      refine E_nm hE (fun s0 hs0 => ?_)
      have D1 : Dig y' w ll p0 (w - p0 * yh) := by
        have := dig_start (y := y') (u := w) (un := ll) h3 h4 lw.1 lw.2 (by omega) (by omega)
        rw [← e1, ← e5] at this; exact this
      have e6 : s0 = w - p0 * yh := by
        subst hE; rw [hs0]; show IntKind.u64.wrap (w - IntKind.u64.wrap (p0 * yh)) = _
        have b1 := D1.pos
        have b2 := Int.mul_nonneg D1.nn (show (0 : Int) ≤ yh by omega)
        rw [wu64, wu64]
        generalize p0 * yh = p at *
        omega
      rw [← e6] at D1
      clear hs0 e6 e5 a
      cbv
      refine E_loop hE hG hm hl (ι := Int × Int) (fun p => ⟨[(2, .int .u64 (.s y')), (8, .int .u64 (.s 0)), (9, .int .u64 (.s yh)), (10, .int .u64 (.s yl)), (14, .int .u64 (.s ll)), (15, .int .u64 (.s qn)), (17, .int .u64 (.s w)), (18, .int .u64 (.s p.1)), (16, .int .u64 (.s p.2))], []⟩)
        (fun p => p.1.toNat) (fun p => Dig y' w ll p.1 p.2) ⟨(p0, s0), D1, stLe rfl (by repeat' (first | exact t_nil | apply t_cons | exact u2_int))⟩ ?_
      rintro ⟨p, s⟩ D2
      dsimp only at D2
      cbv
      have W2 := dig_words h3 h4 (show 0 ≤ ll by omega) (by omega) D2
      rw [← e1, ← e2] at W2
      have less2 : (4294967296 ≤ p ∨ s * 4294967296 + ll < p * yl) → w * 4294967296 + ll < (p - 1 + 1) * y' ∧ s + yh = w - (p - 1) * yh ∧ 1 ≤ p := by
        intro h; rw [e1]; exact dig_less h3 h4 lw.1 lw.2 (by omega) (by omega) D2 (by rw [← e2]; exact h)
      have dt2 := D2.top
      have dp2 := D2.pos
      refine E_br hE (fun a => ?_) (fun a => ?_)
      · have H2 : 4294967296 ≤ p ∨ s * 4294967296 + ll < p * yl := .inl (by subst hE; simpa only [realE, cmp_geq, decide_eq_true_eq] using a)
        clear a
        cbv
        refine E_nm hE (fun pn hpn => ?_)
        cbv
        refine E_nm hE (fun sn hsn => ?_)
        obtain ⟨l1, l2, l3⟩ := less2 H2
        have epn : pn = p - 1 := by
          subst hE; rw [hpn]; show IntKind.u64.wrap (p - 1) = _
          rw [wu64]; omega
        have esn : sn = s + yh := by subst hE; rw [hsn]; exact W2.2.2
        rw [← epn] at l1 l2
        rw [← esn] at l2
        cbv
        refine E_br hE (fun c => ?_) (fun c => ?_)
        · have c' : 4294967296 ≤ sn := by subst hE; simpa only [realE, cmp_geq, decide_eq_true_eq] using c
          have R2 : Right y' w ll pn := right_of h3 lw.2 (by omega) (dig_right h3 h4 (by rw [← e1]; exact l2) (dig_break h4 (by omega) (by omega) (by omega) c')) l1 (by omega)
          clear hpn hsn c c' l1 l2 l3 H2
          cbv
          refine E_br hE (fun a => ?_) (fun a => ?_)
          · exfalso; subst hE; simp only [realE, cmp_lss, decide_eq_true_eq] at a; omega
          clear a; cbv
          repeat' (first
            | (refine E_nm hE (fun v hv => ?_); cbv)
            | fail)
          rename_i v1 hv1
          obtain ⟨f1, f2⟩ := two_digits (y := y') (by omega) ew R R2
          subst hE
          have g1 : v1 = qn * 4294967296 + pn := by
            rw [hv1]; show IntKind.u64.wrap (IntKind.u64.wrap (qn * 4294967296) + pn) = _
            have := R.small; have := R2.small; have := R.nn; have := R2.nn
            rw [wu64, wu64]; omega
          have g2 : v = w * 4294967296 + ll - pn * y' := by
            rw [hv]; show (IntKind.u64.wrap (IntKind.u64.wrap (IntKind.u64.wrap (w * 4294967296) + ll) - IntKind.u64.wrap (pn * y'))).fdiv (2 ^ min (Int.toNat 0) IntKind.u64.bits) = _
            rw [right_wrap h4 R2, show (2 : Int) ^ min (Int.toNat 0) IntKind.u64.bits = 1 by decide, shr_lit (by decide), Int.ediv_one]
          have el : l' = lh * 4294967296 + ll := by omega
          rw [← el] at f1 f2
          rw [← hr, g1, g2]
          exact ⟨f1.symm, f2.symm, trivial⟩
        · have c' : sn < 4294967296 := by
            have : ¬ 4294967296 ≤ sn := by subst hE; simpa only [realE, cmp_geq, decide_eq_false_iff_not] using c
            omega
          clear hpn hsn
          cbv
          exact ⟨(pn, sn), by (show pn.toNat < p.toNat; omega), ⟨l1, by rw [← e1]; exact l2, by (show 0 ≤ sn; omega), c', by (show pn ≤ 4294967297; omega), by (show 0 ≤ pn; omega)⟩, stLe rfl (by repeat' (first | exact t_nil | apply t_cons | exact u2_int))⟩
      have a2 : p < 4294967296 := by
        have : ¬ 4294967296 ≤ p := by subst hE; simpa only [realE, cmp_geq, decide_eq_false_iff_not] using a
        omega
      cbv
      refine E_br hE (fun b => ?_) (fun b => ?_)
      · have H2 : 4294967296 ≤ p ∨ s * 4294967296 + ll < p * yl := .inr (by
          subst hE; simp only [realE, cmp_gtr, intBinR, decide_eq_true_eq] at b
          rw [W2.1 a2, W2.2.1] at b; exact b)
        clear b
        cbv
        refine E_nm hE (fun pn hpn => ?_)
        cbv
        refine E_nm hE (fun sn hsn => ?_)
        obtain ⟨l1, l2, l3⟩ := less2 H2
        have epn : pn = p - 1 := by
          subst hE; rw [hpn]; show IntKind.u64.wrap (p - 1) = _
          rw [wu64]; omega
        have esn : sn = s + yh := by subst hE; rw [hsn]; exact W2.2.2
        rw [← epn] at l1 l2
        rw [← esn] at l2
        cbv
        refine E_br hE (fun c => ?_) (fun c => ?_)
        · have c' : 4294967296 ≤ sn := by subst hE; simpa only [realE, cmp_geq, decide_eq_true_eq] using c
          have R2 : Right y' w ll pn := right_of h3 lw.2 (by omega) (dig_right h3 h4 (by rw [← e1]; exact l2) (dig_break h4 (by omega) (by omega) (by omega) c')) l1 (by omega)
          clear hpn hsn c c' l1 l2 l3 H2
          cbv
          refine E_br hE (fun a => ?_) (fun a => ?_)
          · exfalso; subst hE; simp only [realE, cmp_lss, decide_eq_true_eq] at a; omega
          clear a; cbv
          repeat' (first
            | (refine E_nm hE (fun v hv => ?_); cbv)
            | fail)
          rename_i v1 hv1
          obtain ⟨f1, f2⟩ := two_digits (y := y') (by omega) ew R R2
          subst hE
          have g1 : v1 = qn * 4294967296 + pn := by
            rw [hv1]; show IntKind.u64.wrap (IntKind.u64.wrap (qn * 4294967296) + pn) = _
            have := R.small; have := R2.small; have := R.nn; have := R2.nn
            rw [wu64, wu64]; omega
          have g2 : v = w * 4294967296 + ll - pn * y' := by
            rw [hv]; show (IntKind.u64.wrap (IntKind.u64.wrap (IntKind.u64.wrap (w * 4294967296) + ll) - IntKind.u64.wrap (pn * y'))).fdiv (2 ^ min (Int.toNat 0) IntKind.u64.bits) = _
            rw [right_wrap h4 R2, show (2 : Int) ^ min (Int.toNat 0) IntKind.u64.bits = 1 by decide, shr_lit (by decide), Int.ediv_one]
          have el : l' = lh * 4294967296 + ll := by omega
          rw [← el] at f1 f2
          rw [← hr, g1, g2]
          exact ⟨f1.symm, f2.symm, trivial⟩
        · have c' : sn < 4294967296 := by
            have : ¬ 4294967296 ≤ sn := by subst hE; simpa only [realE, cmp_geq, decide_eq_false_iff_not] using c
            omega
          clear hpn hsn
          cbv
          exact ⟨(pn, sn), by (show pn.toNat < p.toNat; omega), ⟨l1, by rw [← e1]; exact l2, by (show 0 ≤ sn; omega), c', by (show pn ≤ 4294967297; omega), by (show 0 ≤ pn; omega)⟩, stLe rfl (by repeat' (first | exact t_nil | apply t_cons | exact u2_int))⟩
      have b2 : p * yl ≤ s * 4294967296 + ll := by
        subst hE; simp only [realE, cmp_gtr, intBinR, decide_eq_false_iff_not] at b
        rw [W2.1 a2, W2.2.1] at b; omega
      have R2 : Right y' w ll p := right_of h3 lw.2 (by omega) (dig_right h3 h4 D2.rest (by rw [← e2]; exact b2)) D2.lt D2.nn
      cbv
      refine E_br hE (fun a => ?_) (fun a => ?_)
      · exfalso; subst hE; simp only [realE, cmp_lss, decide_eq_true_eq] at a; omega
      clear a; cbv
      repeat' (first
        | (refine E_nm hE (fun v hv => ?_); cbv)
        | fail)
      rename_i v1 hv1
      obtain ⟨f1, f2⟩ := two_digits (y := y') (by omega) ew R R2
      subst hE
      have g1 : v1 = qn * 4294967296 + p := by
        rw [hv1]; show IntKind.u64.wrap (IntKind.u64.wrap (qn * 4294967296) + p) = _
        have := R.small; have := R2.small; have := R.nn; have := R2.nn
        rw [wu64, wu64]; omega
      have g2 : v = w * 4294967296 + ll - p * y' := by
        rw [hv]; show (IntKind.u64.wrap (IntKind.u64.wrap (IntKind.u64.wrap (w * 4294967296) + ll) - IntKind.u64.wrap (p * y'))).fdiv (2 ^ min (Int.toNat 0) IntKind.u64.bits) = _
        rw [right_wrap h4 R2, show (2 : Int) ^ min (Int.toNat 0) IntKind.u64.bits = 1 by decide, shr_lit (by decide), Int.ediv_one]
      have el : l' = lh * 4294967296 + ll := by omega
      rw [← el] at f1 f2
      rw [← hr, g1, g2]
      exact ⟨f1.symm, f2.symm, trivial⟩
    · have c' : rn < 4294967296 := by
        have : ¬ 4294967296 ≤ rn := by subst hE; simpa only [realE, cmp_geq, decide_eq_false_iff_not] using c
        omega
      have dt := D.top
      have dp := D.pos
      clear hqn hrn
      cbv
      exact ⟨(qn, rn), by (show qn.toNat < q.toNat; omega), ⟨l1, by rw [← e1]; exact l2, by (show 0 ≤ rn; omega), c', by (show qn ≤ 4294967297; omega), by (show 0 ≤ qn; omega)⟩, stLe rfl (by repeat' (first | exact t_nil | apply t_cons | exact u2_int))⟩
  have b' : q * yl ≤ r' * 4294967296 + lh := by
    subst hE; simp only [realE, cmp_gtr, intBinR, decide_eq_false_iff_not] at b
    rw [W.1 a', W.2.1] at b; omega
  have R : Right y' u lh q := right_of h3 h2 (by omega) (dig_right h3 h4 D.rest (by rw [← e2]; exact b')) D.lt D.nn
  cbv
  refine E_nm hE (fun w hw => ?_)
  have ew : w = u * 4294967296 + lh - q * y' := by subst hE; rw [hw]; exact right_wrap h4 R
  have lw := right_left R
  rw [← ew] at lw
  clear hw
  cbv
  refine E_br hE (fun a => ?_) (fun a => ?_)
  · exfalso; subst hE; simp only [realE, cmp_eql, decide_eq_true_eq] at a; omega
  cbv
  refine E_nm hE (fun p0 hp0 => ?_)
  have e5 : p0 = w / yh := by
    subst hE; rw [hp0]; show IntKind.u64.wrap (w.tdiv yh) = _
    have b1 := Int.ediv_nonneg lw.1 (show (0 : Int) ≤ yh by omega)
    have b2 := Int.ediv_le_self yh lw.1
    rw [Int.tdiv_eq_ediv_of_nonneg lw.1, wu64]; omega
  clear hp0; cbv
  refine E_nm hE (fun s0 hs0 => ?_)
  have D1 : Dig y' w ll p0 (w - p0 * yh) := by
    have := dig_start (y := y') (u := w) (un := ll) h3 h4 lw.1 lw.2 (by omega) (by omega)
    rw [← e1, ← e5] at this; exact this
  have e6 : s0 = w - p0 * yh := by
    subst hE; rw [hs0]; show IntKind.u64.wrap (w - IntKind.u64.wrap (p0 * yh)) = _
    have b1 := D1.pos
    have b2 := Int.mul_nonneg D1.nn (show (0 : Int) ≤ yh by omega)
    rw [wu64, wu64]
    generalize p0 * yh = p at *
    omega
  rw [← e6] at D1
  clear hs0 e6 e5 a
  cbv
  refine E_loop hE hG hm hl (ι := Int × Int) (fun p => ⟨[(2, .int .u64 (.s y')), (8, .int .u64 (.s 0)), (9, .int .u64 (.s yh)), (10, .int .u64 (.s yl)), (14, .int .u64 (.s ll)), (15, .int .u64 (.s q)), (17, .int .u64 (.s w)), (18, .int .u64 (.s p.1)), (16, .int .u64 (.s p.2))], []⟩)
    (fun p => p.1.toNat) (fun p => Dig y' w ll p.1 p.2) ⟨(p0, s0), D1, stLe rfl (by repeat' (first | exact t_nil | apply t_cons | exact u2_int))⟩ ?_
  rintro ⟨p, s⟩ D2
  dsimp only at D2
  cbv
  have W2 := dig_words h3 h4 (show 0 ≤ ll by omega) (by omega) D2
  rw [← e1, ← e2] at W2
  have less2 : (4294967296 ≤ p ∨ s * 4294967296 + ll < p * yl) → w * 4294967296 + ll < (p - 1 + 1) * y' ∧ s + yh = w - (p - 1) * yh ∧ 1 ≤ p := by
    intro h; rw [e1]; exact dig_less h3 h4 lw.1 lw.2 (by omega) (by omega) D2 (by rw [← e2]; exact h)
  have dt2 := D2.top
  have dp2 := D2.pos
  refine E_br hE (fun a => ?_) (fun a => ?_)
  · have H2 : 4294967296 ≤ p ∨ s * 4294967296 + ll < p * yl := .inl (by subst hE; simpa only [realE, cmp_geq, decide_eq_true_eq] using a)
    clear a
    cbv
    refine E_nm hE (fun pn hpn => ?_)
    cbv
    refine E_nm hE (fun sn hsn => ?_)
    obtain ⟨l1, l2, l3⟩ := less2 H2
    have epn : pn = p - 1 := by
      subst hE; rw [hpn]; show IntKind.u64.wrap (p - 1) = _
      rw [wu64]; omega
    have esn : sn = s + yh := by subst hE; rw [hsn]; exact W2.2.2
    rw [← epn] at l1 l2
    rw [← esn] at l2
    cbv
    refine E_br hE (fun c => ?_) (fun c => ?_)
    · have c' : 4294967296 ≤ sn := by subst hE; simpa only [realE, cmp_geq, decide_eq_true_eq] using c
      have R2 : Right y' w ll pn := right_of h3 lw.2 (by omega) (dig_right h3 h4 (by rw [← e1]; exact l2) (dig_break h4 (by omega) (by omega) (by omega) c')) l1 (by omega)
      clear hpn hsn c c' l1 l2 l3 H2
      cbv
      refine E_br hE (fun a => ?_) (fun a => ?_)
      · exfalso; subst hE; simp only [realE, cmp_lss, decide_eq_true_eq] at a; omega
      clear a; cbv
      repeat' (first
        | (refine E_nm hE (fun v hv => ?_); cbv)
        | fail)
      rename_i v1 hv1
      obtain ⟨f1, f2⟩ := two_digits (y := y') (by omega) ew R R2
      subst hE
      have g1 : v1 = q * 4294967296 + pn := by
        rw [hv1]; show IntKind.u64.wrap (IntKind.u64.wrap (q * 4294967296) + pn) = _
        have := R.small; have := R2.small; have := R.nn; have := R2.nn
        rw [wu64, wu64]; omega
      have g2 : v = w * 4294967296 + ll - pn * y' := by
        rw [hv]; show (IntKind.u64.wrap (IntKind.u64.wrap (IntKind.u64.wrap (w * 4294967296) + ll) - IntKind.u64.wrap (pn * y'))).fdiv (2 ^ min (Int.toNat 0) IntKind.u64.bits) = _
        rw [right_wrap h4 R2, show (2 : Int) ^ min (Int.toNat 0) IntKind.u64.bits = 1 by decide, shr_lit (by decide), Int.ediv_one]
      have el : l' = lh * 4294967296 + ll := by omega
      rw [← el] at f1 f2
      rw [← hr, g1, g2]
      exact ⟨f1.symm, f2.symm, trivial⟩
    · have c' : sn < 4294967296 := by
        have : ¬ 4294967296 ≤ sn := by subst hE; simpa only [realE, cmp_geq, decide_eq_false_iff_not] using c
        omega
      clear hpn hsn
      cbv
      exact ⟨(pn, sn), by (show pn.toNat < p.toNat; omega), ⟨l1, by rw [← e1]; exact l2, by (show 0 ≤ sn; omega), c', by (show pn ≤ 4294967297; omega), by (show 0 ≤ pn; omega)⟩, stLe rfl (by repeat' (first | exact t_nil | apply t_cons | exact u2_int))⟩
  have a2 : p < 4294967296 := by
    have : ¬ 4294967296 ≤ p := by subst hE; simpa only [realE, cmp_geq, decide_eq_false_iff_not] using a
    omega
  cbv
  refine E_br hE (fun b => ?_) (fun b => ?_)
  · have H2 : 4294967296 ≤ p ∨ s * 4294967296 + ll < p * yl := .inr (by
      subst hE; simp only [realE, cmp_gtr, intBinR, decide_eq_true_eq] at b
      rw [W2.1 a2, W2.2.1] at b; exact b)
    clear b
    cbv
    refine E_nm hE (fun pn hpn => ?_)
    cbv
    refine E_nm hE (fun sn hsn => ?_)
    obtain ⟨l1, l2, l3⟩ := less2 H2
    have epn : pn = p - 1 := by
      subst hE; rw [hpn]; show IntKind.u64.wrap (p - 1) = _
      rw [wu64]; omega
    have esn : sn = s + yh := by subst hE; rw [hsn]; exact W2.2.2
    rw [← epn] at l1 l2
    rw [← esn] at l2
    cbv
    refine E_br hE (fun c => ?_) (fun c => ?_)
    · have c' : 4294967296 ≤ sn := by subst hE; simpa only [realE, cmp_geq, decide_eq_true_eq] using c
      have R2 : Right y' w ll pn := right_of h3 lw.2 (by omega) (dig_right h3 h4 (by rw [← e1]; exact l2) (dig_break h4 (by omega) (by omega) (by omega) c')) l1 (by omega)
      clear hpn hsn c c' l1 l2 l3 H2
      cbv
      refine E_br hE (fun a => ?_) (fun a => ?_)
      · exfalso; subst hE; simp only [realE, cmp_lss, decide_eq_true_eq] at a; omega
      clear a; cbv
      repeat' (first
        | (refine E_nm hE (fun v hv => ?_); cbv)
        | fail)
      rename_i v1 hv1
      obtain ⟨f1, f2⟩ := two_digits (y := y') (by omega) ew R R2
      subst hE
      have g1 : v1 = q * 4294967296 + pn := by
        rw [hv1]; show IntKind.u64.wrap (IntKind.u64.wrap (q * 4294967296) + pn) = _
        have := R.small; have := R2.small; have := R.nn; have := R2.nn
        rw [wu64, wu64]; omega
      have g2 : v = w * 4294967296 + ll - pn * y' := by
        rw [hv]; show (IntKind.u64.wrap (IntKind.u64.wrap (IntKind.u64.wrap (w * 4294967296) + ll) - IntKind.u64.wrap (pn * y'))).fdiv (2 ^ min (Int.toNat 0) IntKind.u64.bits) = _
        rw [right_wrap h4 R2, show (2 : Int) ^ min (Int.toNat 0) IntKind.u64.bits = 1 by decide, shr_lit (by decide), Int.ediv_one]
      have el : l' = lh * 4294967296 + ll := by omega
      rw [← el] at f1 f2
      rw [← hr, g1, g2]
      exact ⟨f1.symm, f2.symm, trivial⟩
    · have c' : sn < 4294967296 := by
        have : ¬ 4294967296 ≤ sn := by subst hE; simpa only [realE, cmp_geq, decide_eq_false_iff_not] using c
        omega
      clear hpn hsn
      cbv
      exact ⟨(pn, sn), by (show pn.toNat < p.toNat; omega), ⟨l1, by rw [← e1]; exact l2, by (show 0 ≤ sn; omega), c', by (show pn ≤ 4294967297; omega), by (show 0 ≤ pn; omega)⟩, stLe rfl (by repeat' (first | exact t_nil | apply t_cons | exact u2_int))⟩
  have b2 : p * yl ≤ s * 4294967296 + ll := by
    subst hE; simp only [realE, cmp_gtr, intBinR, decide_eq_false_iff_not] at b
    rw [W2.1 a2, W2.2.1] at b; omega
  have R2 : Right y' w ll p := right_of h3 lw.2 (by omega) (dig_right h3 h4 D2.rest (by rw [← e2]; exact b2)) D2.lt D2.nn
  cbv
  refine E_br hE (fun a => ?_) (fun a => ?_)
  · exfalso; subst hE; simp only [realE, cmp_lss, decide_eq_true_eq] at a; omega
  clear a; cbv
  repeat' (first
    | (refine E_nm hE (fun v hv => ?_); cbv)
    | fail)
  rename_i v1 hv1
  obtain ⟨f1, f2⟩ := two_digits (y := y') (by omega) ew R R2
  subst hE
  have g1 : v1 = q * 4294967296 + p := by
    rw [hv1]; show IntKind.u64.wrap (IntKind.u64.wrap (q * 4294967296) + p) = _
    have := R.small; have := R2.small; have := R.nn; have := R2.nn
    rw [wu64, wu64]; omega
  have g2 : v = w * 4294967296 + ll - p * y' := by
    rw [hv]; show (IntKind.u64.wrap (IntKind.u64.wrap (IntKind.u64.wrap (w * 4294967296) + ll) - IntKind.u64.wrap (p * y'))).fdiv (2 ^ min (Int.toNat 0) IntKind.u64.bits) = _
    rw [right_wrap h4 R2, show (2 : Int) ^ min (Int.toNat 0) IntKind.u64.bits = 1 by decide, shr_lit (by decide), Int.ediv_one]
  have el : l' = lh * 4294967296 + ll := by omega
  rw [← el] at f1 f2
  rw [← hr, g1, g2]
  exact ⟨f1.symm, f2.symm, trivial⟩
end Go.Proofs.Ytoghalnnmhpfmaa.Ev

/- Contracts: whole numbers as numbers, the quotient. Printed by gen.py out of C9.spec. -/
namespace Go.Proofs.Ytoghalnnmhpfmaa.Ev
open Go Go.Proofs
set_option linter.unusedVariables false
set_option linter.unusedSimpArgs false

theorem c_Of (n : Int) (h0 : -9223372036854775808 ≤ n) (h1 : n < 9223372036854775808) : ∃ t : Num, t = Num.ofInt n ∧ CallsA Try.prog 20 [.int .i64 (.s n)] (t.av) := by
  refine ⟨_, rfl, ?_⟩
  generalize hr : Num.ofInt n = r
  refine callsA_of hG hm Try.func20 (by kernel_rfl) ?_
  intro E hE lp hl
  cbv
  repeat' (first
    | (refine E_br hE (fun h => ?_) (fun h => ?_) <;> cbv)
    | (refine E_nm hE (fun v hv => ?_); cbv)
    | (apply E_callX hE (c_LZ64 _ ?_ ?_); (case hf => rfl); (case hc => (cbv <;> trivial)); (case hle => exact u_up); all_goals (first | (intro t ht; cbv) | (subst hE; (try simp only [realE, cmp_eql, cmp_neq, cmp_lss, cmp_leq, cmp_gtr, cmp_geq, intBinR, decide_eq_true_eq, decide_eq_false_iff_not, SI.val, SB.val, Num.eta, Iv.eta] at *); (subst_vars; simp only [wu64]; omega))))
    | fail)
  all_goals (subst hE; subst hr)
  all_goals (try simp only [realE, cmp_eql, cmp_neq, cmp_lss, cmp_leq, cmp_gtr, cmp_geq, intBinR, decide_eq_true_eq, decide_eq_false_iff_not, SI.val, SB.val, Num.eta, Iv.eta] at *)
  all_goals (try subst_vars)
  all_goals (first | rw [wabs_neg h0 ‹n < 0›] at * | rw [wabs_pos (show 0 ≤ n by omega) h1] at *)
  all_goals (try (exfalso; have := blen_le 64 (x := (n.natAbs : Int)) (by omega); omega))
  case refine_2.hK.refine_1 =>
    have e : n = 0 := by omega
    subst e
    exact ⟨rfl, rfl, rfl, rfl, trivial⟩
  all_goals (unfold Num.ofInt; rw [if_neg (by omega)]; exact ⟨rfl, rfl, rfl, rfl, trivial⟩)

theorem c_quDiv (a : Num) (b : Num) (up : Bool) (ha : a.ok) (hb : b.ok) : ∃ t : Num, t = Num.div a b up ∧ CallsA Try.prog 33 [a.av, b.av, .bool (.s up)] (t.av) := by
  refine ⟨_, rfl, ?_⟩
  generalize hr : Num.div a b up = r
  refine callsA_of hG hm Try.func33 (by kernel_rfl) ?_
  intro E hE lp hl
  cbv
  repeat' (first
    | (refine E_br hE (fun h => ?_) (fun h => ?_) <;> cbv)
    | (refine E_nm hE (fun v hv => ?_); cbv)
    | (apply E_pcallX hE (c_quFair ⟨_, _, _, _⟩); (case hm => rfl); (case hle => exact u_up); intro t ht; cbv)
    | (apply E_callX hE (c_Inf _); (case hf => rfl); (case hc => (cbv <;> trivial)); (case hle => exact u_up); intro t ht; cbv)
    | (apply E_callX hE (c_Div64 _ _ _ ?_ ?_ ?_ ?_ ?_ ?_); (case hf => rfl); (case hc => (cbv <;> trivial)); (case hle => exact u_up); all_goals (first | (intro t ht; cbv) | (subst hE; (try simp only [realE, cmp_eql, cmp_neq, cmp_lss, cmp_leq, cmp_gtr, cmp_geq, intBinR, decide_eq_true_eq, decide_eq_false_iff_not, SI.val, SB.val, Num.eta, Iv.eta] at *); (subst_vars; have fb := Num.fin_of (n := b) ‹_› ‹_›; have ob := Num.fair_ok hb; have oa := Num.fair_ok ha; have := oa.1; have := oa.2; have := ob.1; have := ob.2; (try simp only [shr1, shl63, wu64] at *); first | omega | exact (show 0 ≤ a.fair.m by omega) | exact (show a.fair.m < b.fair.m by omega) | exact (show a.fair.m / 2 < b.fair.m by omega) | exact (show 9223372036854775808 ≤ b.fair.m by omega) | exact (show b.fair.m < 18446744073709551616 by omega)))))
    | (apply E_callX hE (c_Grow _ _ _ _ _); (case hf => rfl); (case hc => (cbv <;> trivial)); (case hle => exact u_up); intro t ht; cbv)
    | fail)
  all_goals (subst hE; subst hr)
  all_goals (try simp only [realE, cmp_eql, cmp_neq, cmp_lss, cmp_leq, cmp_gtr, cmp_geq, intBinR, decide_eq_true_eq, decide_eq_false_iff_not, SI.val, SB.val, Num.eta, Iv.eta] at *)
  all_goals (refine Num.fin (t := ⟨_, _, _, _⟩) ?_; subst_vars; unfold Num.div)
  case' hK.hK.refine_1.hK => rw [if_pos ‹_›]
  case' hK.hK.refine_2.refine_1 => rw [if_neg ‹_›, if_pos (.inl ‹_›)]; rfl
  case' hK.hK.refine_2.refine_2.refine_1 => rw [if_neg ‹_›, if_pos (.inr ‹_›)]; rfl
  case' hK.hK.refine_2.refine_2.refine_2.refine_1.hK => rw [if_neg ‹_›, if_neg (by simp_all), if_pos ‹_›]; rfl
  all_goals (rw [if_neg ‹¬ b.fair.kind = 0›, if_neg (by simp_all), if_neg ‹¬ a.fair.kind = 2›])
  all_goals (have fa := Num.fin_of (n := a) ‹_› ‹_›; have fb := Num.fin_of (n := b) ‹_› ‹_›; simp only [shr1, shl63])
  all_goals (first | exact Num.div_lo (Num.fair_ok ha) fa.2.2 fb.2.2 ‹_› | exact Num.div_hi (Num.fair_ok ha) fa.2.2 fb.2.2 ‹_›)

end Go.Proofs.Ytoghalnnmhpfmaa.Ev

/- What the contracts of intervals are told with. -/
namespace Go.Proofs.Ytoghalnnmhpfmaa.Ev
open Go Go.Proofs
set_option linter.unusedVariables false
set_option linter.unusedSimpArgs false
theorem Iv.fin {t r : Iv} (h : t = r) : t.empty = r.empty ∧ t.lo.kind = r.lo.kind ∧ t.lo.neg = r.lo.neg ∧ t.lo.m = r.lo.m ∧ t.lo.e = r.lo.e ∧ t.hi.kind = r.hi.kind ∧ t.hi.neg = r.hi.neg ∧ t.hi.m = r.hi.m ∧ t.hi.e = r.hi.e ∧ True := by
  subst h; exact ⟨rfl, rfl, rfl, rfl, rfl, rfl, rfl, rfl, rfl, trivial⟩
theorem slcO1 {P : Program} {E : Env} (hE : E = realE P) {a z : Iv} {d : List AV} : sle2 (.slc 9 (.l 1) (E.rfun [a.cells] 0 d)) (.slc 9 (.s 1) (fun i => Iv.cells ([a].getD i z))) := by
  subst hE
  refine ⟨rfl, rfl, fun i hi => ?_⟩
  match i, hi with
  | 0, _ => exact iv_cells_self
  | i + 1, hi => exact absurd hi (by simp [SI.val])
theorem slc2 {a b : Num} {z : Num} : sle2 (.slc 4 (.l 2) (fun i => getRow [a.cells, b.cells] (Int.ofNat i))) (.slc 4 (.s 2) (fun i => Num.cells ([a, b].getD i z))) := by
  have r : ∀ {x : Num}, sleL sle0 x.cells x.cells := ⟨⟨rfl, rfl⟩, rfl, ⟨rfl, rfl⟩, ⟨rfl, rfl⟩, trivial⟩
  refine ⟨rfl, rfl, fun i hi => ?_⟩
  match i, hi with
  | 0, _ => exact r
  | 1, _ => exact r
  | i + 2, hi => exact absurd hi (by simp [SI.val])
end Go.Proofs.Ytoghalnnmhpfmaa.Ev

/- Contracts: the sum of intervals. -/
namespace Go.Proofs.Ytoghalnnmhpfmaa.Ev
open Go Go.Proofs
set_option linter.unusedVariables false
set_option linter.unusedSimpArgs false

def addS (l : List Iv) (n : Int) (z : Iv) : Option (Int × Num × Num) → St
  | none => ⟨[(12, .int .i64 (.s 0)), (11, .int .i64 (.s n)), (10, .slc 9 (.s n) (fun i => Iv.cells (l.getD i z))), (4, .ptr 2 4 (.l 0) 0), (3, .ptr 1 4 (.l 0) 0), (2, .ptr 0 9 (.l 0) 0)],
      [.rows true 9 [.bool (.l false), .int .i64 (.l 0), .bool (.l false), .int .u64 (.l 0), .int .i64 (.l 0), .int .i64 (.l 0), .bool (.l false), .int .u64 (.l 0), .int .i64 (.l 0)]
        [[.bool (.l false), .int .i64 (.l 0), .bool (.l false), .int .u64 (.l 0), .int .i64 (.l 0), .int .i64 (.l 0), .bool (.l false), .int .u64 (.l 0), .int .i64 (.l 0)]],
       .rows true 4 [.int .i64 (.l 0), .bool (.l false), .int .u64 (.l 0), .int .i64 (.l 0)] [[.int .i64 (.l 0), .bool (.l false), .int .u64 (.l 0), .int .i64 (.l 0)]],
       .rows true 4 [.int .i64 (.l 0), .bool (.l false), .int .u64 (.l 0), .int .i64 (.l 0)] [[.int .i64 (.l 0), .bool (.l false), .int .u64 (.l 0), .int .i64 (.l 0)]]]⟩
  | some p => ⟨[(12, .int .i64 (.s p.1)), (11, .int .i64 (.s n)), (10, .slc 9 (.s n) (fun i => Iv.cells (l.getD i z))), (4, .ptr 2 4 (.l 0) 0), (3, .ptr 1 4 (.l 0) 0), (2, .ptr 0 9 (.l 0) 0)],
      [.rows true 9 [.bool (.l false), .int .i64 (.l 0), .bool (.l false), .int .u64 (.l 0), .int .i64 (.l 0), .int .i64 (.l 0), .bool (.l false), .int .u64 (.l 0), .int .i64 (.l 0)]
        [[.bool (.l false), .int .i64 (.l 0), .bool (.l false), .int .u64 (.l 0), .int .i64 (.l 0), .int .i64 (.l 0), .bool (.l false), .int .u64 (.l 0), .int .i64 (.l 0)]],
       .rows true 4 [.int .i64 (.l 0), .bool (.l false), .int .u64 (.l 0), .int .i64 (.l 0)] [Num.cells p.2.1],
       .rows true 4 [.int .i64 (.l 0), .bool (.l false), .int .u64 (.l 0), .int .i64 (.l 0)] [Num.cells p.2.2]]⟩
set_option maxHeartbeats 4000000 in
theorem c_opAdd (l : List Iv) (n : Int) (hn : n = l.length) (hb : n < 9223372036854775808) (hok : ∀ x ∈ l, x.lo.ok ∧ x.hi.ok) :
    ∃ t, t = Iv.add l ∧ CallsA Try.prog 11 [.slc 9 (.s n) (fun i => Iv.cells (l.getD i Iv.none))] t.av := by
  refine ⟨_, rfl, ?_⟩
  generalize hr : Iv.add l = r
  refine callsA_of hG hm Try.func11 (by kernel_rfl) ?_
  intro E hE lp hl
  cbv
  (apply E_callX hE (c_none l n hn hb); (case hf => rfl); (case hc => (cbv <;> trivial)); (case hle => exact ⟨u2_slc', trivial⟩); intro t ht; cbv)
  refine E_br hE (fun h => ?_) (fun h => ?_)
  · cbv
    (apply E_callX hE c_ivNone; (case hf => rfl); (case hc => (cbv <;> trivial)); (case hle => exact trivial); intro t' ht'; cbv)
    have e : t' = r := by rw [← hr, ht']; unfold Iv.add; rw [if_pos (by rw [← ht]; exact h)]
    subst e
    exact ⟨rfl, rfl, rfl, rfl, rfl, rfl, rfl, rfl, rfl, trivial⟩
  have hbad : Iv.anyBad l = false := by rw [← ht]; exact h
  obtain ⟨z, hz⟩ : ∃ z, z = Iv.none := ⟨_, rfl⟩
  rw [← hz]
  cbv
  refine E_loopW hE hG hm hl (ι := Option (Int × Num × Num)) (addS l n z)
    (fun p => match p with | none => n.toNat + 1 | some p => (n - p.1).toNat) (fun p => match p with | none => True | some p => 1 ≤ p.1 ∧ p.1 ≤ n ∧ p.2 = Iv.addTo l p.1) (fun p => by cases p <;> rfl) ⟨none, trivial, stLe rfl ?_⟩ ?_
  · repeat' (first | exact t_nil | apply t_cons | exact u2_int | exact u2_ptr | exact u2_slc')
  rintro (_ | ⟨i, lo, hi⟩) hp
  · clear hp
    cbv
    repeat' (first
      | (apply E_br_t hE; assumption; cbv)
      | (apply E_br_f hE; assumption; cbv)
      | (refine E_br hE (fun h => ?_) (fun h => ?_) <;> cbv)
      | (refine E_nm hE (fun v hv => ?_); cbv)
      | (refine E_row hE (cell := Iv.cells) (fun x ex => ?_); cbv)
      | (apply E_callX hE (c_ivMake ⟨_, _, _, _⟩ ⟨_, _, _, _⟩); (case hf => rfl); (case hc => (cbv <;> trivial)); (case hle => exact u_up); intro t ht; cbv)
      | fail)
    all_goals (try refine ⟨some (E.bin .add .i64 0 1, x.lo, x.hi), ?_, ⟨?_, ?_, ?_⟩, stLeW rfl ⟨rfl, rfl, rfl, trivial⟩ ?_⟩)
    all_goals (try (refine w_cons ?_ rfl ?_; (repeat' (first | exact w_nil | refine w_cons ?_ rfl ?_ | exact u2_int | exact u2_ptr | exact u2_slc')); done))
    all_goals (try (exfalso; subst hE; simp only [realE, cmp_lss, cmp_leq, cmp_eql, intBinR, decide_eq_true_eq, decide_eq_false_iff_not, SI.val, SB.val, Num.eta, Iv.eta] at h; omega))
    all_goals (subst hE; simp only [realE, cmp_lss, cmp_leq, cmp_eql, intBinR, decide_eq_true_eq, decide_eq_false_iff_not, SI.val, SB.val, Num.eta, Iv.eta] at *)
    all_goals (replace hn : n = (l.length : Int) := hn)
    case none.refine_2.hK =>
      have hl : l = [] := List.length_eq_zero_iff.1 (by omega)
      have e : t = r := by
        rw [← hr, ht]; unfold Iv.add
        rw [if_neg (by rw [hbad]; decide), hl]; rfl
      subst e
      exact ⟨rfl, rfl, rfl, rfl, rfl, rfl, rfl, rfl, rfl, trivial⟩
    all_goals (rw [show IntKind.i64.wrap (0 + 1) = 1 by decide])
    · omega
    · decide
    · omega
    · rw [show (1 : Int) = 0 + 1 by rfl, Iv.addTo_succ l (by omega) (by omega), if_pos rfl, ← hz, ← ex]
  · obtain ⟨h1, h2, h3⟩ := hp
    dsimp only at h1 h2 h3
    replace hn : n = (l.length : Int) := hn
    have hx : ∀ x, i < n → x = l.getD i.toNat z → x.lo.ok ∧ x.hi.ok := by
      intro x hi e
      have hl : i.toNat < l.length := by omega
      rw [e]
      have : l.getD i.toNat z = l[i.toNat] := by simp [List.getD, List.getElem?_eq_getElem hl]
      rw [this]
      exact hok _ (List.getElem_mem hl)
    have hlh : lo.ok ∧ hi.ok := by
      have := Iv.addEnds_ok (l := l.take i.toNat) (fun y hy => hok y (List.mem_of_mem_take hy))
      rw [show Iv.addEnds (l.take i.toNat) = (lo, hi) from h3.symm] at this
      exact this
    have hlt : E.cmp .lss i n = true → i < n := by intro h; subst hE; simpa only [realE, cmp_lss, decide_eq_true_eq] using h
    cbv
    repeat' (first
      | (apply E_br_t hE; assumption; cbv)
      | (apply E_br_f hE; assumption; cbv)
      | (refine E_br hE (fun h => ?_) (fun h => ?_) <;> cbv)
      | (refine E_nm hE (fun v hv => ?_); cbv)
      | (refine E_row hE (cell := Iv.cells) (fun x ex => ?_); cbv)
      | (apply E_pcallX hE (c_arAdd ⟨_, _, _, _⟩ ⟨_, _, _, _⟩ _ ?_ ?_); (case hm => rfl); (case hle => exact u_up); all_goals (first | (intro t ht; cbv) | exact hlh.1 | exact hlh.2 | (have q := hx _ (hlt ‹E.cmp .lss i n = true›) ‹_ = l.getD i.toNat z›; first | exact q.1 | exact q.2)))
      | (apply E_callX hE (c_ivMake ⟨_, _, _, _⟩ ⟨_, _, _, _⟩); (case hf => rfl); (case hc => (cbv <;> trivial)); (case hle => exact u_up); intro t ht; cbv)
      | fail)
    clear hlt
    all_goals (try (exfalso; subst hE; simp only [realE, cmp_lss, cmp_leq, cmp_eql, intBinR, decide_eq_true_eq, decide_eq_false_iff_not, SI.val, SB.val, Num.eta, Iv.eta] at h; omega))
    all_goals (try refine ⟨some (E.bin .add .i64 i 1, _, _), ?_, ⟨?_, ?_, ?_⟩, stLeW rfl ⟨rfl, rfl, rfl, trivial⟩ ?_⟩)
    all_goals (try (refine w_cons ?_ rfl ?_; (repeat' (first | exact w_nil | refine w_cons ?_ rfl ?_ | exact u2_int | exact u2_ptr | exact u2_slc')); done))
    all_goals (subst hE; simp only [realE, cmp_lss, cmp_leq, cmp_eql, intBinR, decide_eq_true_eq, decide_eq_false_iff_not, SI.val, SB.val, Num.eta, Iv.eta] at *)
    all_goals (replace hn : n = (l.length : Int) := hn)
    case some.refine_2.hK =>
      have hi' : i = (l.length : Int) := by omega
      have e : t = r := by
        rw [← hr, ht]; unfold Iv.add
        rw [if_neg (by rw [hbad]; decide), ← Iv.addTo_all, ← hi', ← h3]
      subst e
      exact ⟨rfl, rfl, rfl, rfl, rfl, rfl, rfl, rfl, rfl, trivial⟩
    all_goals (rw [wi64_succ (by omega) ‹i < n› hb])
    · omega
    · omega
    · omega
    · rw [Iv.addTo_succ l (by omega) (by omega), if_neg (by omega), ← h3, ← hz, ← ex]
      exact Prod.ext ‹_ = lo.add x.lo false› ht
end Go.Proofs.Ytoghalnnmhpfmaa.Ev

/- Contracts: the opposite of an interval, how far from nought, the square. Printed by gen.py out of C11.spec. -/
namespace Go.Proofs.Ytoghalnnmhpfmaa.Ev
open Go Go.Proofs
set_option linter.unusedVariables false
set_option linter.unusedSimpArgs false

theorem c_opNeg (a : Iv)  : ∃ t : Iv, t = Iv.neg a ∧ CallsA Try.prog 15 [a.av] (t.av) := by
  refine ⟨_, rfl, ?_⟩
  generalize hr : Iv.neg a = r
  refine callsA_of hG hm Try.func15 (by kernel_rfl) ?_
  intro E hE lp hl
  cbv
  repeat' (first
    | (refine E_br hE (fun h => ?_) (fun h => ?_) <;> cbv)
    | (refine E_nm hE (fun v hv => ?_); cbv)
    | (apply E_callX hE (c_none [a] 1 rfl (by decide)); (case hf => rfl); (case hc => (cbv <;> trivial)); (case hle => exact ⟨slcO1 hE, trivial⟩); intro t ht; cbv)
    | (apply E_pcallX hE (c_Neg ⟨_, _, _, _⟩); (case hm => rfl); (case hle => exact u_up); intro t ht; cbv)
    | (apply E_callX hE (c_ivNone ); (case hf => rfl); (case hc => (cbv <;> trivial)); (case hle => exact u_up); intro t ht; cbv)
    | (apply E_pcallX hE (c_ivMake ⟨_, _, _, _⟩ ⟨_, _, _, _⟩); (case hm => rfl); (case hle => exact u_up); intro t ht; cbv)
    | fail)
  all_goals (subst hE; subst hr)
  all_goals (try simp only [realE, cmp_eql, cmp_neq, cmp_lss, cmp_leq, cmp_gtr, cmp_geq, intBinR, decide_eq_true_eq, decide_eq_false_iff_not, SI.val, SB.val, Num.eta, Iv.eta] at *)
  all_goals (try refine Iv.fin (t := ⟨_, ⟨_, _, _, _⟩, ⟨_, _, _, _⟩⟩) ?_)
  all_goals (subst_vars; unfold Iv.neg; simp_all)

theorem c_opAbs (a : Iv)  : ∃ t : Iv, t = Iv.abs a ∧ CallsA Try.prog 52 [a.av] (t.av) := by
  refine ⟨_, rfl, ?_⟩
  generalize hr : Iv.abs a = r
  refine callsA_of hG hm Try.func52 (by kernel_rfl) ?_
  intro E hE lp hl
  cbv
  repeat' (first
    | (refine E_br hE (fun h => ?_) (fun h => ?_) <;> cbv)
    | (refine E_nm hE (fun v hv => ?_); cbv)
    | (apply E_callX hE (c_none [a] 1 rfl (by decide)); (case hf => rfl); (case hc => (cbv <;> trivial)); (case hle => exact ⟨slcO1 hE, trivial⟩); intro t ht; cbv)
    | (apply E_pcallX hE (c_Most [⟨_, _, _, _⟩, ⟨_, _, _, _⟩] 2 rfl (by decide)); (case hm => rfl); (case hle => exact ⟨slc2, trivial⟩); intro t ht; cbv)
    | (apply E_callX hE (c_Sign ⟨_, _, _, _⟩); (case hf => rfl); (case hc => (cbv <;> trivial)); (case hle => exact u_up); intro t ht; cbv)
    | (apply E_pcallX hE (c_Neg ⟨_, _, _, _⟩); (case hm => rfl); (case hle => exact u_up); intro t ht; cbv)
    | (apply E_callX hE (c_ivNone ); (case hf => rfl); (case hc => (cbv <;> trivial)); (case hle => exact u_up); intro t ht; cbv)
    | (apply E_callX hE (c_opNeg ⟨_, ⟨_, _, _, _⟩, ⟨_, _, _, _⟩⟩); (case hf => rfl); (case hc => (cbv <;> trivial)); (case hle => exact u_up); intro t ht; cbv)
    | (apply E_pcallX hE (c_ivMake ⟨_, _, _, _⟩ ⟨_, _, _, _⟩); (case hm => rfl); (case hle => exact u_up); intro t ht; cbv)
    | fail)
  all_goals (subst hE; subst hr)
  all_goals (try simp only [realE, cmp_eql, cmp_neq, cmp_lss, cmp_leq, cmp_gtr, cmp_geq, intBinR, decide_eq_true_eq, decide_eq_false_iff_not, SI.val, SB.val, Num.eta, Iv.eta] at *)
  all_goals (try refine Iv.fin (t := ⟨_, ⟨_, _, _, _⟩, ⟨_, _, _, _⟩⟩) ?_)
  all_goals (first | change t = _ | change a = _)
  all_goals (subst_vars; try simp only [show ({ kind := 0, neg := false, m := 0, e := 0 } : Num) = Num.zero from rfl] at *)
  all_goals (unfold Iv.abs; first
    | rw [if_pos ‹_›]
    | (rw [if_neg (by simp_all)]; first | rw [if_pos (by omega)] | (rw [if_neg (by omega)]; first | rw [if_pos (by omega)] | rw [if_neg (by omega)])))

theorem c_opSqr (a : Iv) (h1 : a.lo.ok) (h2 : a.hi.ok) : ∃ t : Iv, t = Iv.sqr a ∧ CallsA Try.prog 21 [a.av] (t.av) := by
  refine ⟨_, rfl, ?_⟩
  generalize hr : Iv.sqr a = r
  refine callsA_of hG hm Try.func21 (by kernel_rfl) ?_
  intro E hE lp hl
  cbv
  repeat' (first
    | (refine E_br hE (fun h => ?_) (fun h => ?_) <;> cbv)
    | (refine E_nm hE (fun v hv => ?_); cbv)
    | (apply E_callX hE (c_opAbs ⟨_, ⟨_, _, _, _⟩, ⟨_, _, _, _⟩⟩); (case hf => rfl); (case hc => (cbv <;> trivial)); (case hle => exact u_up); intro t ht; cbv)
    | (apply E_pcallX hE (c_arMul ⟨_, _, _, _⟩ ⟨_, _, _, _⟩ _ ?_ ?_); (case hm => rfl); (case hle => exact u_up); all_goals (first | (intro t ht; cbv) | (subst hE; (try simp only [realE, cmp_eql, cmp_neq, cmp_lss, cmp_leq, cmp_gtr, cmp_geq, intBinR, decide_eq_true_eq, decide_eq_false_iff_not, SI.val, SB.val, Num.eta, Iv.eta] at *); (subst_vars; first | exact (Iv.abs_ok h1 h2).1 | exact (Iv.abs_ok h1 h2).2))))
    | (apply E_pcallX hE (c_ivMake ⟨_, _, _, _⟩ ⟨_, _, _, _⟩); (case hm => rfl); (case hle => exact u_up); intro t ht; cbv)
    | fail)
  all_goals (subst hE; subst hr)
  all_goals (try simp only [realE, cmp_eql, cmp_neq, cmp_lss, cmp_leq, cmp_gtr, cmp_geq, intBinR, decide_eq_true_eq, decide_eq_false_iff_not, SI.val, SB.val, Num.eta, Iv.eta] at *)
  all_goals (try refine Iv.fin (t := ⟨_, ⟨_, _, _, _⟩, ⟨_, _, _, _⟩⟩) ?_)
  all_goals (change t = _; subst_vars; unfold Iv.sqr; simp_all)

theorem c_ivOf (a : Int) (b : Int) (h0 : -9223372036854775808 ≤ a) (h1 : a < 9223372036854775808) (h2 : -9223372036854775808 ≤ b) (h3 : b < 9223372036854775808) : ∃ t : Iv, t = Iv.ofInts a b ∧ CallsA Try.prog 17 [.int .i64 (.s a), .int .i64 (.s b)] (t.av) := by
  refine ⟨_, rfl, ?_⟩
  generalize hr : Iv.ofInts a b = r
  refine callsA_of hG hm Try.func17 (by kernel_rfl) ?_
  intro E hE lp hl
  cbv
  repeat' (first
    | (refine E_br hE (fun h => ?_) (fun h => ?_) <;> cbv)
    | (refine E_nm hE (fun v hv => ?_); cbv)
    | (apply E_callX hE (c_Of _ ?_ ?_); (case hf => rfl); (case hc => (cbv <;> trivial)); (case hle => exact u_up); all_goals (first | (intro t ht; cbv) | (subst hE; (try simp only [realE, cmp_eql, cmp_neq, cmp_lss, cmp_leq, cmp_gtr, cmp_geq, intBinR, decide_eq_true_eq, decide_eq_false_iff_not, SI.val, SB.val, Num.eta, Iv.eta] at *); first | assumption | omega)))
    | (apply E_callX hE (c_ivMake ⟨_, _, _, _⟩ ⟨_, _, _, _⟩); (case hf => rfl); (case hc => (cbv <;> trivial)); (case hle => exact u_up); intro t ht; cbv)
    | fail)
  all_goals (subst hE; subst hr)
  all_goals (try simp only [realE, cmp_eql, cmp_neq, cmp_lss, cmp_leq, cmp_gtr, cmp_geq, intBinR, decide_eq_true_eq, decide_eq_false_iff_not, SI.val, SB.val, Num.eta, Iv.eta] at *)
  all_goals (try refine Iv.fin (t := ⟨_, ⟨_, _, _, _⟩, ⟨_, _, _, _⟩⟩) ?_)
  all_goals (subst_vars; rfl)

end Go.Proofs.Ytoghalnnmhpfmaa.Ev

/- Contracts: the difference of intervals. Printed by gen.py out of C18.spec. -/
namespace Go.Proofs.Ytoghalnnmhpfmaa.Ev
open Go Go.Proofs
set_option linter.unusedVariables false
set_option linter.unusedSimpArgs false
def Iv.sub (a b : Iv) : Iv := Iv.add [a, Iv.neg b]
theorem slcG2 {a b z : Iv} : sle2 (.slc 9 (.l 2) (fun i => getRow [a.cells, b.cells] (Int.ofNat i))) (.slc 9 (.s 2) (fun i => Iv.cells ([a, b].getD i z))) := by
  refine ⟨rfl, rfl, fun i hi => ?_⟩
  match i, hi with
  | 0, _ => exact iv_cells_self
  | 1, _ => exact iv_cells_self
  | i + 2, hi => exact absurd hi (by simp [SI.val])

theorem c_opSub (a : Iv) (b : Iv) (h1 : a.lo.ok) (h2 : a.hi.ok) (h3 : b.lo.ok) (h4 : b.hi.ok) : ∃ t : Iv, t = Iv.sub a b ∧ CallsA Try.prog 13 [a.av, b.av] (t.av) := by
  refine ⟨_, rfl, ?_⟩
  generalize hr : Iv.sub a b = r
  refine callsA_of hG hm Try.func13 (by kernel_rfl) ?_
  intro E hE lp hl
  cbv
  repeat' (first
    | (refine E_br hE (fun h => ?_) (fun h => ?_) <;> cbv)
    | (refine E_nm hE (fun v hv => ?_); cbv)
    | (apply E_pcallX hE (c_opAdd [a, ⟨_, ⟨_, _, _, _⟩, ⟨_, _, _, _⟩⟩] 2 rfl (by decide) ?_); (case hm => rfl); (case hle => exact ⟨slcG2, trivial⟩); all_goals (first | (subst_vars; intro x hx; simp only [List.mem_cons, List.not_mem_nil, or_false] at hx; rcases hx with rfl | rfl <;> first | exact ⟨h1, h2⟩ | exact Iv.neg_ok h3 h4) | (intro t ht; cbv)))
    | (apply E_pcallX hE (c_opNeg ⟨_, ⟨_, _, _, _⟩, ⟨_, _, _, _⟩⟩); (case hm => rfl); (case hle => exact u_up); intro t ht; cbv)
    | fail)
  all_goals (subst hE; subst hr)
  all_goals (try simp only [realE, cmp_eql, cmp_neq, cmp_lss, cmp_leq, cmp_gtr, cmp_geq, intBinR, decide_eq_true_eq, decide_eq_false_iff_not, SI.val, SB.val, Num.eta, Iv.eta] at *)
  all_goals (try refine Iv.fin (t := ⟨_, ⟨_, _, _, _⟩, ⟨_, _, _, _⟩⟩) ?_)
  all_goals (change t = _; subst_vars; rfl)

end Go.Proofs.Ytoghalnnmhpfmaa.Ev

/- Contracts of the reference: products and quotients of intervals. Printed by gen.py. -/
namespace Go.Proofs.Ytoghalnnmhpfmaa.Ev
open Go Go.Proofs
set_option linter.unusedVariables false
set_option linter.unusedSimpArgs false

theorem ivEq_of {E : Env} (hE : E = realE Try.prog) (b p : Iv) : E.band (E.beq b.empty p.empty) (E.band (E.cmp .eql b.lo.kind p.lo.kind) (E.band (E.beq b.lo.neg p.lo.neg) (E.band (E.cmp .eql b.lo.m p.lo.m) (E.band (E.cmp .eql b.lo.e p.lo.e) (E.band (E.cmp .eql b.hi.kind p.hi.kind) (E.band (E.beq b.hi.neg p.hi.neg) (E.band (E.cmp .eql b.hi.m p.hi.m) (E.cmp .eql b.hi.e p.hi.e)))))))) = decide (b = p) := by
  subst hE
  rw [Bool.eq_iff_iff]
  simp only [realE, cmp_eql, Bool.and_eq_true, decide_eq_true_eq, Iv.eq_iff, Num.eq_iff, beq_iff_eq]
  constructor
  · rintro ⟨h0, h1, h2, h3, h4, h5, h6, h7, h8⟩; exact ⟨h0, ⟨h1, h2, h3, h4⟩, h5, h6, h7, h8⟩
  · rintro ⟨h0, ⟨h1, h2, h3, h4⟩, h5, h6, h7, h8⟩; exact ⟨h0, h1, h2, h3, h4, h5, h6, h7, h8⟩
end Go.Proofs.Ytoghalnnmhpfmaa.Ev

/- Contracts of the reference: the sum, the opposite and the difference of two intervals. Printed by gen.py. -/
namespace Go.Proofs.Ytoghalnnmhpfmaa.Ev
open Go Go.Proofs
set_option linter.unusedVariables false
set_option linter.unusedSimpArgs false

/-- ends that are not too far from nought, if any -/
def Iv.near (x : Iv) : Prop := x.lo.near ∧ x.hi.near
theorem Num.near_zero : Num.zero.near := fun k => absurd k (by decide)
theorem Num.near_opp {n : Num} (h : n.near) : n.opp.near := fun k => Num.near_fair h k
theorem Iv.near_fair {x : Iv} (h : x.near) : x.fair.near := by
  unfold Iv.fair
  split
  · exact h
  · exact ⟨Num.near_zero, Num.near_zero⟩
theorem Iv.near_make {lo hi : Num} (h : lo.near) (k : hi.near) : (Iv.make lo hi).near := by
  rw [Iv.make_eq]
  exact Iv.near_fair (x := ⟨false, lo.fair, hi.fair⟩) ⟨Num.near_fair h, Num.near_fair k⟩
theorem Iv.near_none : Iv.none.near := ⟨Num.near_zero, Num.near_zero⟩
theorem Iv.near_neg {x : Iv} (h : x.near) : (Iv.neg x).near := by
  unfold Iv.neg
  split
  · exact Iv.near_none
  · exact Iv.near_make (Num.near_opp h.2) (Num.near_opp h.1)
theorem c_r9Neg (x : Iv) (fx : x.lo.ok ∧ x.hi.ok) : ∃ t : Iv, t = Iv.neg x ∧ CallsA Try.prog 16 [x.av] t.av := by
  rw [← Iv.rneg_eq]
  refine ⟨_, rfl, ?_⟩
  generalize hr : Iv.rneg x = r
  have emp : x.fair.empty = true → r = x.fair := by intro h; rw [← hr]; unfold Iv.rneg; rw [if_pos h]
  have mak : ¬ x.fair.empty = true → r = Iv.make x.fair.hi.opp x.fair.lo.opp := by intro h; rw [← hr]; unfold Iv.rneg; rw [if_neg h]
  have fa := Iv.fair_oks fx.1 fx.2
  clear hr
  refine callsA_of hG hm Try.func16 (by kernel_rfl) ?_
  intro E hE lp hl'
  cbv
  (apply E_callX hE (c_r8Fair ⟨_, ⟨_, _, _, _⟩, ⟨_, _, _, _⟩⟩ ?_ ?_); (case hf => rfl); (case hc => (cbv <;> trivial)); (case hle => exact u_up); all_goals (first | (intro a ha; cbv) | (first | exact fx.1 | exact fx.2)))
  replace ha : a = x.fair := ha
  rw [← ha] at emp mak fa
  clear ha
  refine E_br hE (fun g1 => ?_) (fun g1 => ?_) <;> cbv
  · rw [emp g1]; exact ⟨rfl, rfl, rfl, rfl, rfl, rfl, rfl, rfl, rfl, trivial⟩
  have M := mak (by rw [g1]; decide)
  (apply E_pcallX hE (c_rNeg ⟨_, _, _, _⟩); (case hm => rfl); (case hle => exact u_up); all_goals (first | (intro p hp; cbv) | (assumption)))
  (apply E_pcallX hE (c_rNeg ⟨_, _, _, _⟩); (case hm => rfl); (case hle => exact u_up); all_goals (first | (intro q hq; cbv) | (assumption)))
  replace hp : p = a.hi.opp := hp
  replace hq : q = a.lo.opp := hq
  have po : p.ok := by rw [hp]; exact Num.opp_ok fa.2
  have qo : q.ok := by rw [hq]; exact Num.opp_ok fa.1
  (apply E_pcallX hE (c_r8Make ⟨_, _, _, _⟩ ⟨_, _, _, _⟩ ?_ ?_); (case hm => rfl); (case hle => exact u_up); all_goals (first | (intro t ht; cbv) | (first | exact po | exact qo)))
  have T : t = r := by rw [M, ← hp, ← hq]; exact ht
  rw [T]; exact ⟨rfl, rfl, rfl, rfl, rfl, rfl, rfl, rfl, rfl, trivial⟩
theorem c_r9Two (x y : Iv) (fx : x.lo.ok ∧ x.hi.ok) (fy : y.lo.ok ∧ y.hi.ok) (nx : x.near) (ny : y.near) : ∃ t : Iv, t = Iv.add [x, y] ∧ CallsA Try.prog 46 [x.av, y.av] t.av := by
  rw [← Iv.radds_eq]
  refine ⟨_, rfl, ?_⟩
  generalize hr : Iv.radds x y = r
  have emp : (x.fair.empty || y.fair.empty) = true → r = Iv.none := by intro h; rw [← hr]; unfold Iv.radds; rw [if_pos h]
  have mak : ¬ (x.fair.empty || y.fair.empty) = true → r = Iv.make (Num.add x.fair.lo y.fair.lo false) (Num.add x.fair.hi y.fair.hi true) := by intro h; rw [← hr]; unfold Iv.radds; rw [if_neg h]
  have fa := Iv.fair_oks fx.1 fx.2
  have fb := Iv.fair_oks fy.1 fy.2
  have na := Iv.near_fair nx
  have nb := Iv.near_fair ny
  clear hr
  refine callsA_of hG hm Try.func46 (by kernel_rfl) ?_
  intro E hE lp hl'
  cbv
  (apply E_callX hE (c_r8Fair ⟨_, ⟨_, _, _, _⟩, ⟨_, _, _, _⟩⟩ ?_ ?_); (case hf => rfl); (case hc => (cbv <;> trivial)); (case hle => exact u_up); all_goals (first | (intro a ha; cbv) | (first | exact fx.1 | exact fx.2)))
  (apply E_callX hE (c_r8Fair ⟨_, ⟨_, _, _, _⟩, ⟨_, _, _, _⟩⟩ ?_ ?_); (case hf => rfl); (case hc => (cbv <;> trivial)); (case hle => exact u_up); all_goals (first | (intro b hb; cbv) | (first | exact fy.1 | exact fy.2)))
  replace ha : a = x.fair := ha
  replace hb : b = y.fair := hb
  rw [← ha] at emp mak fa na
  rw [← hb] at emp mak fb nb
  clear ha hb
  refine E_br hE (fun g1 => ?_) (fun g1 => ?_) <;> cbv
  · (apply E_callX hE (c_r8None); (case hf => rfl); (case hc => (cbv <;> trivial)); (case hle => exact u_up); all_goals (first | (intro t ht; cbv) | (assumption)))
    have T : t = r := by rw [emp (by rw [g1]; rfl)]; exact ht
    rw [T]; exact ⟨rfl, rfl, rfl, rfl, rfl, rfl, rfl, rfl, rfl, trivial⟩
  refine E_br hE (fun g2 => ?_) (fun g2 => ?_) <;> cbv
  · (apply E_callX hE (c_r8None); (case hf => rfl); (case hc => (cbv <;> trivial)); (case hle => exact u_up); all_goals (first | (intro t ht; cbv) | (assumption)))
    have T : t = r := by rw [emp (by rw [g1, g2]; rfl)]; exact ht
    rw [T]; exact ⟨rfl, rfl, rfl, rfl, rfl, rfl, rfl, rfl, rfl, trivial⟩
  have M := mak (by rw [g1, g2]; decide)
  clear emp mak
  (apply E_pcallX hE (c_r6Add ⟨_, _, _, _⟩ ⟨_, _, _, _⟩ false ?_ ?_ ?_ ?_); (case hm => rfl); (case hle => exact u_up); all_goals (first | (intro p hp; cbv) | (first | exact fa.1 | exact fb.1 | exact na.1 | exact nb.1)))
  (apply E_pcallX hE (c_r6Add ⟨_, _, _, _⟩ ⟨_, _, _, _⟩ true ?_ ?_ ?_ ?_); (case hm => rfl); (case hle => exact u_up); all_goals (first | (intro q hq; cbv) | (first | exact fa.2 | exact fb.2 | exact na.2 | exact nb.2)))
  replace hp : p = Num.add a.lo b.lo false := hp
  replace hq : q = Num.add a.hi b.hi true := hq
  have po : p.ok := by rw [hp]; exact Num.add_ok fa.1 fb.1 _
  have qo : q.ok := by rw [hq]; exact Num.add_ok fa.2 fb.2 _
  (apply E_pcallX hE (c_r8Make ⟨_, _, _, _⟩ ⟨_, _, _, _⟩ ?_ ?_); (case hm => rfl); (case hle => exact u_up); all_goals (first | (intro t ht; cbv) | (first | exact po | exact qo)))
  have T : t = r := by rw [M, ← hp, ← hq]; exact ht
  rw [T]; exact ⟨rfl, rfl, rfl, rfl, rfl, rfl, rfl, rfl, rfl, trivial⟩
theorem c_r9Sub (x y : Iv) (fx : x.lo.ok ∧ x.hi.ok) (fy : y.lo.ok ∧ y.hi.ok) (nx : x.near) (ny : y.near) : ∃ t : Iv, t = Iv.sub x y ∧ CallsA Try.prog 14 [x.av, y.av] t.av := by
  refine ⟨_, rfl, ?_⟩
  unfold Iv.sub
  generalize hr : Iv.add [x, Iv.neg y] = r
  have fn := Iv.neg_ok fy.1 fy.2
  have nn := Iv.near_neg ny
  refine callsA_of hG hm Try.func14 (by kernel_rfl) ?_
  intro E hE lp hl'
  cbv
  (apply E_pcallX hE (c_r9Neg ⟨_, ⟨_, _, _, _⟩, ⟨_, _, _, _⟩⟩ ?_); (case hm => rfl); (case hle => exact u_up); all_goals (first | (intro a ha; cbv) | (exact fy)))
  replace ha : a = Iv.neg y := ha
  rw [← ha] at fn nn hr
  (apply E_pcallX hE (c_r9Two ⟨_, ⟨_, _, _, _⟩, ⟨_, _, _, _⟩⟩ ⟨_, ⟨_, _, _, _⟩, ⟨_, _, _, _⟩⟩ ?_ ?_ ?_ ?_); (case hm => rfl); (case hle => exact u_up); all_goals (first | (intro t ht; cbv) | (first | exact fx | exact fn | exact nx | exact nn)))
  have T : t = r := by rw [← hr]; exact ht
  rw [T]; exact ⟨rfl, rfl, rfl, rfl, rfl, rfl, rfl, rfl, rfl, trivial⟩

end Go.Proofs.Ytoghalnnmhpfmaa.Ev

/- How far from nought the exponents of sums are: plain Lean. -/
namespace Go.Proofs.Ytoghalnnmhpfmaa.Ev
open Go

/-- of an exponent that is not farther than that from nought, if any -/
def Num.nearB (B : Int) (n : Num) : Prop := n.kind = 1 → -B ≤ n.e ∧ n.e ≤ B
theorem Num.nearB.mono {B C : Int} {n : Num} (h : n.nearB B) (hc : B ≤ C) : n.nearB C := fun k => by have := h k; omega
theorem Num.nearB_zero (B : Int) : Num.zero.nearB B := fun k => absurd k (by decide)
theorem Num.nearB_inf (B : Int) (b : Bool) : (Num.inf b).nearB B := fun k => absurd k (by show ¬ (2 : Int) = 1; decide)
theorem Num.nearB_fair {B : Int} {n : Num} (h : n.nearB B) : n.fair.nearB B := by
  unfold Num.fair
  split
  · exact h
  · exact Num.nearB_zero B
theorem bound_near {neg away : Bool} {m e B : Int} (h1 : -B ≤ e) (h2 : e ≤ B) (hB : B ≤ 1000000) : (Num.bound neg m e away).nearB B := by
  unfold Num.bound
  rw [if_neg (by omega), if_neg (by omega)]
  exact fun _ => ⟨h1, h2⟩
theorem grow_near {neg cut away : Bool} {m e B : Int} (h1 : -B ≤ e) (h2 : e + 1 ≤ B) (hB : B ≤ 1000000) : (Num.grow neg m e cut away).nearB B := by
  have w : IntKind.i64.wrap (e + 1) = e + 1 := by rw [wi64]; omega
  unfold Num.grow
  split
  · split
    · rw [w]; exact bound_near (by omega) h2 hB
    · exact bound_near h1 (by omega) hB
  · exact bound_near h1 (by omega) hB
theorem round_near {p : Bool × Nat × Int} {B : Int} (up : Bool) (h : p = (false, 0, 0) ∨ p.2.1 % 2 = 1) (lo : -B ≤ p.2.2 + blen (p.2.1 : Int) - 64) (hi : p.2.2 + blen (p.2.1 : Int) - 63 ≤ B) (he : -4190000 ≤ p.2.2) (he' : p.2.2 ≤ 4190000) (hB : B ≤ 1000000) : (dyRound p up).nearB B := by
  rcases h with h | h
  · rw [h, round_zero]; exact Num.nearB_zero B
  · unfold dyRound
    rw [dyNorm_odd h (by omega) (by omega)]
    obtain ⟨m, e', cut, r1, r2, r3, r4, _⟩ := rnd_form (ng := p.1) (e := p.2.2) up h he
    rw [r1]
    exact grow_near (by omega) (by omega) hB
theorem exact_nearB {x : Num} {B : Int} (ox : x.ok) (k : x.fair.kind ≠ 2) (hB : 0 ≤ B) (n : x.fair.nearB B) : -B ≤ x.fair.exact.1.2.2 ∧ x.fair.exact.1.2.2 ≤ B + 64 := by
  by_cases k0 : x.fair.kind = 0
  · rw [Num.fair_zero ox k0]
    have e : Num.zero.exact.1 = (false, 0, 0) := by unfold Num.exact; rfl
    rw [e]
    exact ⟨by show -B ≤ 0; omega, by show 0 ≤ B + 64; omega⟩
  · have F := Num.fair_fin ox k0 k
    have lo := F.lo
    have hi := F.hi
    have elo := F.elo
    have ehi := F.ehi
    have hn := n F.kind
    have v := v2_lt (n := x.fair.m.toNat) (k := 64) (by omega) (by show x.fair.m.toNat < 18446744073709551616; omega)
    have d := dyMake_val (ng := x.fair.neg) (k := x.fair.m.toNat) (e := x.fair.e) (by omega) (by omega) (by omega)
    have u : x.fair.exact.1 = dyMake x.fair.neg x.fair.m.toNat x.fair.e := by
      unfold Num.exact
      rw [if_neg (by rw [F.may, F.kind]; decide), if_neg (by rw [F.kind]; decide)]
    rw [u, d.2.2.1]
    omega
theorem align_near {lo hi : Bool × Nat × Int} {t u B : Int} (up : Bool) (hl : Dy lo t) (hh : Dy hi u) (hle : lo.2.2 ≤ hi.2.2) (h1 : -B ≤ lo.2.2) (h2 : hi.2.2 ≤ B + 64) (hB : B ≤ 900000) : (dyRound (dyAlign lo hi) up).nearB (B + 130) := by
  have l1 := hl.lo
  have l2 := hh.hi
  have l3 := hl.lt
  have l4 := hh.lt
  obtain ⟨d, hd⟩ : ∃ d : Nat, (hi.2.2 - lo.2.2).toNat = d := ⟨_, rfl⟩
  have bl : hi.2.1 * 2 ^ d + lo.2.1 < 2 ^ (d + 65) := by
    have p2 : 0 < 2 ^ d := Nat.pow_pos (by decide)
    rw [Nat.pow_add]
    have a1 : (hi.2.1 + 1) * 2 ^ d ≤ 18446744073709551616 * 2 ^ d := Nat.mul_le_mul_right _ (by omega)
    have a2 : 18446744073709551616 * 1 ≤ 18446744073709551616 * 2 ^ d := Nat.mul_le_mul_left _ p2
    have a3 : (2 : Nat) ^ d * 2 ^ 65 = 18446744073709551616 * 2 ^ d + 18446744073709551616 * 2 ^ d := by
      rw [show (2 : Nat) ^ 65 = 18446744073709551616 + 18446744073709551616 by decide, Nat.mul_add, Nat.mul_comm]
    have a4 : (hi.2.1 + 1) * 2 ^ d = hi.2.1 * 2 ^ d + 2 ^ d := by rw [Nat.add_mul, Nat.one_mul]
    omega
  have Wl := wsum_le lo.1 (hi.1 && decide (hi.2.1 * 2 ^ d ≠ 0)) lo.2.1 (hi.2.1 * 2 ^ d)
  unfold dyAlign
  rw [hd]
  generalize wsum lo.1 lo.2.1 (hi.1 && decide (hi.2.1 * 2 ^ d ≠ 0)) (hi.2.1 * 2 ^ d) = w at *
  rcases Nat.eq_zero_or_pos w.2 with h0 | h0
  · rw [h0, dyMake_zero, round_zero]; exact Num.nearB_zero _
  · have v := v2_blen h0
    have bw : blen (w.2 : Int) ≤ d + 65 := by
      have : w.2 < 2 ^ (d + 65) := by omega
      have := blen_le (x := (w.2 : Int)) (d + 65) (by exact_mod_cast this)
      omega
    obtain ⟨d1, d2, d3, d4, d5, d6⟩ := dyMake_val (ng := w.1) (k := w.2) (e := lo.2.2) h0 (by omega) (by omega)
    generalize dyMake w.1 w.2 lo.2.2 = P at *
    have b1 := v2_blen (k := P.2.1) (by omega)
    exact round_near (p := P) up (.inr d1) (by omega) (by omega) (by omega) (by omega) (by omega)
theorem add_nearB {x y : Num} {B : Int} (ox : x.ok) (oy : y.ok) (nx : x.nearB B) (ny : y.nearB B) (h0 : 0 ≤ B) (hB : B ≤ 900000) (up : Bool) : (Num.add x y up).nearB (B + 130) := by
  rw [← radd_eq ox oy]
  have fx := Num.nearB_fair nx
  have fy := Num.nearB_fair ny
  unfold Num.radd
  split
  · exact Num.nearB_inf _ _
  · split
    · exact fx.mono (by omega)
    · split
      · exact fy.mono (by omega)
      · rename_i _ k1 k2
        have DX := exact_dy ox k1
        have DY := exact_dy oy k2
        have ex := exact_nearB ox k1 h0 fx
        have ey := exact_nearB oy k2 h0 fy
        generalize x.fair.exact.1 = X at *
        generalize y.fair.exact.1 = Y at *
        have bx : blen (X.2.1 : Int) ≤ 64 := blen_le 64 (by have := DX.lt; show (X.2.1 : Int) < 18446744073709551616; omega)
        have bY : blen (Y.2.1 : Int) ≤ 64 := blen_le 64 (by have := DY.lt; show (Y.2.1 : Int) < 18446744073709551616; omega)
        have cx := blen_nonneg (X.2.1 : Int)
        have cy := blen_nonneg (Y.2.1 : Int)
        unfold dyPlus
        rw [DX.norm, DY.norm]
        split
        · exact round_near up DY.odd (by omega) (by omega) (by omega) (by omega) (by omega)
        · split
          · exact round_near up DX.odd (by omega) (by omega) (by omega) (by omega) (by omega)
          · split
            · exact align_near up DY DX (by omega) ey.1 ex.2 hB
            · exact align_near up DX DY (by omega) ex.1 ey.2 hB

def Iv.nearB (B : Int) (x : Iv) : Prop := x.lo.nearB B ∧ x.hi.nearB B
theorem Iv.nearB.mono {B C : Int} {x : Iv} (h : x.nearB B) (hc : B ≤ C) : x.nearB C := ⟨h.1.mono hc, h.2.mono hc⟩
theorem Iv.nearB_none (B : Int) : Iv.none.nearB B := ⟨Num.nearB_zero B, Num.nearB_zero B⟩
theorem Iv.nearB_fair {B : Int} {x : Iv} (h : x.nearB B) : x.fair.nearB B := by
  unfold Iv.fair
  split
  · exact h
  · exact Iv.nearB_none B
theorem Iv.nearB_make {B : Int} {lo hi : Num} (h : lo.nearB B) (k : hi.nearB B) : (Iv.make lo hi).nearB B := by
  rw [Iv.make_eq]
  exact Iv.nearB_fair (x := ⟨false, lo.fair, hi.fair⟩) ⟨Num.nearB_fair h, Num.nearB_fair k⟩
theorem Iv.nearB_add {B : Int} {x y : Iv} (fx : x.lo.ok ∧ x.hi.ok) (fy : y.lo.ok ∧ y.hi.ok) (nx : x.nearB B) (ny : y.nearB B) (h0 : 0 ≤ B) (hB : B ≤ 900000) : (Iv.add [x, y]).nearB (B + 130) := by
  rw [← Iv.radds_eq]
  have ax := Iv.fair_oks fx.1 fx.2
  have ay := Iv.fair_oks fy.1 fy.2
  have bx := Iv.nearB_fair nx
  have bY := Iv.nearB_fair ny
  unfold Iv.radds
  split
  · exact Iv.nearB_none _
  · exact Iv.nearB_make (add_nearB ax.1 ay.1 bx.1 bY.1 h0 hB _) (add_nearB ax.2 ay.2 bx.2 bY.2 h0 hB _)
def Num.few (n : Num) : Bool := decide (n.kind ≠ 1) || (decide (-1500 ≤ n.e) && decide (n.e ≤ 1500))
def Iv.few (x : Iv) : Bool := x.lo.few && x.hi.few
theorem Num.nearB_few {n : Num} (h : n.few = true) : n.nearB 1500 := by
  intro k
  unfold Num.few at h
  simpa [k] using h
theorem Iv.nearB_few {x : Iv} (h : x.few = true) : x.nearB 1500 := by
  unfold Iv.few at h
  simp only [Bool.and_eq_true] at h
  exact ⟨Num.nearB_few h.1, Num.nearB_few h.2⟩
end Go.Proofs.Ytoghalnnmhpfmaa.Ev

/- Sums and products of numbers: their order, and their opposites. Plain Lean. -/
namespace Go.Proofs.Ytoghalnnmhpfmaa.Ev
open Go

theorem Num.may_fair {n : Num} (h : n.may = true) : n.fair = n := by unfold Num.fair; rw [if_pos h]
theorem Num.opp_inf (b : Bool) : (Num.inf b).opp = Num.inf (!b) := by cases b <;> decide
theorem Num.fair_inf {a : Num} (oa : a.ok) (k : a.fair.kind = 2) : a.fair = Num.inf a.fair.neg := Num.inf_of a.fair_may (Num.fair_ok oa) k

theorem Num.add_inf {a b : Num} (up : Bool) (ka : a.fair.kind = 2) : Num.add a b up = if b.fair.kind = 2 ∧ a.fair.neg ≠ b.fair.neg then Num.inf (!up) else a.fair := by
  unfold Num.add
  by_cases h : b.fair.kind = 2 ∧ a.fair.neg ≠ b.fair.neg
  · rw [if_pos ⟨ka, h⟩, if_pos h]
  · rw [if_neg (fun k => h k.2), if_neg h, if_pos (.inl ka)]
theorem Num.add_inf2 {a b : Num} (oa : a.ok) (ob : b.ok) (up : Bool) (kb : b.fair.kind = 2) : Num.add a b up = if a.fair.kind = 2 ∧ b.fair.neg ≠ a.fair.neg then Num.inf (!up) else b.fair := by
  unfold Num.add
  by_cases h : a.fair.kind = 2 ∧ b.fair.neg ≠ a.fair.neg
  · rw [if_pos ⟨h.1, kb, fun e => h.2 e.symm⟩, if_pos h]
  · rw [if_neg (fun k => h ⟨k.1, fun e => k.2.2 e.symm⟩), if_neg h]
    by_cases ka : a.fair.kind = 2
    · rw [if_pos (.inl ka), Num.fair_inf oa ka, Num.fair_inf ob kb]
      congr 1
      exact (Classical.not_not.1 (fun e => h ⟨ka, e⟩)).symm
    · rw [if_neg (by rw [kb]; simp [ka]), if_pos (.inl kb)]
theorem Num.add_comm {a b : Num} (oa : a.ok) (ob : b.ok) (up : Bool) : Num.add a b up = Num.add b a up := by
  by_cases ka : a.fair.kind = 2
  · rw [Num.add_inf up ka, Num.add_inf2 ob oa up ka]
  · by_cases kb : b.fair.kind = 2
    · rw [Num.add_inf2 oa ob up kb, Num.add_inf up kb]
    · exact (add_best oa ob ka kb up).uniq (add_best ob oa kb ka up) (by decide) (by decide) (by rw [Int.add_comm])

theorem Num.mul_comm {a b : Num} (oa : a.ok) (ob : b.ok) (up : Bool) : Num.mul a b up = Num.mul b a up := by
  have key : a.fair.kind = 2 ∨ b.fair.kind = 2 → Num.mul a b up = Num.mul b a up := by
    intro h
    unfold Num.mul
    by_cases h0 : a.fair.kind = 0 ∨ b.fair.kind = 0
    · have h0' : b.fair.kind = 0 ∨ a.fair.kind = 0 := h0.symm
      rw [if_pos h0]
      exact (if_pos h0').symm
    · have h0' : ¬ (b.fair.kind = 0 ∨ a.fair.kind = 0) := fun k => h0 k.symm
      rw [if_neg h0, if_pos h]
      refine Eq.trans ?_ (Eq.trans (if_pos h.symm).symm (if_neg h0').symm)
      congr 1
      cases a.fair.neg <;> cases b.fair.neg <;> rfl
  by_cases ka : a.fair.kind = 2
  · exact key (.inl ka)
  · by_cases kb : b.fair.kind = 2
    · exact key (.inr kb)
    · exact (mul_best oa ob ka kb up).uniq (mul_best ob oa kb ka up) (pw_pos 0) (pw_pos 0) (by rw [Int.mul_comm a.fair.val])

theorem Best.opp {r : Num} {up : Bool} {t c : Int} (h : Best r up t c) : Best r.opp (!up) (-t) c := by
  have fr := Num.may_fair h.may
  have vr : r.opp.val = -r.val := by rw [Num.opp_val, fr]
  have inj : ∀ b, r.opp = Num.inf b → r = Num.inf (!b) := by
    intro b e
    have := congrArg Num.opp e
    rw [Num.opp_opp, fr, Num.opp_inf] at this
    exact this
  have back : ∀ s : Num, s.may = true → s.ok → ∀ b, s ≠ Num.inf b → s.opp ≠ Num.inf (!b) := by
    intro s ms os b hs e
    have := congrArg Num.opp e
    rw [Num.opp_opp, Num.may_fair ms, Num.opp_inf, Bool.not_not] at this
    exact hs this
  have vs : ∀ s : Num, s.may = true → s.opp.val = -s.val := fun s ms => by rw [Num.opp_val, Num.may_fair ms]
  refine ⟨Num.opp_may r, Num.opp_ok h.ok, fun hu => ?_, fun hu s ms os hs hle => ?_, fun hu s ms os hs hle => ?_, fun hu => ?_⟩
  · have hu' : up = true := by simpa using hu
    obtain ⟨h1, h2⟩ := h.hi hu'
    refine ⟨fun e => h1 (inj _ e), ?_⟩
    rcases h2 with h2 | h2
    · left; rw [h2, Num.opp_inf]; rfl
    · right; rw [vr, Int.neg_mul]; omega
  · have hu' : up = true := by simpa using hu
    have := h.uopt hu' s.opp (Num.opp_may s) (Num.opp_ok os) (back s ms os false hs) (by rw [vs s ms, Int.neg_mul]; omega)
    rw [vs s ms] at this
    rw [vr]; omega
  · have hu' : up = false := by simpa using hu
    have := h.dopt hu' s.opp (Num.opp_may s) (Num.opp_ok os) (back s ms os true hs) (by rw [vs s ms, Int.neg_mul]; omega)
    rw [vs s ms] at this
    rw [vr]; omega
  · have hu' : up = false := by simpa using hu
    obtain ⟨h1, h2⟩ := h.down hu'
    refine ⟨fun e => h1 (inj _ e), ?_⟩
    rcases h2 with h2 | h2
    · left; rw [h2, Num.opp_inf]; rfl
    · right; rw [vr, Int.neg_mul]; omega

end Go.Proofs.Ytoghalnnmhpfmaa.Ev

/- Sums grow with their operands: plain Lean. -/
namespace Go.Proofs.Ytoghalnnmhpfmaa.Ev
open Go

theorem Num.add_may {a b : Num} (oa : a.ok) (ob : b.ok) (up : Bool) : (Num.add a b up).may = true := by
  by_cases ka : a.fair.kind = 2
  · rw [Num.add_inf up ka]; split
    · exact Num.inf_may _
    · exact a.fair_may
  · by_cases kb : b.fair.kind = 2
    · rw [Num.add_inf2 oa ob up kb]; split
      · exact Num.inf_may _
      · exact b.fair_may
    · exact (add_best oa ob ka kb up).may
/-- a number is finite, or one of the two others -/
theorem Num.three {a : Num} (oa : a.ok) : (a.fair.kind ≠ 2 ∧ -pw 1048640 < a.fair.val ∧ a.fair.val < pw 1048640) ∨ (a.fair = Num.inf false) ∨ (a.fair = Num.inf true) := by
  by_cases k : a.fair.kind = 2
  · have e := Num.fair_inf oa k
    cases h : a.fair.neg with
    | false => rw [h] at e; exact .inr (.inl e)
    | true => rw [h] at e; exact .inr (.inr e)
  · exact .inl ⟨k, (Num.fin_val a.fair_may (Num.fair_ok oa)).1 k⟩
theorem Num.add_mono {x y z : Num} (ox : x.ok) (oy : y.ok) (oz : z.ok) (h : y.fair.val ≤ z.fair.val) (up : Bool) : (Num.add x y up).val ≤ (Num.add x z up).val := by
  have p := pw_pos 1048640
  have bz := (Num.val_le (Num.add_may ox oz up) (Num.add_ok ox oz up)).1
  have by_ := (Num.val_le (Num.add_may ox oy up) (Num.add_ok ox oy up)).2
  have vt : (Num.inf false).val = pw 1048640 := rfl
  have vb : (Num.inf true).val = -pw 1048640 := rfl
  have kf : (Num.inf false).kind = 2 := rfl
  have kt : (Num.inf true).kind = 2 := rfl
  have nf : (Num.inf false).neg = false := rfl
  have nt : (Num.inf true).neg = true := rfl
  by_cases kx : x.fair.kind = 2
  · have h0 : ∀ b, x.fair = Num.inf b → (Num.add x y up).val ≤ (Num.add x z up).val := by
      intro b ex
      have fy : (Num.add x y up) = if y.fair.kind = 2 ∧ b ≠ y.fair.neg then Num.inf (!up) else Num.inf b := by rw [Num.add_inf up kx, ex]; rfl
      have fz : (Num.add x z up) = if z.fair.kind = 2 ∧ b ≠ z.fair.neg then Num.inf (!up) else Num.inf b := by rw [Num.add_inf up kx, ex]; rfl
      clear by_ bz ex kx
      rw [fy, fz]
      clear fy fz
      rcases Num.three oy with ⟨k1, l1, u1⟩ | e1 | e1
      · rw [if_neg (fun k => k1 k.1)]
        rcases Num.three oz with ⟨k2, l2, u2⟩ | e2 | e2
        · rw [if_neg (fun k => k2 k.1)]; omega
        · rw [e2, kf, nf]; cases b <;> cases up <;> simp [vt, vb] <;> omega
        · exfalso; rw [e2, vb] at h; omega
      · rcases Num.three oz with ⟨k2, l2, u2⟩ | e2 | e2
        · exfalso; rw [e1, vt] at h; omega
        · rw [e1, e2]; omega
        · exfalso; rw [e1, e2, vt, vb] at h; omega
      · rw [e1, kt, nt]
        rcases Num.three oz with ⟨k2, l2, u2⟩ | e2 | e2
        · rw [if_neg (c := z.fair.kind = 2 ∧ _) (fun k => k2 k.1)]; cases b <;> cases up <;> simp [vt, vb] <;> omega
        · rw [e2, kf, nf]; cases b <;> cases up <;> simp [vt, vb] <;> omega
        · rw [e2, kt, nt]; omega
    exact h0 _ (Num.fair_inf ox kx)
  · rcases Num.three oy with ⟨k1, l1, u1⟩ | e1 | e1
    · rcases Num.three oz with ⟨k2, l2, u2⟩ | e2 | e2
      · exact (add_best ox oy kx k1 up).mono (add_best ox oz kx k2 up) (by decide) (by decide) (by omega)
      · have e : Num.add x z up = Num.inf false := by rw [Num.add_inf2 ox oz up (by rw [e2]; rfl), if_neg (fun k => kx k.1), e2]
        rw [e, vt]; exact by_
      · exfalso; rw [e2, vb] at h; omega
    · have ez : z.fair = Num.inf false := by
        rcases Num.three oz with ⟨k2, l2, u2⟩ | e2 | e2
        · exfalso; rw [e1, vt] at h; omega
        · exact e2
        · exfalso; rw [e1, e2, vt, vb] at h; omega
      have e : Num.add x z up = Num.inf false := by rw [Num.add_inf2 ox oz up (by rw [ez]; rfl), if_neg (fun k => kx k.1), ez]
      rw [e, vt]; exact by_
    · have e : Num.add x y up = Num.inf true := by rw [Num.add_inf2 ox oy up (by rw [e1]; rfl), if_neg (fun k => kx k.1), e1]
      rw [e, vb]; exact bz
end Go.Proofs.Ytoghalnnmhpfmaa.Ev

/- The reference's sum of any intervals is the program's: plain Lean. -/
namespace Go.Proofs.Ytoghalnnmhpfmaa.Ev
open Go

theorem inf_or {a : Num} (m : a.may = true) (o : a.ok) (b : Bool) (h : a.kind = 2) (k : a ≠ Num.inf b) : a = Num.inf (!b) := by
  have e := Num.inf_of m o h
  rw [e] at k ⊢
  cases hn : a.neg <;> cases b <;> simp [hn] at k ⊢
theorem add_side {a b : Num} {up : Bool} (ma : a.may = true) (mb : b.may = true) (oa : a.ok) (ob : b.ok) (ka : a ≠ Num.inf up) (kb : b ≠ Num.inf up) : Num.add a b up ≠ Num.inf up := by
  have fa := Num.fair_of_may ma
  have fb := Num.fair_of_may mb
  have ne : Num.inf (!up) ≠ Num.inf up := by cases up <;> decide
  by_cases ha : a.kind = 2
  · have ea := inf_or ma oa up ha ka
    by_cases hb : b.kind = 2
    · have eb := inf_or mb ob up hb kb
      have e : Num.add a b up = Num.inf (!up) := by
        rw [ea, eb]; cases up <;> decide
      rw [e]; exact ne
    · have e : Num.add a b up = Num.inf (!up) := by
        unfold Num.add
        rw [fa, fb, if_neg (fun k => hb k.2.1), if_pos (.inl ha), ea]
      rw [e]; exact ne
  · by_cases hb : b.kind = 2
    · have eb := inf_or mb ob up hb kb
      by_cases hz : a.kind = 0
      · have e : Num.add a b up = Num.inf (!up) := by
          unfold Num.add
          rw [fa, fb, if_neg (fun k => ha k.1), if_neg (by omega), if_pos (.inl hb), eb]
        rw [e]; exact ne
      · have e : Num.add a b up = Num.inf (!up) := by
          unfold Num.add
          rw [fa, fb, if_neg (fun k => ha k.1), if_neg (by omega), if_pos (.inl hb), eb]
        rw [e]; exact ne
    · have B := add_best oa ob (by rw [fa]; exact ha) (by rw [fb]; exact hb) up
      cases up
      · exact (B.down rfl).1
      · exact (B.hi rfl).1
theorem add_sides {a b : Num} (ma : a.may = true) (mb : b.may = true) (oa : a.ok) (ob : b.ok) : (Num.add a b false).val ≤ (Num.add a b true).val := by
  have fa := Num.fair_of_may ma
  have fb := Num.fair_of_may mb
  by_cases ha : a.kind = 2
  · by_cases hb : b.kind = 2
    · rw [Num.inf_of ma oa ha, Num.inf_of mb ob hb]
      have p := pw_pos 1048640
      cases a.neg <;> cases b.neg <;> simp [Num.add, Num.fair, Num.may, Num.inf, Num.val_inf] <;> (try simp [Num.val, Num.W]) <;> omega
    · have e : ∀ up, Num.add a b up = a := by
        intro up
        unfold Num.add
        rw [fa, fb, if_neg (fun k => hb k.2.1), if_pos (.inl ha)]
      rw [e, e]; exact Int.le_refl _
  · by_cases hb : b.kind = 2
    · have e : ∀ up, Num.add a b up = b := by
        intro up
        unfold Num.add
        rw [fa, fb, if_neg (fun k => ha k.1), if_neg (by omega), if_pos (.inl hb)]
      rw [e, e]; exact Int.le_refl _
    · exact (add_best oa ob (by rw [fa]; exact ha) (by rw [fb]; exact hb) false).le (add_best oa ob (by rw [fa]; exact ha) (by rw [fb]; exact hb) true) (by decide)
theorem add_grows {x x' y y' : Num} (ox : x.ok) (ox' : x'.ok) (oy : y.ok) (oy' : y'.ok) (h : x.fair.val ≤ x'.fair.val) (h' : y.fair.val ≤ y'.fair.val) (up : Bool) : (Num.add x y up).val ≤ (Num.add x' y' up).val := by
  have a1 := Num.add_mono ox oy oy' h' up
  have a2 := Num.add_mono oy' ox ox' h up
  rw [Num.add_comm oy' ox, Num.add_comm oy' ox'] at a2
  omega
/-- the sum of two that are real is -/
theorem Iv.add_real {x y : Iv} (X : x.Real) (Y : y.Real) : (Iv.mk false (Num.add x.lo y.lo false) (Num.add x.hi y.hi true)).Real ∧ Iv.add [x, y] = ⟨false, Num.add x.lo y.lo false, Num.add x.hi y.hi true⟩ := by
  have m1 := Num.add_may X.loo Y.loo false
  have m2 := Num.add_may X.hio Y.hio true
  have o1 := Num.add_ok X.loo Y.loo false
  have o2 := Num.add_ok X.hio Y.hio true
  have s1 := add_side (up := false) X.lom Y.lom X.loo Y.loo ((Num.ne_inf X.lom X.loo).1.2 X.lt) ((Num.ne_inf Y.lom Y.loo).1.2 Y.lt)
  have s2 := add_side (up := true) X.him Y.him X.hio Y.hio ((Num.ne_inf X.him X.hio).2.2 X.gt) ((Num.ne_inf Y.him Y.hio).2.2 Y.gt)
  have g1 := add_sides X.lom Y.lom X.loo Y.loo
  have g2 := add_grows X.loo X.hio Y.loo Y.hio (by rw [Num.fair_of_may X.lom, Num.fair_of_may X.him]; exact X.le) (by rw [Num.fair_of_may Y.lom, Num.fair_of_may Y.him]; exact Y.le) true
  have R : (Iv.mk false (Num.add x.lo y.lo false) (Num.add x.hi y.hi true)).Real := ⟨rfl, m1, m2, o1, o2, Int.le_trans g1 g2, (Num.ne_inf m1 o1).1.1 s1, (Num.ne_inf m2 o2).2.1 s2⟩
  refine ⟨R, ?_⟩
  rw [← Iv.radds_eq]
  unfold Iv.radds
  rw [X.fair, Y.fair, X.some, Y.some, if_neg (by decide)]
  rw [Iv.make_real (by rw [Num.fair_of_may m1, Num.fair_of_may m2]; exact R), Num.fair_of_may m1, Num.fair_of_may m2]
theorem Iv.add2_oks {x y : Iv} (hx : x.lo.ok ∧ x.hi.ok) (hy : y.lo.ok ∧ y.hi.ok) : (Iv.add [x, y]).lo.ok ∧ (Iv.add [x, y]).hi.ok := by
  rw [← Iv.radds_eq]
  have fx := Iv.fair_oks hx.1 hx.2
  have fy := Iv.fair_oks hy.1 hy.2
  unfold Iv.radds
  split
  · exact ⟨Num.zero_ok, Num.zero_ok⟩
  · exact Iv.make_ok (Num.add_ok fx.1 fy.1 _) (Num.add_ok fx.2 fy.2 _)
/-- the reference's sum, one behind the other -/
def Iv.sumTo (l : List Iv) (i : Nat) : Iv := match l.take i with
  | [] => Iv.none
  | x :: r => r.foldl (fun o y => Iv.add [o, y]) x.fair
theorem Iv.add_bad {o y : Iv} (h : o.fair.empty = true ∨ y.fair.empty = true) : Iv.add [o, y] = Iv.none := by
  rw [← Iv.radds_eq]; unfold Iv.radds
  rw [if_pos (by rcases h with h | h <;> simp [h])]
theorem Iv.fold_none : ∀ (r : List Iv), r.foldl (fun o y => Iv.add [o, y]) Iv.none = Iv.none
  | [] => rfl
  | y :: r => by
    show r.foldl _ (Iv.add [Iv.none, y]) = _
    rw [Iv.add_bad (.inl (by decide))]; exact Iv.fold_none r
theorem Iv.fold_real : ∀ (r : List Iv) (o : Iv), o.Real → (∀ y ∈ r, y.Real) → r.foldl (fun o y => Iv.add [o, y]) o = ⟨false, (r.foldl Iv.addStep (o.lo, o.hi)).1, (r.foldl Iv.addStep (o.lo, o.hi)).2⟩ ∧ (r.foldl (fun o y => Iv.add [o, y]) o).Real
  | [], o, R, _ => ⟨(Iv.eq_iff _ _).2 ⟨R.some, rfl, rfl⟩, R⟩
  | y :: r, o, R, h => by
    have A := Iv.add_real R (h y (List.mem_cons_self ..))
    have I := Iv.fold_real r (Iv.add [o, y]) (by rw [A.2]; exact A.1) (fun z hz => h z (List.mem_cons_of_mem _ hz))
    show r.foldl _ (Iv.add [o, y]) = ⟨false, (r.foldl Iv.addStep (Iv.addStep (o.lo, o.hi) y)).1, (r.foldl Iv.addStep (Iv.addStep (o.lo, o.hi) y)).2⟩ ∧ (r.foldl _ (Iv.add [o, y])).Real
    have e : Iv.addStep (o.lo, o.hi) y = ((Iv.add [o, y]).lo, (Iv.add [o, y]).hi) := by rw [A.2]; rfl
    rw [e]; exact I
theorem Iv.fold_bad : ∀ (r : List Iv) (o : Iv), (∃ y ∈ r, y.fair.empty = true) → r.foldl (fun o y => Iv.add [o, y]) o = Iv.none
  | [], o, h => by obtain ⟨y, hy, _⟩ := h; cases hy
  | z :: r, o, h => by
    show r.foldl _ (Iv.add [o, z]) = _
    obtain ⟨y, hy, hb⟩ := h
    rcases List.mem_cons.1 hy with rfl | hy
    · rw [Iv.add_bad (.inr hb)]; exact Iv.fold_none r
    · exact Iv.fold_bad r _ ⟨y, hy, hb⟩
theorem Iv.sumTo_all {l : List Iv} (hl : ∀ x ∈ l, x.lo.ok ∧ x.hi.ok) (h : l ≠ []) : Iv.sumTo l l.length = Iv.add l := by
  unfold Iv.sumTo
  rw [List.take_length]
  cases l with
  | nil => exact absurd rfl h
  | cons x r =>
    show r.foldl (fun o y => Iv.add [o, y]) x.fair = Iv.add (x :: r)
    rw [show Iv.add (x :: r) = if Iv.anyBad (x :: r) then Iv.none else Iv.make (Iv.addEnds (x :: r)).1 (Iv.addEnds (x :: r)).2 from rfl]
    by_cases hb : Iv.anyBad (x :: r) = true
    · rw [if_pos hb]
      have hb' : x.bad = true ∨ ∃ y ∈ r, y.bad = true := by simpa [Iv.anyBad] using hb
      rcases hb' with k | ⟨y, hy, k⟩
      · rw [Iv.none_of (by rw [Iv.fair_emp]; exact k)]; exact Iv.fold_none r
      · exact Iv.fold_bad r _ ⟨y, hy, by rw [Iv.fair_emp]; exact k⟩
    · rw [if_neg hb]
      have hb' : x.bad = false ∧ ∀ y ∈ r, y.bad = false := by
        have : ¬ (x.bad = true ∨ ∃ y ∈ r, y.bad = true) := fun k => hb (by simpa [Iv.anyBad] using k)
        refine ⟨by simpa using fun k => this (.inl k), fun y hy => by simpa using fun k => this (.inr ⟨y, hy, k⟩)⟩
      have X := Iv.real_of_good hb'.1 (hl x (List.mem_cons_self ..)).1 (hl x (List.mem_cons_self ..)).2
      have Y : ∀ y ∈ r, y.Real := fun y hy => Iv.real_of_good (hb'.2 y hy) (hl y (List.mem_cons_of_mem _ hy)).1 (hl y (List.mem_cons_of_mem _ hy)).2
      have F := Iv.fold_real r x X Y
      have R := F.2
      rw [F.1] at R
      rw [X.fair, F.1]
      show _ = Iv.make (r.foldl Iv.addStep (x.lo, x.hi)).1 (r.foldl Iv.addStep (x.lo, x.hi)).2
      exact (Iv.make_self R).symm
theorem Iv.sumTo_one {l : List Iv} (h : 0 < l.length) : Iv.sumTo l 1 = (l.getD 0 Iv.none).fair := by
  cases l with
  | nil => exact absurd h (by decide)
  | cons x r => rfl
theorem Iv.sumTo_next {l : List Iv} {i : Nat} (h0 : 1 ≤ i) (h : i < l.length) : Iv.sumTo l (i + 1) = Iv.add [Iv.sumTo l i, l.getD i Iv.none] := by
  unfold Iv.sumTo
  cases l with
  | nil => exact absurd h (Nat.not_lt_zero _)
  | cons x r =>
    obtain ⟨j, rfl⟩ : ∃ j, i = j + 1 := ⟨i - 1, by omega⟩
    have hj : j < r.length := by simpa using h
    show (r.take (j + 1)).foldl _ x.fair = Iv.add [(r.take j).foldl _ x.fair, _]
    rw [List.take_add_one, List.getElem?_eq_getElem hj, Option.toList_some, List.foldl_append]
    simp [List.getD, List.getElem?_eq_getElem hj]
/-- fits, and is not far -/
theorem Iv.sumTo_near {l : List Iv} (hl : ∀ x ∈ l, (x.lo.ok ∧ x.hi.ok) ∧ x.nearB 1500) (h20 : l.length ≤ 20) : ∀ i, 1 ≤ i → i ≤ l.length → ((Iv.sumTo l i).lo.ok ∧ (Iv.sumTo l i).hi.ok) ∧ (Iv.sumTo l i).nearB (1500 + 130 * i)
  | 0, h, _ => absurd h (by decide)
  | 1, _, h => by
    rw [Iv.sumTo_one (by omega)]
    have e : l.getD 0 Iv.none = l[0] := by simp [List.getD, List.getElem?_eq_getElem (show 0 < l.length by omega)]
    have q := hl l[0] (List.getElem_mem _)
    rw [e]
    exact ⟨Iv.fair_oks q.1.1 q.1.2, (Iv.nearB_fair q.2).mono (by omega)⟩
  | i + 2, _, h => by
    have I := Iv.sumTo_near hl h20 (i + 1) (by omega) (by omega)
    rw [Iv.sumTo_next (by omega) (by omega)]
    have e : l.getD (i + 1) Iv.none = l[i + 1] := by simp [List.getD, List.getElem?_eq_getElem (show i + 1 < l.length by omega)]
    have q := hl l[i + 1] (List.getElem_mem _)
    rw [e]
    refine ⟨Iv.add2_oks I.1 q.1, ?_⟩
    exact (Iv.nearB_add I.1 q.1 I.2 (q.2.mono (by omega)) (by omega) (by omega)).mono (by omega)
end Go.Proofs.Ytoghalnnmhpfmaa.Ev
