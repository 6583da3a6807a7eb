/- Texts of the proof, joined: C8 Pu10 C9 C9h C10 C11 C12 Pu11 C13 C14 Pu12 C15 Pu13 C16 Pu14 C17 C18 Pu15 Pu16 Pu17 Pu18 C19 C20 -/
import Derived.Test.YtincnfjihffllaaB3
import Derived.Laws.Externs
set_option linter.unusedVariables false
set_option linter.unusedSimpArgs false

/- Contracts: a division of two words by one. -/
namespace Go.Proofs.Ytincnfjihffllaa.Ev
open Go Go.Proofs
set_option linter.unusedVariables false
set_option maxHeartbeats 4000000 in
theorem c_Div64 (hi lo y : Int) (h1 : 0 ≤ hi) (h2 : hi < y) (h3 : 9223372036854775808 ≤ y) (h4 : y < 18446744073709551616) (h5 : 0 ≤ lo) (h6 : lo < 18446744073709551616) :
    ∃ t : Int × Int, t = ((hi * 18446744073709551616 + lo) / y, (hi * 18446744073709551616 + lo) % y) ∧
      CallsA Try.prog 68 [.int .u64 (.s hi), .int .u64 (.s lo), .int .u64 (.s y)] (.tup [.int .u64 (.s t.1), .int .u64 (.s t.2)]) := by
  refine ⟨_, rfl, ?_⟩
  generalize hr : ((hi * 18446744073709551616 + lo) / y, (hi * 18446744073709551616 + lo) % y) = r
  refine callsA_of hG hm Try.func68 (by kernel_rfl) ?_
  intro E hE lp hl
  cbv
  refine E_br hE (fun a => ?_) (fun a => ?_)
  · exfalso; subst hE; simp only [realE, cmp_eql, decide_eq_true_eq] at a; omega
  clear a; cbv
  refine E_br hE (fun a => ?_) (fun a => ?_)
  · exfalso; subst hE; simp only [realE, cmp_leq, decide_eq_true_eq] at a; omega
  clear a; cbv
  refine E_br hE (fun a => ?_) (fun a => ?_)
  · have e : hi = 0 := by subst hE; simpa only [realE, cmp_eql, decide_eq_true_eq] using a
    cbv
    refine E_br hE (fun a => ?_) (fun a => ?_)
    · exfalso; subst hE; simp only [realE, cmp_eql, decide_eq_true_eq] at a; omega
    cbv
    repeat' (first
      | (refine E_nm hE (fun v hv => ?_); cbv)
      | (refine E_br hE (fun a => ?_) (fun a => ?_); (exfalso; subst hE; simp only [realE, cmp_eql, decide_eq_true_eq] at a; omega); cbv)
      | fail)
    rename_i v1 hv1
    subst hE
    have b1 := Int.ediv_nonneg h5 (show (0 : Int) ≤ y by omega)
    have b2 := Int.ediv_le_self y h5
    have e1 : v1 = lo / y := by
      rw [hv1]; show IntKind.u64.wrap (lo.tdiv y) = _; rw [Int.tdiv_eq_ediv_of_nonneg h5, wu64]; omega
    have e2 : v = lo % y := by rw [hv]; show lo.tmod y = _; rw [Int.tmod_eq_emod_of_nonneg h5]
    rw [← hr, e, e1, e2]
    simp
  clear a; cbv
  (apply E_callX hE (c_LZ64 y (by omega) (by omega)); (case hf => rfl); (case hc => (cbv <;> trivial)); (case hle => exact ⟨u2_int, trivial⟩); intro t ht; cbv)
  have ht0 : t = 0 := by rw [ht, blen_top h3 h4]; rfl
  subst ht0
  refine E_nm hE (fun s hs => ?_)
  have e : s = 0 := by subst hE; rw [hs]; rfl
  subst e; cbv
  refine E_br hE (fun a => ?_) (fun a => ?_)
  · exfalso; subst hE; simp only [realE, cmp_lss, decide_eq_true_eq] at a; omega
  cbv
  refine E_nm hE (fun y' hy' => ?_)
  have e : y' = y := by subst hE; rw [hy']; exact shl0 y (by omega) h4
  subst e; cbv
  refine E_nm hE (fun yh hyh => ?_)
  have e1 : yh = y' / 4294967296 := by subst hE; rw [hyh]; exact shr32 y'
  clear hyh; cbv
  refine E_nm hE (fun yl hyl => ?_)
  have e2 : yl = y' % 4294967296 := by subst hE; rw [hyl]; exact and_32' y'
  clear hyl; cbv
  refine E_br hE (fun a => ?_) (fun a => ?_)
  · exfalso; subst hE; simp only [realE, cmp_lss, decide_eq_true_eq] at a; omega
  cbv
  refine E_br hE (fun a => ?_) (fun a => ?_)
  · exfalso; subst hE; simp only [realE, cmp_lss, decide_eq_true_eq, intBinR] at a; rw [show IntKind.u64.wrap (64 - 0) = 64 by decide] at a; omega
  cbv
  refine E_nm hE (fun u hu => ?_)
  have e : u = hi := by
    subst hE; rw [hu]
    show IntKind.u64.wrap ((BitVec.ofInt IntKind.u64.bits (IntKind.u64.wrap (hi * 2 ^ min (Int.toNat 0) IntKind.u64.bits)) ||| BitVec.ofInt IntKind.u64.bits (lo.fdiv (2 ^ min (Int.toNat 64) IntKind.u64.bits))).toNat : Int) = hi
    rw [shl0 hi h1 (by omega), shr64 lo h5 h6, or_0 hi h1 (by omega)]
  subst e; cbv
  refine E_br hE (fun a => ?_) (fun a => ?_)
  · exfalso; subst hE; simp only [realE, cmp_lss, decide_eq_true_eq] at a; omega
  cbv
  refine E_nm hE (fun l' hl' => ?_)
  have e : l' = lo := by subst hE; rw [hl']; exact shl0 lo h5 h6
  subst e; cbv
  refine E_nm hE (fun lh hlh => ?_)
  have e3 : lh = l' / 4294967296 := by subst hE; rw [hlh]; exact shr32 l'
  clear hlh; cbv
  refine E_nm hE (fun ll hll => ?_)
  have e4 : ll = l' % 4294967296 := by subst hE; rw [hll]; exact and_32' l'
  clear hll; cbv
  refine E_br hE (fun a => ?_) (fun a => ?_)
  · exfalso; subst hE; simp only [realE, cmp_eql, decide_eq_true_eq] at a; omega
  cbv
  refine E_nm hE (fun q0 hq0 => ?_)
  have e5 : q0 = u / yh := by
    subst hE; rw [hq0]; show IntKind.u64.wrap (u.tdiv yh) = _
    have b1 := Int.ediv_nonneg h1 (show (0 : Int) ≤ yh by omega)
    have b2 := Int.ediv_le_self yh h1
    rw [Int.tdiv_eq_ediv_of_nonneg h1, wu64]; omega
  clear hq0; cbv
  refine E_nm hE (fun r0 hr0 => ?_)
  have D0 : Dig y' u lh q0 (u - q0 * yh) := by
    have := dig_start (y := y') (u := u) (un := lh) h3 h4 h1 h2 (by omega) (by omega)
    rw [← e1, ← e5] at this; exact this
  have e6 : r0 = u - q0 * yh := by
    subst hE; rw [hr0]; show IntKind.u64.wrap (u - IntKind.u64.wrap (q0 * yh)) = _
    have b1 := D0.pos
    have b2 := Int.mul_nonneg D0.nn (show (0 : Int) ≤ yh by omega)
    rw [wu64, wu64]
    generalize q0 * yh = p at *
    omega
  rw [← e6] at D0
  clear hr0 e6; cbv
  clear hs ht hy' hu hl' e5 a
  refine E_loop hE hG hm hl (ι := Int × Int) (fun p => ⟨[(2, .int .u64 (.s y')), (8, .int .u64 (.s 0)), (9, .int .u64 (.s yh)), (10, .int .u64 (.s yl)), (11, .int .u64 (.s u)), (12, .int .u64 (.s l')), (13, .int .u64 (.s lh)), (14, .int .u64 (.s ll)), (15, .int .u64 (.s p.1)), (16, .int .u64 (.s p.2))], []⟩)
    (fun p => p.1.toNat) (fun p => Dig y' u lh p.1 p.2) ⟨(q0, r0), D0, stLe rfl ?_⟩ ?_
  · repeat' (first | exact t_nil | apply t_cons | exact u2_int)
  rintro ⟨q, r'⟩ D
  dsimp only at D
  cbv
  have W := dig_words h3 h4 (show 0 ≤ lh by omega) (by omega) D
  rw [← e1, ← e2] at W
  have less : (4294967296 ≤ q ∨ r' * 4294967296 + lh < q * yl) → u * 4294967296 + lh < (q - 1 + 1) * y' ∧ r' + yh = u - (q - 1) * yh ∧ 1 ≤ q := by
    intro h; rw [e1]; exact dig_less h3 h4 h1 h2 (by omega) (by omega) D (by rw [← e2]; exact h)
  refine E_br hE (fun a => ?_) (fun a => ?_)
  · have H' : 4294967296 ≤ q ∨ r' * 4294967296 + lh < q * yl := .inl (by subst hE; simpa only [realE, cmp_geq, decide_eq_true_eq] using a)
    clear a
    cbv
    refine E_nm hE (fun qn hqn => ?_)
    cbv
    refine E_nm hE (fun rn hrn => ?_)
    obtain ⟨l1, l2, l3⟩ := less H'
    have eqn : qn = q - 1 := by
      subst hE; rw [hqn]; show IntKind.u64.wrap (q - 1) = _
      have := D.top
      rw [wu64]; omega
    have ern : rn = r' + yh := by subst hE; rw [hrn]; exact W.2.2
    rw [← eqn] at l1 l2
    rw [← ern] at l2
    cbv
    refine E_br hE (fun c => ?_) (fun c => ?_)
    · have c' : 4294967296 ≤ rn := by subst hE; simpa only [realE, cmp_geq, decide_eq_true_eq] using c
      have dt := D.top
      have R : Right y' u lh qn := right_of h3 h2 (by omega) (dig_right h3 h4 (by rw [← e1]; exact l2) (dig_break h4 (by omega) (by omega) (by omega) c')) l1 (by omega)
      clear hqn hrn c c' l1 l2 l3 H'
      cbv
      refine E_nm hE (fun w hw => ?_)
      have ew : w = u * 4294967296 + lh - qn * y' := by subst hE; rw [hw]; exact right_wrap h4 R
      have lw := right_left R
      rw [← ew] at lw
      clear hw
      cbv
      refine E_br hE (fun a => ?_) (fun a => ?_)
      · exfalso; subst hE; simp only [realE, cmp_eql, decide_eq_true_eq] at a; omega
      cbv
      refine E_nm hE (fun p0 hp0 => ?_)
      have e5 : p0 = w / yh := by
        subst hE; rw [hp0]; show IntKind.u64.wrap (w.tdiv yh) = _
        have b1 := Int.ediv_nonneg lw.1 (show (0 : Int) ≤ yh by omega)
        have b2 := Int.ediv_le_self yh lw.1
        rw [Int.tdiv_eq_ediv_of_nonneg lw.1, wu64]; omega
      clear hp0; cbv
      refine E_nm hE (fun s0 hs0 => ?_)
      have D1 : Dig y' w ll p0 (w - p0 * yh) := by
        have := dig_start (y := y') (u := w) (un := ll) h3 h4 lw.1 lw.2 (by omega) (by omega)
        rw [← e1, ← e5] at this; exact this
      have e6 : s0 = w - p0 * yh := by
        subst hE; rw [hs0]; show IntKind.u64.wrap (w - IntKind.u64.wrap (p0 * yh)) = _
        have b1 := D1.pos
        have b2 := Int.mul_nonneg D1.nn (show (0 : Int) ≤ yh by omega)
        rw [wu64, wu64]
        generalize p0 * yh = p at *
        omega
      rw [← e6] at D1
      clear hs0 e6 e5 a
      cbv
      refine E_loop hE hG hm hl (ι := Int × Int) (fun p => ⟨[(2, .int .u64 (.s y')), (8, .int .u64 (.s 0)), (9, .int .u64 (.s yh)), (10, .int .u64 (.s yl)), (14, .int .u64 (.s ll)), (15, .int .u64 (.s qn)), (17, .int .u64 (.s w)), (18, .int .u64 (.s p.1)), (16, .int .u64 (.s p.2))], []⟩)
        (fun p => p.1.toNat) (fun p => Dig y' w ll p.1 p.2) ⟨(p0, s0), D1, stLe rfl (by repeat' (first | exact t_nil | apply t_cons | exact u2_int))⟩ ?_
      rintro ⟨p, s⟩ D2
      dsimp only at D2
      cbv
      have W2 := dig_words h3 h4 (show 0 ≤ ll by omega) (by omega) D2
      rw [← e1, ← e2] at W2
      have less2 : (4294967296 ≤ p ∨ s * 4294967296 + ll < p * yl) → w * 4294967296 + ll < (p - 1 + 1) * y' ∧ s + yh = w - (p - 1) * yh ∧ 1 ≤ p := by
        intro h; rw [e1]; exact dig_less h3 h4 lw.1 lw.2 (by omega) (by omega) D2 (by rw [← e2]; exact h)
      have dt2 := D2.top
      have dp2 := D2.pos
      refine E_br hE (fun a => ?_) (fun a => ?_)
      · have H2 : 4294967296 ≤ p ∨ s * 4294967296 + ll < p * yl := .inl (by subst hE; simpa only [realE, cmp_geq, decide_eq_true_eq] using a)
        clear a
        cbv
        refine E_nm hE (fun pn hpn => ?_)
        cbv
        refine E_nm hE (fun sn hsn => ?_)
        obtain ⟨l1, l2, l3⟩ := less2 H2
        have epn : pn = p - 1 := by
          subst hE; rw [hpn]; show IntKind.u64.wrap (p - 1) = _
          rw [wu64]; omega
        have esn : sn = s + yh := by subst hE; rw [hsn]; exact W2.2.2
        rw [← epn] at l1 l2
        rw [← esn] at l2
        cbv
        refine E_br hE (fun c => ?_) (fun c => ?_)
        · have c' : 4294967296 ≤ sn := by subst hE; simpa only [realE, cmp_geq, decide_eq_true_eq] using c
          have R2 : Right y' w ll pn := right_of h3 lw.2 (by omega) (dig_right h3 h4 (by rw [← e1]; exact l2) (dig_break h4 (by omega) (by omega) (by omega) c')) l1 (by omega)
          clear hpn hsn c c' l1 l2 l3 H2
          cbv
          refine E_br hE (fun a => ?_) (fun a => ?_)
          · exfalso; subst hE; simp only [realE, cmp_lss, decide_eq_true_eq] at a; omega
          clear a; cbv
          repeat' (first
            | (refine E_nm hE (fun v hv => ?_); cbv)
            | fail)
          rename_i v1 hv1
          obtain ⟨f1, f2⟩ := two_digits (y := y') (by omega) ew R R2
          subst hE
          have g1 : v1 = qn * 4294967296 + pn := by
            rw [hv1]; show IntKind.u64.wrap (IntKind.u64.wrap (qn * 4294967296) + pn) = _
            have := R.small; have := R2.small; have := R.nn; have := R2.nn
            rw [wu64, wu64]; omega
          have g2 : v = w * 4294967296 + ll - pn * y' := by
            rw [hv]; show (IntKind.u64.wrap (IntKind.u64.wrap (IntKind.u64.wrap (w * 4294967296) + ll) - IntKind.u64.wrap (pn * y'))).fdiv (2 ^ min (Int.toNat 0) IntKind.u64.bits) = _
            rw [right_wrap h4 R2, show (2 : Int) ^ min (Int.toNat 0) IntKind.u64.bits = 1 by decide, shr_lit (by decide), Int.ediv_one]
          have el : l' = lh * 4294967296 + ll := by omega
          rw [← el] at f1 f2
          rw [← hr, g1, g2]
          exact ⟨f1.symm, f2.symm, trivial⟩
        · have c' : sn < 4294967296 := by
            have : ¬ 4294967296 ≤ sn := by subst hE; simpa only [realE, cmp_geq, decide_eq_false_iff_not] using c
            omega
          clear hpn hsn
          cbv
          exact ⟨(pn, sn), by (show pn.toNat < p.toNat; omega), ⟨l1, by rw [← e1]; exact l2, by (show 0 ≤ sn; omega), c', by (show pn ≤ 4294967297; omega), by (show 0 ≤ pn; omega)⟩, stLe rfl (by repeat' (first | exact t_nil | apply t_cons | exact u2_int))⟩
      have a2 : p < 4294967296 := by
        have : ¬ 4294967296 ≤ p := by subst hE; simpa only [realE, cmp_geq, decide_eq_false_iff_not] using a
        omega
      cbv
      refine E_br hE (fun b => ?_) (fun b => ?_)
      · have H2 : 4294967296 ≤ p ∨ s * 4294967296 + ll < p * yl := .inr (by
          subst hE; simp only [realE, cmp_gtr, intBinR, decide_eq_true_eq] at b
          rw [W2.1 a2, W2.2.1] at b; exact b)
        clear b
        cbv
        refine E_nm hE (fun pn hpn => ?_)
        cbv
        refine E_nm hE (fun sn hsn => ?_)
        obtain ⟨l1, l2, l3⟩ := less2 H2
        have epn : pn = p - 1 := by
          subst hE; rw [hpn]; show IntKind.u64.wrap (p - 1) = _
          rw [wu64]; omega
        have esn : sn = s + yh := by subst hE; rw [hsn]; exact W2.2.2
        rw [← epn] at l1 l2
        rw [← esn] at l2
        cbv
        refine E_br hE (fun c => ?_) (fun c => ?_)
        · have c' : 4294967296 ≤ sn := by subst hE; simpa only [realE, cmp_geq, decide_eq_true_eq] using c
          have R2 : Right y' w ll pn := right_of h3 lw.2 (by omega) (dig_right h3 h4 (by rw [← e1]; exact l2) (dig_break h4 (by omega) (by omega) (by omega) c')) l1 (by omega)
          clear hpn hsn c c' l1 l2 l3 H2
          cbv
          refine E_br hE (fun a => ?_) (fun a => ?_)
          · exfalso; subst hE; simp only [realE, cmp_lss, decide_eq_true_eq] at a; omega
          clear a; cbv
          repeat' (first
            | (refine E_nm hE (fun v hv => ?_); cbv)
            | fail)
          rename_i v1 hv1
          obtain ⟨f1, f2⟩ := two_digits (y := y') (by omega) ew R R2
          subst hE
          have g1 : v1 = qn * 4294967296 + pn := by
            rw [hv1]; show IntKind.u64.wrap (IntKind.u64.wrap (qn * 4294967296) + pn) = _
            have := R.small; have := R2.small; have := R.nn; have := R2.nn
            rw [wu64, wu64]; omega
          have g2 : v = w * 4294967296 + ll - pn * y' := by
            rw [hv]; show (IntKind.u64.wrap (IntKind.u64.wrap (IntKind.u64.wrap (w * 4294967296) + ll) - IntKind.u64.wrap (pn * y'))).fdiv (2 ^ min (Int.toNat 0) IntKind.u64.bits) = _
            rw [right_wrap h4 R2, show (2 : Int) ^ min (Int.toNat 0) IntKind.u64.bits = 1 by decide, shr_lit (by decide), Int.ediv_one]
          have el : l' = lh * 4294967296 + ll := by omega
          rw [← el] at f1 f2
          rw [← hr, g1, g2]
          exact ⟨f1.symm, f2.symm, trivial⟩
        · have c' : sn < 4294967296 := by
            have : ¬ 4294967296 ≤ sn := by subst hE; simpa only [realE, cmp_geq, decide_eq_false_iff_not] using c
            omega
          clear hpn hsn
          cbv
          exact ⟨(pn, sn), by (show pn.toNat < p.toNat; omega), ⟨l1, by rw [← e1]; exact l2, by (show 0 ≤ sn; omega), c', by (show pn ≤ 4294967297; omega), by (show 0 ≤ pn; omega)⟩, stLe rfl (by repeat' (first | exact t_nil | apply t_cons | exact u2_int))⟩
      have b2 : p * yl ≤ s * 4294967296 + ll := by
        subst hE; simp only [realE, cmp_gtr, intBinR, decide_eq_false_iff_not] at b
        rw [W2.1 a2, W2.2.1] at b; omega
      have R2 : Right y' w ll p := right_of h3 lw.2 (by omega) (dig_right h3 h4 D2.rest (by rw [← e2]; exact b2)) D2.lt D2.nn
      cbv
      refine E_br hE (fun a => ?_) (fun a => ?_)
      · exfalso; subst hE; simp only [realE, cmp_lss, decide_eq_true_eq] at a; omega
      clear a; cbv
      repeat' (first
        | (refine E_nm hE (fun v hv => ?_); cbv)
        | fail)
      rename_i v1 hv1
      obtain ⟨f1, f2⟩ := two_digits (y := y') (by omega) ew R R2
      subst hE
      have g1 : v1 = qn * 4294967296 + p := by
        rw [hv1]; show IntKind.u64.wrap (IntKind.u64.wrap (qn * 4294967296) + p) = _
        have := R.small; have := R2.small; have := R.nn; have := R2.nn
        rw [wu64, wu64]; omega
      have g2 : v = w * 4294967296 + ll - p * y' := by
        rw [hv]; show (IntKind.u64.wrap (IntKind.u64.wrap (IntKind.u64.wrap (w * 4294967296) + ll) - IntKind.u64.wrap (p * y'))).fdiv (2 ^ min (Int.toNat 0) IntKind.u64.bits) = _
        rw [right_wrap h4 R2, show (2 : Int) ^ min (Int.toNat 0) IntKind.u64.bits = 1 by decide, shr_lit (by decide), Int.ediv_one]
      have el : l' = lh * 4294967296 + ll := by omega
      rw [← el] at f1 f2
      rw [← hr, g1, g2]
      exact ⟨f1.symm, f2.symm, trivial⟩
    · have c' : rn < 4294967296 := by
        have : ¬ 4294967296 ≤ rn := by subst hE; simpa only [realE, cmp_geq, decide_eq_false_iff_not] using c
        omega
      have dt := D.top
      have dp := D.pos
      clear hqn hrn
      cbv
      exact ⟨(qn, rn), by (show qn.toNat < q.toNat; omega), ⟨l1, by rw [← e1]; exact l2, by (show 0 ≤ rn; omega), c', by (show qn ≤ 4294967297; omega), by (show 0 ≤ qn; omega)⟩, stLe rfl (by repeat' (first | exact t_nil | apply t_cons | exact u2_int))⟩
  have a' : q < 4294967296 := by
    have : ¬ 4294967296 ≤ q := by subst hE; simpa only [realE, cmp_geq, decide_eq_false_iff_not] using a
    omega
  cbv
  refine E_br hE (fun b => ?_) (fun b => ?_)
  · have H' : 4294967296 ≤ q ∨ r' * 4294967296 + lh < q * yl := .inr (by
      subst hE; simp only [realE, cmp_gtr, intBinR, decide_eq_true_eq] at b
      rw [W.1 a', W.2.1] at b; exact b)
    clear b
    cbv
    refine E_nm hE (fun qn hqn => ?_)
    cbv
    refine E_nm hE (fun rn hrn => ?_)
    obtain ⟨l1, l2, l3⟩ := less H'
    have eqn : qn = q - 1 := by
      subst hE; rw [hqn]; show IntKind.u64.wrap (q - 1) = _
      have := D.top
      rw [wu64]; omega
    have ern : rn = r' + yh := by subst hE; rw [hrn]; exact W.2.2
    rw [← eqn] at l1 l2
    rw [← ern] at l2
    cbv
    refine E_br hE (fun c => ?_) (fun c => ?_)
    · have c' : 4294967296 ≤ rn := by subst hE; simpa only [realE, cmp_geq, decide_eq_true_eq] using c
      have dt := D.top
      have R : Right y' u lh qn := right_of h3 h2 (by omega) (dig_right h3 h4 (by rw [← e1]; exact l2) (dig_break h4 (by omega) (by omega) (by omega) c')) l1 (by omega)
      clear hqn hrn c c' l1 l2 l3 H'
      cbv
      refine E_nm hE (fun w hw => ?_)
      have ew : w = u * 4294967296 + lh - qn * y' := by subst hE; rw [hw]; exact right_wrap h4 R
      have lw := right_left R
      rw [← ew] at lw
      clear hw
      cbv
      refine E_br hE (fun a => ?_) (fun a => ?_)
      · exfalso; subst hE; simp only [realE, cmp_eql, decide_eq_true_eq] at a; omega
      cbv
      refine E_nm hE (fun p0 hp0 => ?_)
      have e5 : p0 = w / yh := by
        subst hE; rw [hp0]; show IntKind.u64.wrap (w.tdiv yh) = _
        have b1 := Int.ediv_nonneg lw.1 (show (0 : Int) ≤ yh by omega)
        have b2 := Int.ediv_le_self yh lw.1
        rw [Int.tdiv_eq_ediv_of_nonneg lw.1, wu64]; omega
      clear hp0; cbv
      refine E_nm hE (fun s0 hs0 => ?_)
      have D1 : Dig y' w ll p0 (w - p0 * yh) := by
        have := dig_start (y := y') (u := w) (un := ll) h3 h4 lw.1 lw.2 (by omega) (by omega)
        rw [← e1, ← e5] at this; exact this
      have e6 : s0 = w - p0 * yh := by
        subst hE; rw [hs0]; show IntKind.u64.wrap (w - IntKind.u64.wrap (p0 * yh)) = _
        have b1 := D1.pos
        have b2 := Int.mul_nonneg D1.nn (show (0 : Int) ≤ yh by omega)
        rw [wu64, wu64]
        generalize p0 * yh = p at *
        omega
      rw [← e6] at D1
      clear hs0 e6 e5 a
      cbv
      refine E_loop hE hG hm hl (ι := Int × Int) (fun p => ⟨[(2, .int .u64 (.s y')), (8, .int .u64 (.s 0)), (9, .int .u64 (.s yh)), (10, .int .u64 (.s yl)), (14, .int .u64 (.s ll)), (15, .int .u64 (.s qn)), (17, .int .u64 (.s w)), (18, .int .u64 (.s p.1)), (16, .int .u64 (.s p.2))], []⟩)
        (fun p => p.1.toNat) (fun p => Dig y' w ll p.1 p.2) ⟨(p0, s0), D1, stLe rfl (by repeat' (first | exact t_nil | apply t_cons | exact u2_int))⟩ ?_
      rintro ⟨p, s⟩ D2
      dsimp only at D2
      cbv
      have W2 := dig_words h3 h4 (show 0 ≤ ll by omega) (by omega) D2
      rw [← e1, ← e2] at W2
      have less2 : (4294967296 ≤ p ∨ s * 4294967296 + ll < p * yl) → w * 4294967296 + ll < (p - 1 + 1) * y' ∧ s + yh = w - (p - 1) * yh ∧ 1 ≤ p := by
        intro h; rw [e1]; exact dig_less h3 h4 lw.1 lw.2 (by omega) (by omega) D2 (by rw [← e2]; exact h)
      have dt2 := D2.top
      have dp2 := D2.pos
      refine E_br hE (fun a => ?_) (fun a => ?_)
      · have H2 : 4294967296 ≤ p ∨ s * 4294967296 + ll < p * yl := .inl (by subst hE; simpa only [realE, cmp_geq, decide_eq_true_eq] using a)
        clear a
        cbv
        refine E_nm hE (fun pn hpn => ?_)
        cbv
        refine E_nm hE (fun sn hsn => ?_)
        obtain ⟨l1, l2, l3⟩ := less2 H2
        have epn : pn = p - 1 := by
          subst hE; rw [hpn]; show IntKind.u64.wrap (p - 1) = _
          rw [wu64]; omega
        have esn : sn = s + yh := by subst hE; rw [hsn]; exact W2.2.2
        rw [← epn] at l1 l2
        rw [← esn] at l2
        cbv
        refine E_br hE (fun c => ?_) (fun c => ?_)
        · have c' : 4294967296 ≤ sn := by subst hE; simpa only [realE, cmp_geq, decide_eq_true_eq] using c
          have R2 : Right y' w ll pn := right_of h3 lw.2 (by omega) (dig_right h3 h4 (by rw [← e1]; exact l2) (dig_break h4 (by omega) (by omega) (by omega) c')) l1 (by omega)
          clear hpn hsn c c' l1 l2 l3 H2
          cbv
          refine E_br hE (fun a => ?_) (fun a => ?_)
          · exfalso; subst hE; simp only [realE, cmp_lss, decide_eq_true_eq] at a; omega
          clear a; cbv
          repeat' (first
            | (refine E_nm hE (fun v hv => ?_); cbv)
            | fail)
          rename_i v1 hv1
          obtain ⟨f1, f2⟩ := two_digits (y := y') (by omega) ew R R2
          subst hE
          have g1 : v1 = qn * 4294967296 + pn := by
            rw [hv1]; show IntKind.u64.wrap (IntKind.u64.wrap (qn * 4294967296) + pn) = _
            have := R.small; have := R2.small; have := R.nn; have := R2.nn
            rw [wu64, wu64]; omega
          have g2 : v = w * 4294967296 + ll - pn * y' := by
            rw [hv]; show (IntKind.u64.wrap (IntKind.u64.wrap (IntKind.u64.wrap (w * 4294967296) + ll) - IntKind.u64.wrap (pn * y'))).fdiv (2 ^ min (Int.toNat 0) IntKind.u64.bits) = _
            rw [right_wrap h4 R2, show (2 : Int) ^ min (Int.toNat 0) IntKind.u64.bits = 1 by decide, shr_lit (by decide), Int.ediv_one]
          have el : l' = lh * 4294967296 + ll := by omega
          rw [← el] at f1 f2
          rw [← hr, g1, g2]
          exact ⟨f1.symm, f2.symm, trivial⟩
        · have c' : sn < 4294967296 := by
            have : ¬ 4294967296 ≤ sn := by subst hE; simpa only [realE, cmp_geq, decide_eq_false_iff_not] using c
            omega
          clear hpn hsn
          cbv
          exact ⟨(pn, sn), by (show pn.toNat < p.toNat; omega), ⟨l1, by rw [← e1]; exact l2, by (show 0 ≤ sn; omega), c', by (show pn ≤ 4294967297; omega), by (show 0 ≤ pn; omega)⟩, stLe rfl (by repeat' (first | exact t_nil | apply t_cons | exact u2_int))⟩
      have a2 : p < 4294967296 := by
        have : ¬ 4294967296 ≤ p := by subst hE; simpa only [realE, cmp_geq, decide_eq_false_iff_not] using a
        omega
      cbv
      refine E_br hE (fun b => ?_) (fun b => ?_)
      · have H2 : 4294967296 ≤ p ∨ s * 4294967296 + ll < p * yl := .inr (by
          subst hE; simp only [realE, cmp_gtr, intBinR, decide_eq_true_eq] at b
          rw [W2.1 a2, W2.2.1] at b; exact b)
        clear b
        cbv
        refine E_nm hE (fun pn hpn => ?_)
        cbv
        refine E_nm hE (fun sn hsn => ?_)
        obtain ⟨l1, l2, l3⟩ := less2 H2
        have epn : pn = p - 1 := by
          subst hE; rw [hpn]; show IntKind.u64.wrap (p - 1) = _
          rw [wu64]; omega
        have esn : sn = s + yh := by subst hE; rw [hsn]; exact W2.2.2
        rw [← epn] at l1 l2
        rw [← esn] at l2
        cbv
        refine E_br hE (fun c => ?_) (fun c => ?_)
        · have c' : 4294967296 ≤ sn := by subst hE; simpa only [realE, cmp_geq, decide_eq_true_eq] using c
          have R2 : Right y' w ll pn := right_of h3 lw.2 (by omega) (dig_right h3 h4 (by rw [← e1]; exact l2) (dig_break h4 (by omega) (by omega) (by omega) c')) l1 (by omega)
          clear hpn hsn c c' l1 l2 l3 H2
          cbv
          refine E_br hE (fun a => ?_) (fun a => ?_)
          · exfalso; subst hE; simp only [realE, cmp_lss, decide_eq_true_eq] at a; omega
          clear a; cbv
          repeat' (first
            | (refine E_nm hE (fun v hv => ?_); cbv)
            | fail)
          rename_i v1 hv1
          obtain ⟨f1, f2⟩ := two_digits (y := y') (by omega) ew R R2
          subst hE
          have g1 : v1 = qn * 4294967296 + pn := by
            rw [hv1]; show IntKind.u64.wrap (IntKind.u64.wrap (qn * 4294967296) + pn) = _
            have := R.small; have := R2.small; have := R.nn; have := R2.nn
            rw [wu64, wu64]; omega
          have g2 : v = w * 4294967296 + ll - pn * y' := by
            rw [hv]; show (IntKind.u64.wrap (IntKind.u64.wrap (IntKind.u64.wrap (w * 4294967296) + ll) - IntKind.u64.wrap (pn * y'))).fdiv (2 ^ min (Int.toNat 0) IntKind.u64.bits) = _
            rw [right_wrap h4 R2, show (2 : Int) ^ min (Int.toNat 0) IntKind.u64.bits = 1 by decide, shr_lit (by decide), Int.ediv_one]
          have el : l' = lh * 4294967296 + ll := by omega
          rw [← el] at f1 f2
          rw [← hr, g1, g2]
          exact ⟨f1.symm, f2.symm, trivial⟩
        · have c' : sn < 4294967296 := by
            have : ¬ 4294967296 ≤ sn := by subst hE; simpa only [realE, cmp_geq, decide_eq_false_iff_not] using c
            omega
          clear hpn hsn
          cbv
          exact ⟨(pn, sn), by (show pn.toNat < p.toNat; omega), ⟨l1, by rw [← e1]; exact l2, by (show 0 ≤ sn; omega), c', by (show pn ≤ 4294967297; omega), by (show 0 ≤ pn; omega)⟩, stLe rfl (by repeat' (first | exact t_nil | apply t_cons | exact u2_int))⟩
      have b2 : p * yl ≤ s * 4294967296 + ll := by
        subst hE; simp only [realE, cmp_gtr, intBinR, decide_eq_false_iff_not] at b
        rw [W2.1 a2, W2.2.1] at b; omega
      have R2 : Right y' w ll p := right_of h3 lw.2 (by omega) (dig_right h3 h4 D2.rest (by rw [← e2]; exact b2)) D2.lt D2.nn
      cbv
      refine E_br hE (fun a => ?_) (fun a => ?_)
      · exfalso; subst hE; simp only [realE, cmp_lss, decide_eq_true_eq] at a; omega
      clear a; cbv
      repeat' (first
        | (refine E_nm hE (fun v hv => ?_); cbv)
        | fail)
      rename_i v1 hv1
      obtain ⟨f1, f2⟩ := two_digits (y := y') (by omega) ew R R2
      subst hE
      have g1 : v1 = qn * 4294967296 + p := by
        rw [hv1]; show IntKind.u64.wrap (IntKind.u64.wrap (qn * 4294967296) + p) = _
        have := R.small; have := R2.small; have := R.nn; have := R2.nn
        rw [wu64, wu64]; omega
      have g2 : v = w * 4294967296 + ll - p * y' := by
        rw [hv]; show (IntKind.u64.wrap (IntKind.u64.wrap (IntKind.u64.wrap (w * 4294967296) + ll) - IntKind.u64.wrap (p * y'))).fdiv (2 ^ min (Int.toNat 0) IntKind.u64.bits) = _
        rw [right_wrap h4 R2, show (2 : Int) ^ min (Int.toNat 0) IntKind.u64.bits = 1 by decide, shr_lit (by decide), Int.ediv_one]
      have el : l' = lh * 4294967296 + ll := by omega
      rw [← el] at f1 f2
      rw [← hr, g1, g2]
      exact ⟨f1.symm, f2.symm, trivial⟩
    · have c' : rn < 4294967296 := by
        have : ¬ 4294967296 ≤ rn := by subst hE; simpa only [realE, cmp_geq, decide_eq_false_iff_not] using c
        omega
      have dt := D.top
      have dp := D.pos
      clear hqn hrn
      cbv
      exact ⟨(qn, rn), by (show qn.toNat < q.toNat; omega), ⟨l1, by rw [← e1]; exact l2, by (show 0 ≤ rn; omega), c', by (show qn ≤ 4294967297; omega), by (show 0 ≤ qn; omega)⟩, stLe rfl (by repeat' (first | exact t_nil | apply t_cons | exact u2_int))⟩
  have b' : q * yl ≤ r' * 4294967296 + lh := by
    subst hE; simp only [realE, cmp_gtr, intBinR, decide_eq_false_iff_not] at b
    rw [W.1 a', W.2.1] at b; omega
  have R : Right y' u lh q := right_of h3 h2 (by omega) (dig_right h3 h4 D.rest (by rw [← e2]; exact b')) D.lt D.nn
  cbv
  refine E_nm hE (fun w hw => ?_)
  have ew : w = u * 4294967296 + lh - q * y' := by subst hE; rw [hw]; exact right_wrap h4 R
  have lw := right_left R
  rw [← ew] at lw
  clear hw
  cbv
  refine E_br hE (fun a => ?_) (fun a => ?_)
  · exfalso; subst hE; simp only [realE, cmp_eql, decide_eq_true_eq] at a; omega
  cbv
  refine E_nm hE (fun p0 hp0 => ?_)
  have e5 : p0 = w / yh := by
    subst hE; rw [hp0]; show IntKind.u64.wrap (w.tdiv yh) = _
    have b1 := Int.ediv_nonneg lw.1 (show (0 : Int) ≤ yh by omega)
    have b2 := Int.ediv_le_self yh lw.1
    rw [Int.tdiv_eq_ediv_of_nonneg lw.1, wu64]; omega
  clear hp0; cbv
  refine E_nm hE (fun s0 hs0 => ?_)
  have D1 : Dig y' w ll p0 (w - p0 * yh) := by
    have := dig_start (y := y') (u := w) (un := ll) h3 h4 lw.1 lw.2 (by omega) (by omega)
    rw [← e1, ← e5] at this; exact this
  have e6 : s0 = w - p0 * yh := by
    subst hE; rw [hs0]; show IntKind.u64.wrap (w - IntKind.u64.wrap (p0 * yh)) = _
    have b1 := D1.pos
    have b2 := Int.mul_nonneg D1.nn (show (0 : Int) ≤ yh by omega)
    rw [wu64, wu64]
    generalize p0 * yh = p at *
    omega
  rw [← e6] at D1
  clear hs0 e6 e5 a
  cbv
  refine E_loop hE hG hm hl (ι := Int × Int) (fun p => ⟨[(2, .int .u64 (.s y')), (8, .int .u64 (.s 0)), (9, .int .u64 (.s yh)), (10, .int .u64 (.s yl)), (14, .int .u64 (.s ll)), (15, .int .u64 (.s q)), (17, .int .u64 (.s w)), (18, .int .u64 (.s p.1)), (16, .int .u64 (.s p.2))], []⟩)
    (fun p => p.1.toNat) (fun p => Dig y' w ll p.1 p.2) ⟨(p0, s0), D1, stLe rfl (by repeat' (first | exact t_nil | apply t_cons | exact u2_int))⟩ ?_
  rintro ⟨p, s⟩ D2
  dsimp only at D2
  cbv
  have W2 := dig_words h3 h4 (show 0 ≤ ll by omega) (by omega) D2
  rw [← e1, ← e2] at W2
  have less2 : (4294967296 ≤ p ∨ s * 4294967296 + ll < p * yl) → w * 4294967296 + ll < (p - 1 + 1) * y' ∧ s + yh = w - (p - 1) * yh ∧ 1 ≤ p := by
    intro h; rw [e1]; exact dig_less h3 h4 lw.1 lw.2 (by omega) (by omega) D2 (by rw [← e2]; exact h)
  have dt2 := D2.top
  have dp2 := D2.pos
  refine E_br hE (fun a => ?_) (fun a => ?_)
  · have H2 : 4294967296 ≤ p ∨ s * 4294967296 + ll < p * yl := .inl (by subst hE; simpa only [realE, cmp_geq, decide_eq_true_eq] using a)
    clear a
    cbv
    refine E_nm hE (fun pn hpn => ?_)
    cbv
    refine E_nm hE (fun sn hsn => ?_)
    obtain ⟨l1, l2, l3⟩ := less2 H2
    have epn : pn = p - 1 := by
      subst hE; rw [hpn]; show IntKind.u64.wrap (p - 1) = _
      rw [wu64]; omega
    have esn : sn = s + yh := by subst hE; rw [hsn]; exact W2.2.2
    rw [← epn] at l1 l2
    rw [← esn] at l2
    cbv
    refine E_br hE (fun c => ?_) (fun c => ?_)
    · have c' : 4294967296 ≤ sn := by subst hE; simpa only [realE, cmp_geq, decide_eq_true_eq] using c
      have R2 : Right y' w ll pn := right_of h3 lw.2 (by omega) (dig_right h3 h4 (by rw [← e1]; exact l2) (dig_break h4 (by omega) (by omega) (by omega) c')) l1 (by omega)
      clear hpn hsn c c' l1 l2 l3 H2
      cbv
      refine E_br hE (fun a => ?_) (fun a => ?_)
      · exfalso; subst hE; simp only [realE, cmp_lss, decide_eq_true_eq] at a; omega
      clear a; cbv
      repeat' (first
        | (refine E_nm hE (fun v hv => ?_); cbv)
        | fail)
      rename_i v1 hv1
      obtain ⟨f1, f2⟩ := two_digits (y := y') (by omega) ew R R2
      subst hE
      have g1 : v1 = q * 4294967296 + pn := by
        rw [hv1]; show IntKind.u64.wrap (IntKind.u64.wrap (q * 4294967296) + pn) = _
        have := R.small; have := R2.small; have := R.nn; have := R2.nn
        rw [wu64, wu64]; omega
      have g2 : v = w * 4294967296 + ll - pn * y' := by
        rw [hv]; show (IntKind.u64.wrap (IntKind.u64.wrap (IntKind.u64.wrap (w * 4294967296) + ll) - IntKind.u64.wrap (pn * y'))).fdiv (2 ^ min (Int.toNat 0) IntKind.u64.bits) = _
        rw [right_wrap h4 R2, show (2 : Int) ^ min (Int.toNat 0) IntKind.u64.bits = 1 by decide, shr_lit (by decide), Int.ediv_one]
      have el : l' = lh * 4294967296 + ll := by omega
      rw [← el] at f1 f2
      rw [← hr, g1, g2]
      exact ⟨f1.symm, f2.symm, trivial⟩
    · have c' : sn < 4294967296 := by
        have : ¬ 4294967296 ≤ sn := by subst hE; simpa only [realE, cmp_geq, decide_eq_false_iff_not] using c
        omega
      clear hpn hsn
      cbv
      exact ⟨(pn, sn), by (show pn.toNat < p.toNat; omega), ⟨l1, by rw [← e1]; exact l2, by (show 0 ≤ sn; omega), c', by (show pn ≤ 4294967297; omega), by (show 0 ≤ pn; omega)⟩, stLe rfl (by repeat' (first | exact t_nil | apply t_cons | exact u2_int))⟩
  have a2 : p < 4294967296 := by
    have : ¬ 4294967296 ≤ p := by subst hE; simpa only [realE, cmp_geq, decide_eq_false_iff_not] using a
    omega
  cbv
  refine E_br hE (fun b => ?_) (fun b => ?_)
  · have H2 : 4294967296 ≤ p ∨ s * 4294967296 + ll < p * yl := .inr (by
      subst hE; simp only [realE, cmp_gtr, intBinR, decide_eq_true_eq] at b
      rw [W2.1 a2, W2.2.1] at b; exact b)
    clear b
    cbv
    refine E_nm hE (fun pn hpn => ?_)
    cbv
    refine E_nm hE (fun sn hsn => ?_)
    obtain ⟨l1, l2, l3⟩ := less2 H2
    have epn : pn = p - 1 := by
      subst hE; rw [hpn]; show IntKind.u64.wrap (p - 1) = _
      rw [wu64]; omega
    have esn : sn = s + yh := by subst hE; rw [hsn]; exact W2.2.2
    rw [← epn] at l1 l2
    rw [← esn] at l2
    cbv
    refine E_br hE (fun c => ?_) (fun c => ?_)
    · have c' : 4294967296 ≤ sn := by subst hE; simpa only [realE, cmp_geq, decide_eq_true_eq] using c
      have R2 : Right y' w ll pn := right_of h3 lw.2 (by omega) (dig_right h3 h4 (by rw [← e1]; exact l2) (dig_break h4 (by omega) (by omega) (by omega) c')) l1 (by omega)
      clear hpn hsn c c' l1 l2 l3 H2
      cbv
      refine E_br hE (fun a => ?_) (fun a => ?_)
      · exfalso; subst hE; simp only [realE, cmp_lss, decide_eq_true_eq] at a; omega
      clear a; cbv
      repeat' (first
        | (refine E_nm hE (fun v hv => ?_); cbv)
        | fail)
      rename_i v1 hv1
      obtain ⟨f1, f2⟩ := two_digits (y := y') (by omega) ew R R2
      subst hE
      have g1 : v1 = q * 4294967296 + pn := by
        rw [hv1]; show IntKind.u64.wrap (IntKind.u64.wrap (q * 4294967296) + pn) = _
        have := R.small; have := R2.small; have := R.nn; have := R2.nn
        rw [wu64, wu64]; omega
      have g2 : v = w * 4294967296 + ll - pn * y' := by
        rw [hv]; show (IntKind.u64.wrap (IntKind.u64.wrap (IntKind.u64.wrap (w * 4294967296) + ll) - IntKind.u64.wrap (pn * y'))).fdiv (2 ^ min (Int.toNat 0) IntKind.u64.bits) = _
        rw [right_wrap h4 R2, show (2 : Int) ^ min (Int.toNat 0) IntKind.u64.bits = 1 by decide, shr_lit (by decide), Int.ediv_one]
      have el : l' = lh * 4294967296 + ll := by omega
      rw [← el] at f1 f2
      rw [← hr, g1, g2]
      exact ⟨f1.symm, f2.symm, trivial⟩
    · have c' : sn < 4294967296 := by
        have : ¬ 4294967296 ≤ sn := by subst hE; simpa only [realE, cmp_geq, decide_eq_false_iff_not] using c
        omega
      clear hpn hsn
      cbv
      exact ⟨(pn, sn), by (show pn.toNat < p.toNat; omega), ⟨l1, by rw [← e1]; exact l2, by (show 0 ≤ sn; omega), c', by (show pn ≤ 4294967297; omega), by (show 0 ≤ pn; omega)⟩, stLe rfl (by repeat' (first | exact t_nil | apply t_cons | exact u2_int))⟩
  have b2 : p * yl ≤ s * 4294967296 + ll := by
    subst hE; simp only [realE, cmp_gtr, intBinR, decide_eq_false_iff_not] at b
    rw [W2.1 a2, W2.2.1] at b; omega
  have R2 : Right y' w ll p := right_of h3 lw.2 (by omega) (dig_right h3 h4 D2.rest (by rw [← e2]; exact b2)) D2.lt D2.nn
  cbv
  refine E_br hE (fun a => ?_) (fun a => ?_)
  · exfalso; subst hE; simp only [realE, cmp_lss, decide_eq_true_eq] at a; omega
  clear a; cbv
  repeat' (first
    | (refine E_nm hE (fun v hv => ?_); cbv)
    | fail)
  rename_i v1 hv1
  obtain ⟨f1, f2⟩ := two_digits (y := y') (by omega) ew R R2
  subst hE
  have g1 : v1 = q * 4294967296 + p := by
    rw [hv1]; show IntKind.u64.wrap (IntKind.u64.wrap (q * 4294967296) + p) = _
    have := R.small; have := R2.small; have := R.nn; have := R2.nn
    rw [wu64, wu64]; omega
  have g2 : v = w * 4294967296 + ll - p * y' := by
    rw [hv]; show (IntKind.u64.wrap (IntKind.u64.wrap (IntKind.u64.wrap (w * 4294967296) + ll) - IntKind.u64.wrap (p * y'))).fdiv (2 ^ min (Int.toNat 0) IntKind.u64.bits) = _
    rw [right_wrap h4 R2, show (2 : Int) ^ min (Int.toNat 0) IntKind.u64.bits = 1 by decide, shr_lit (by decide), Int.ediv_one]
  have el : l' = lh * 4294967296 + ll := by omega
  rw [← el] at f1 f2
  rw [← hr, g1, g2]
  exact ⟨f1.symm, f2.symm, trivial⟩
end Go.Proofs.Ytincnfjihffllaa.Ev

/- Whole numbers as numbers, the opposite, how far from nought, the square: plain Lean. -/
namespace Go.Proofs.Ytincnfjihffllaa.Ev
open Go

theorem E_br_t {P : Program} {E : Env} (hE : E = realE P) {c : Bool} {t f : Unit → Prop} (h : c = true) (ht : t ()) : E.br c t f := by
  subst hE; exact ⟨fun _ => ht, fun h' => (by rw [h] at h'; cases h')⟩
theorem E_br_f {P : Program} {E : Env} (hE : E = realE P) {c : Bool} {t f : Unit → Prop} (h : c = false) (hf : f ()) : E.br c t f := by
  subst hE; exact ⟨fun h' => (by rw [h] at h'; cases h'), fun _ => hf⟩

def Num.ofInt (n : Int) : Num :=
  if n = 0 then Num.zero else ⟨1, decide (n < 0), IntKind.u64.wrap ((n.natAbs : Int) * 2 ^ min (Int.toNat (64 - blen n.natAbs)) IntKind.u64.bits), IntKind.i64.wrap (0 - (64 - blen n.natAbs))⟩
def Iv.ofInts (a b : Int) : Iv := Iv.make (Num.ofInt a) (Num.ofInt b)
def Iv.neg (a : Iv) : Iv := if Iv.anyBad [a] then Iv.none else Iv.make a.hi.opp a.lo.opp
def Iv.abs (a : Iv) : Iv :=
  if Iv.anyBad [a] then Iv.none else if 0 ≤ a.lo.sign then a else if a.hi.sign ≤ 0 then Iv.neg a else Iv.make Num.zero (Num.most [a.hi, a.lo.opp])
def Iv.sqr (a : Iv) : Iv := if (Iv.abs a).empty then Iv.abs a else Iv.make (Num.mul (Iv.abs a).lo (Iv.abs a).lo false) (Num.mul (Iv.abs a).hi (Iv.abs a).hi true)

def awakeP : Bool :=
  decide (Iv.mul (Iv.ofInts (-1) 2) (Iv.ofInts 3 4) = Iv.ofInts (-4) 8) && !(Iv.mul (Iv.ofInts (-1) 2) (Iv.ofInts 3 4)).empty && decide ((Iv.mul (Iv.ofInts (-1) 2) (Iv.ofInts 3 4)).lo.kind = 1) &&
    decide ((Iv.div (Iv.ofInts 1 2) (Iv.ofInts 0 4)).hi = Num.inf false) && decide (0 < Num.cmp (Iv.div (Iv.ofInts 1 2) (Iv.ofInts 0 4)).lo (Num.ofInt 0)) && decide (Iv.sqr (Iv.ofInts (-1) 2) = Iv.ofInts 0 4)
theorem awake_true : awakeP = true := by decide +kernel

theorem aw1 : Iv.mul (Iv.ofInts (-1) 2) (Iv.ofInts 3 4) = ⟨false, ⟨1, true, 9223372036854775808, -61⟩, ⟨1, false, 9223372036854775808, -60⟩⟩ := by decide +kernel
theorem aw2 : Iv.ofInts (-4) 8 = ⟨false, ⟨1, true, 9223372036854775808, -61⟩, ⟨1, false, 9223372036854775808, -60⟩⟩ := by decide +kernel
theorem aw3 : Iv.div (Iv.ofInts 1 2) (Iv.ofInts 0 4) = ⟨false, ⟨1, false, 9223372036854775808, -65⟩, ⟨2, false, 0, 0⟩⟩ := by decide +kernel
theorem aw4 : Num.cmp ⟨1, false, 9223372036854775808, -65⟩ (Num.ofInt 0) = 1 := by decide +kernel
theorem aw5 : Iv.sqr (Iv.ofInts (-1) 2) = ⟨false, ⟨0, false, 0, 0⟩, ⟨1, false, 9223372036854775808, -61⟩⟩ := by decide +kernel
theorem aw6 : Iv.ofInts 0 4 = ⟨false, ⟨0, false, 0, 0⟩, ⟨1, false, 9223372036854775808, -61⟩⟩ := by decide +kernel
theorem wabs_neg {n : Int} (h0 : -9223372036854775808 ≤ n) (h : n < 0) : IntKind.u64.wrap (0 - IntKind.u64.wrap n) = (n.natAbs : Int) := by
  simp only [wu64]; omega
theorem wabs_pos {n : Int} (h0 : 0 ≤ n) (h : n < 9223372036854775808) : IntKind.u64.wrap n = (n.natAbs : Int) := by
  simp only [wu64]; omega
theorem Num.ofInt_ok (n : Int) : (Num.ofInt n).ok := by
  unfold Num.ofInt
  split
  · exact Num.zero_ok
  · constructor <;> (simp only [wu64]; omega)

theorem Num.grow_ok {neg cut away : Bool} {m e : Int} (h0 : 0 ≤ m) (h1 : m < 18446744073709551616) : (Num.grow neg m e cut away).ok := by
  have b : ∀ (m e : Int), 0 ≤ m → m < 18446744073709551616 → (Num.bound neg m e away).ok := by
    intro m e h0 h1
    unfold Num.bound
    repeat' split
    all_goals first | exact Num.inf_ok _ | exact Num.zero_ok | exact ⟨h0, h1⟩ | (constructor <;> simp [Num.huge, Num.tiny, Num.top])
  unfold Num.grow
  repeat' split
  all_goals (refine b _ _ ?_ ?_) <;> first | (simp only [wu64]; omega) | (simp [Num.top]) | assumption
theorem Iv.make_ok {lo hi : Num} (h1 : lo.ok) (h2 : hi.ok) : (Iv.make lo hi).lo.ok ∧ (Iv.make lo hi).hi.ok := by
  rcases Iv.make_cases h1 h2 with ⟨e, _⟩ | ⟨e, R⟩
  · rw [e]; exact ⟨Num.zero_ok, Num.zero_ok⟩
  · rw [e]; exact ⟨R.loo, R.hio⟩
theorem Iv.corners_ok {F : Num → Num → Bool → Num} {a b : Iv} (h : ∀ x ∈ [a.lo, a.hi], ∀ y ∈ [b.lo, b.hi], ∀ up, (F x y up).ok) : (Iv.corners F a b).lo.ok ∧ (Iv.corners F a b).hi.ok := by
  refine Iv.make_ok (Num.least_spec _ ?_).2.1 (Num.most_spec _ ?_).2.1 <;>
  · intro x hx
    simp only [List.mem_cons, List.not_mem_nil, or_false] at hx
    rcases hx with rfl | rfl | rfl | rfl <;> exact h _ (by simp) _ (by simp) _
theorem Num.mul_ok {a b : Num} (ha : a.ok) (hb : b.ok) (up : Bool) : (Num.mul a b up).ok := by
  unfold Num.mul
  split
  · exact Num.zero_ok
  · split
    · exact Num.inf_ok _
    · have fa := Num.fin_of (n := a) (by omega) (by omega)
      have fb := Num.fin_of (n := b) (by omega) (by omega)
      have oa := Num.fair_ok ha
      have ob := Num.fair_ok hb
      exact (mulF_side ⟨fa.1, fa.2.1, oa.2, fa.2.2.1, fa.2.2.2⟩ ⟨fb.1, fb.2.1, ob.2, fb.2.2.1, fb.2.2.2⟩ up).ok
theorem Num.div_ok {a b : Num} (ha : a.ok) (hb : b.ok) (up : Bool) : (Num.div a b up).ok := by
  unfold Num.div
  split
  · exact Num.inf_ok _
  · split
    · exact Num.zero_ok
    · split
      · exact Num.inf_ok _
      · have fa := Num.fin_of (n := a) (by omega) (by omega)
        have fb := Num.fin_of (n := b) (by omega) (by omega)
        have oa := Num.fair_ok ha
        have ob := Num.fair_ok hb
        exact (divF_side ⟨fa.1, fa.2.1, oa.2, fa.2.2.1, fa.2.2.2⟩ ⟨fb.1, fb.2.1, ob.2, fb.2.2.1, fb.2.2.2⟩ up).ok
theorem Iv.mul_ok {a b : Iv} (h1 : a.lo.ok) (h2 : a.hi.ok) (h3 : b.lo.ok) (h4 : b.hi.ok) : (Iv.mul a b).lo.ok ∧ (Iv.mul a b).hi.ok := by
  unfold Iv.mul
  split
  · exact ⟨Num.zero_ok, Num.zero_ok⟩
  · refine Iv.corners_ok ?_
    intro x hx y hy up
    simp only [List.mem_cons, List.not_mem_nil, or_false] at hx hy
    rcases hx with rfl | rfl <;> rcases hy with rfl | rfl <;> exact Num.mul_ok (by assumption) (by assumption) up

theorem Iv.neg_ok {a : Iv} (h1 : a.lo.ok) (h2 : a.hi.ok) : (Iv.neg a).lo.ok ∧ (Iv.neg a).hi.ok := by
  unfold Iv.neg
  split
  · exact ⟨Num.zero_ok, Num.zero_ok⟩
  · exact Iv.make_ok (Num.opp_ok h2) (Num.opp_ok h1)
theorem Iv.abs_ok {a : Iv} (h1 : a.lo.ok) (h2 : a.hi.ok) : (Iv.abs a).lo.ok ∧ (Iv.abs a).hi.ok := by
  unfold Iv.abs
  repeat' split
  · exact ⟨Num.zero_ok, Num.zero_ok⟩
  · exact ⟨h1, h2⟩
  · exact Iv.neg_ok h1 h2
  · refine Iv.make_ok Num.zero_ok (Num.most_spec _ ?_).2.1
    intro x hx
    simp only [List.mem_cons, List.not_mem_nil, or_false] at hx
    rcases hx with rfl | rfl
    · exact h2
    · exact Num.opp_ok h1
theorem Iv.ofInts_ok (a b : Int) : (Iv.ofInts a b).lo.ok ∧ (Iv.ofInts a b).hi.ok := Iv.make_ok (Num.ofInt_ok a) (Num.ofInt_ok b)

theorem Iv.point_ok {n : Num} (h : n.ok) : (Iv.point n).lo.ok ∧ (Iv.point n).hi.ok := Iv.make_ok h h
theorem Num.div_lo {A B : Num} {up : Bool} (hA : A.ok) (fA : -1048576 ≤ A.e ∧ A.e ≤ 1048576) (fB : -1048576 ≤ B.e ∧ B.e ≤ 1048576) (h : ¬ B.m ≤ A.m) :
    Num.grow (A.neg != B.neg) ((A.m * 18446744073709551616 + 0) / B.m) (IntKind.i64.wrap (IntKind.i64.wrap (A.e - B.e) - 64)) (decide ((A.m * 18446744073709551616 + 0) % B.m ≠ 0)) (up != (A.neg != B.neg)) = Num.divF A B up := by
  unfold Num.divF
  rw [if_neg h, Int.add_zero, show IntKind.i64.wrap (IntKind.i64.wrap (A.e - B.e) - 64) = A.e - B.e - 64 by simp only [wi64]; omega]
theorem Num.div_hi {A B : Num} {up : Bool} (hA : A.ok) (fA : -1048576 ≤ A.e ∧ A.e ≤ 1048576) (fB : -1048576 ≤ B.e ∧ B.e ≤ 1048576) (h : B.m ≤ A.m) :
    Num.grow (A.neg != B.neg) ((A.m / 2 * 18446744073709551616 + IntKind.u64.wrap (A.m * 9223372036854775808)) / B.m) (IntKind.i64.wrap (IntKind.i64.wrap (IntKind.i64.wrap (A.e - B.e) - 64) + 1))
      (decide ((A.m / 2 * 18446744073709551616 + IntKind.u64.wrap (A.m * 9223372036854775808)) % B.m ≠ 0)) (up != (A.neg != B.neg)) = Num.divF A B up := by
  unfold Num.divF
  have := hA.1
  have := hA.2
  rw [if_pos h, show A.m / 2 * 18446744073709551616 + IntKind.u64.wrap (A.m * 9223372036854775808) = A.m * 9223372036854775808 by rw [wu64]; omega,
    show IntKind.i64.wrap (IntKind.i64.wrap (IntKind.i64.wrap (A.e - B.e) - 64) + 1) = A.e - B.e - 63 by simp only [wi64]; omega]
end Go.Proofs.Ytincnfjihffllaa.Ev

/- Contracts: whole numbers as numbers, the quotient. Printed by gen.py out of C9.spec. -/
namespace Go.Proofs.Ytincnfjihffllaa.Ev
open Go Go.Proofs
set_option linter.unusedVariables false
set_option linter.unusedSimpArgs false

theorem c_Of (n : Int) (h0 : -9223372036854775808 ≤ n) (h1 : n < 9223372036854775808) : ∃ t : Num, t = Num.ofInt n ∧ CallsA Try.prog 29 [.int .i64 (.s n)] (t.av) := by
  refine ⟨_, rfl, ?_⟩
  generalize hr : Num.ofInt n = r
  refine callsA_of hG hm Try.func29 (by kernel_rfl) ?_
  intro E hE lp hl
  cbv
  repeat' (first
    | (refine E_br hE (fun h => ?_) (fun h => ?_) <;> cbv)
    | (refine E_nm hE (fun v hv => ?_); cbv)
    | (apply E_callX hE (c_LZ64 _ ?_ ?_); (case hf => rfl); (case hc => (cbv <;> trivial)); (case hle => (repeat' (first | exact u_nil | apply u_cons | apply u2_agg | exact u2_int | exact u1_int | exact u2_bool | exact u1_bool | exact u2_sli | exact u1_sli | exact u2_s0 | exact u1_s0))); all_goals (first | (intro t ht; cbv) | (subst hE; (try simp only [realE, cmp_eql, cmp_neq, cmp_lss, cmp_leq, cmp_gtr, cmp_geq, intBinR, decide_eq_true_eq, decide_eq_false_iff_not, SI.val, SB.val, Num.eta, Iv.eta] at *); (subst_vars; simp only [wu64]; omega))))
    | (apply E_pcallX hE (c_LZ64 _ ?_ ?_); (case hm => rfl); (case hle => (repeat' (first | exact u_nil | apply u_cons | apply u2_agg | exact u2_int | exact u1_int | exact u2_bool | exact u1_bool | exact u2_sli | exact u1_sli | exact u2_s0 | exact u1_s0))); all_goals (first | (intro t ht; cbv) | (subst hE; (try simp only [realE, cmp_eql, cmp_neq, cmp_lss, cmp_leq, cmp_gtr, cmp_geq, intBinR, decide_eq_true_eq, decide_eq_false_iff_not, SI.val, SB.val, Num.eta, Iv.eta] at *); (subst_vars; simp only [wu64]; omega))))
    | fail)
  all_goals (subst hE; subst hr)
  all_goals (try simp only [realE, cmp_eql, cmp_neq, cmp_lss, cmp_leq, cmp_gtr, cmp_geq, intBinR, decide_eq_true_eq, decide_eq_false_iff_not, SI.val, SB.val, Num.eta, Iv.eta] at *)
  all_goals (try subst_vars)
  all_goals (first | rw [wabs_neg h0 ‹n < 0›] at * | rw [wabs_pos (show 0 ≤ n by omega) h1] at *)
  all_goals (try (exfalso; have := blen_le 64 (x := (n.natAbs : Int)) (by omega); omega))
  case refine_2.hK.refine_1 =>
    have e : n = 0 := by omega
    subst e
    exact ⟨rfl, rfl, rfl, rfl, trivial⟩
  all_goals (unfold Num.ofInt; rw [if_neg (by omega)]; exact ⟨rfl, rfl, rfl, rfl, trivial⟩)

theorem c_quDiv (a : Num) (b : Num) (up : Bool) (ha : a.ok) (hb : b.ok) : ∃ t : Num, t = Num.div a b up ∧ CallsA Try.prog 20 [a.av, b.av, .bool (.s up)] (t.av) := by
  refine ⟨_, rfl, ?_⟩
  generalize hr : Num.div a b up = r
  refine callsA_of hG hm Try.func20 (by kernel_rfl) ?_
  intro E hE lp hl
  cbv
  repeat' (first
    | (refine E_br hE (fun h => ?_) (fun h => ?_) <;> cbv)
    | (refine E_nm hE (fun v hv => ?_); cbv)
    | (apply E_callX hE (c_quFair ⟨_, _, _, _⟩); (case hf => rfl); (case hc => (cbv <;> trivial)); (case hle => (repeat' (first | exact u_nil | apply u_cons | apply u2_agg | exact u2_int | exact u1_int | exact u2_bool | exact u1_bool | exact u2_sli | exact u1_sli | exact u2_s0 | exact u1_s0))); intro t ht; cbv)
    | (apply E_pcallX hE (c_quFair ⟨_, _, _, _⟩); (case hm => rfl); (case hle => (repeat' (first | exact u_nil | apply u_cons | apply u2_agg | exact u2_int | exact u1_int | exact u2_bool | exact u1_bool | exact u2_sli | exact u1_sli | exact u2_s0 | exact u1_s0))); intro t ht; cbv)
    | (apply E_callX hE (c_Inf _); (case hf => rfl); (case hc => (cbv <;> trivial)); (case hle => (repeat' (first | exact u_nil | apply u_cons | apply u2_agg | exact u2_int | exact u1_int | exact u2_bool | exact u1_bool | exact u2_sli | exact u1_sli | exact u2_s0 | exact u1_s0))); intro t ht; cbv)
    | (apply E_pcallX hE (c_Inf _); (case hm => rfl); (case hle => (repeat' (first | exact u_nil | apply u_cons | apply u2_agg | exact u2_int | exact u1_int | exact u2_bool | exact u1_bool | exact u2_sli | exact u1_sli | exact u2_s0 | exact u1_s0))); intro t ht; cbv)
    | (apply E_callX hE (c_Div64 _ _ _ ?_ ?_ ?_ ?_ ?_ ?_); (case hf => rfl); (case hc => (cbv <;> trivial)); (case hle => (repeat' (first | exact u_nil | apply u_cons | apply u2_agg | exact u2_int | exact u1_int | exact u2_bool | exact u1_bool | exact u2_sli | exact u1_sli | exact u2_s0 | exact u1_s0))); all_goals (first | (intro t ht; cbv) | (subst hE; (try simp only [realE, cmp_eql, cmp_neq, cmp_lss, cmp_leq, cmp_gtr, cmp_geq, intBinR, decide_eq_true_eq, decide_eq_false_iff_not, SI.val, SB.val, Num.eta, Iv.eta] at *); (subst_vars; have fb := Num.fin_of (n := b) ‹_› ‹_›; have ob := Num.fair_ok hb; have oa := Num.fair_ok ha; have := oa.1; have := oa.2; have := ob.1; have := ob.2; (try simp only [shr1, shl63, wu64] at *); first | omega | exact (show 0 ≤ a.fair.m by omega) | exact (show a.fair.m < b.fair.m by omega) | exact (show a.fair.m / 2 < b.fair.m by omega) | exact (show 9223372036854775808 ≤ b.fair.m by omega) | exact (show b.fair.m < 18446744073709551616 by omega)))))
    | (apply E_pcallX hE (c_Div64 _ _ _ ?_ ?_ ?_ ?_ ?_ ?_); (case hm => rfl); (case hle => (repeat' (first | exact u_nil | apply u_cons | apply u2_agg | exact u2_int | exact u1_int | exact u2_bool | exact u1_bool | exact u2_sli | exact u1_sli | exact u2_s0 | exact u1_s0))); all_goals (first | (intro t ht; cbv) | (subst hE; (try simp only [realE, cmp_eql, cmp_neq, cmp_lss, cmp_leq, cmp_gtr, cmp_geq, intBinR, decide_eq_true_eq, decide_eq_false_iff_not, SI.val, SB.val, Num.eta, Iv.eta] at *); (subst_vars; have fb := Num.fin_of (n := b) ‹_› ‹_›; have ob := Num.fair_ok hb; have oa := Num.fair_ok ha; have := oa.1; have := oa.2; have := ob.1; have := ob.2; (try simp only [shr1, shl63, wu64] at *); first | omega | exact (show 0 ≤ a.fair.m by omega) | exact (show a.fair.m < b.fair.m by omega) | exact (show a.fair.m / 2 < b.fair.m by omega) | exact (show 9223372036854775808 ≤ b.fair.m by omega) | exact (show b.fair.m < 18446744073709551616 by omega)))))
    | (apply E_callX hE (c_Grow _ _ _ _ _); (case hf => rfl); (case hc => (cbv <;> trivial)); (case hle => (repeat' (first | exact u_nil | apply u_cons | apply u2_agg | exact u2_int | exact u1_int | exact u2_bool | exact u1_bool | exact u2_sli | exact u1_sli | exact u2_s0 | exact u1_s0))); intro t ht; cbv)
    | (apply E_pcallX hE (c_Grow _ _ _ _ _); (case hm => rfl); (case hle => (repeat' (first | exact u_nil | apply u_cons | apply u2_agg | exact u2_int | exact u1_int | exact u2_bool | exact u1_bool | exact u2_sli | exact u1_sli | exact u2_s0 | exact u1_s0))); intro t ht; cbv)
    | fail)
  all_goals (subst hE; subst hr)
  all_goals (try simp only [realE, cmp_eql, cmp_neq, cmp_lss, cmp_leq, cmp_gtr, cmp_geq, intBinR, decide_eq_true_eq, decide_eq_false_iff_not, SI.val, SB.val, Num.eta, Iv.eta] at *)
  all_goals (refine Num.fin (t := ⟨_, _, _, _⟩) ?_; subst_vars; unfold Num.div)
  case' hK.hK.refine_1.hK => rw [if_pos ‹_›]
  case' hK.hK.refine_2.refine_1 => rw [if_neg ‹_›, if_pos (.inl ‹_›)]; rfl
  case' hK.hK.refine_2.refine_2.refine_1 => rw [if_neg ‹_›, if_pos (.inr ‹_›)]; rfl
  case' hK.hK.refine_2.refine_2.refine_2.refine_1.hK => rw [if_neg ‹_›, if_neg (by simp_all), if_pos ‹_›]; rfl
  all_goals (rw [if_neg ‹¬ b.fair.kind = 0›, if_neg (by simp_all), if_neg ‹¬ a.fair.kind = 2›])
  all_goals (have fa := Num.fin_of (n := a) ‹_› ‹_›; have fb := Num.fin_of (n := b) ‹_› ‹_›; simp only [shr1, shl63])
  all_goals (first | exact Num.div_lo (Num.fair_ok ha) fa.2.2 fb.2.2 ‹_› | exact Num.div_hi (Num.fair_ok ha) fa.2.2 fb.2.2 ‹_›)

end Go.Proofs.Ytincnfjihffllaa.Ev

/- What the contracts of intervals are told with. -/
namespace Go.Proofs.Ytincnfjihffllaa.Ev
open Go Go.Proofs
set_option linter.unusedVariables false
set_option linter.unusedSimpArgs false
theorem Iv.fin {t r : Iv} (h : t = r) : t.empty = r.empty ∧ t.lo.kind = r.lo.kind ∧ t.lo.neg = r.lo.neg ∧ t.lo.m = r.lo.m ∧ t.lo.e = r.lo.e ∧ t.hi.kind = r.hi.kind ∧ t.hi.neg = r.hi.neg ∧ t.hi.m = r.hi.m ∧ t.hi.e = r.hi.e ∧ True := by
  subst h; exact ⟨rfl, rfl, rfl, rfl, rfl, rfl, rfl, rfl, rfl, trivial⟩
theorem slcO1 {P : Program} {E : Env} (hE : E = realE P) {a z : Iv} {d : List AV} : sle2 (.slc 9 (.l 1) (E.rfun [a.cells] 0 d)) (.slc 9 (.s 1) (fun i => Iv.cells ([a].getD i z))) := by
  subst hE
  refine ⟨rfl, rfl, fun i hi => ?_⟩
  match i, hi with
  | 0, _ => exact iv_cells_self
  | i + 1, hi => exact absurd hi (by simp [SI.val])
theorem slc2 {a b : Num} {z : Num} : sle2 (.slc 4 (.l 2) (fun i => getRow [a.cells, b.cells] (Int.ofNat i))) (.slc 4 (.s 2) (fun i => Num.cells ([a, b].getD i z))) := by
  have r : ∀ {x : Num}, sleL sle0 x.cells x.cells := ⟨⟨rfl, rfl⟩, rfl, ⟨rfl, rfl⟩, ⟨rfl, rfl⟩, trivial⟩
  refine ⟨rfl, rfl, fun i hi => ?_⟩
  match i, hi with
  | 0, _ => exact r
  | 1, _ => exact r
  | i + 2, hi => exact absurd hi (by simp [SI.val])
end Go.Proofs.Ytincnfjihffllaa.Ev

/- Contracts: the quotient of intervals. Printed by gen.py out of C10.spec. -/
namespace Go.Proofs.Ytincnfjihffllaa.Ev
open Go Go.Proofs
set_option linter.unusedVariables false
set_option linter.unusedSimpArgs false

set_option maxHeartbeats 4000000 in
theorem c_opDiv (a : Iv) (b : Iv) (h1 : a.lo.ok) (h2 : a.hi.ok) (h3 : b.lo.ok) (h4 : b.hi.ok) : ∃ t : Iv, t = Iv.div a b ∧ CallsA Try.prog 39 [a.av, b.av] (t.av) := by
  refine ⟨_, rfl, ?_⟩
  generalize hr : Iv.div a b = r
  refine callsA_of hG hm Try.func39 (by kernel_rfl) ?_
  intro E hE lp hl
  cbv
  repeat' (first
    | (apply E_br_t hE; assumption; cbv)
    | (apply E_br_f hE; assumption; cbv)
    | (refine E_br hE (fun h => ?_) (fun h => ?_) <;> cbv)
    | (refine E_nm hE (fun v hv => ?_); cbv)
    | (apply E_callX hE (c_none [a, b] 2 rfl (by decide)); (case hf => rfl); (case hc => (cbv <;> trivial)); (case hle => exact ⟨slcO2 hE, trivial⟩); intro t ht; cbv)
    | (apply E_callX hE (c_corners a b 20 Num.div Num.ok (fun x y up hx hy => c_quDiv x y up hx hy) h1 h2 h3 h4); (case hf => rfl); (case hc => (cbv <;> trivial)); (case hle => (repeat' (first | exact u_nil | apply u_cons | apply u2_agg | exact u2_int | exact u1_int | exact u2_bool | exact u1_bool | exact u2_sli | exact u1_sli | exact u2_s0 | exact u1_s0 | exact u2_fn))); intro t ht; cbv)
    | (apply E_callX hE (c_Sign ⟨_, _, _, _⟩); (case hf => rfl); (case hc => (cbv <;> trivial)); (case hle => (repeat' (first | exact u_nil | apply u_cons | apply u2_agg | exact u2_int | exact u1_int | exact u2_bool | exact u1_bool | exact u2_sli | exact u1_sli | exact u2_s0 | exact u1_s0))); intro t ht; cbv)
    | (apply E_pcallX hE (c_Sign ⟨_, _, _, _⟩); (case hm => rfl); (case hle => (repeat' (first | exact u_nil | apply u_cons | apply u2_agg | exact u2_int | exact u1_int | exact u2_bool | exact u1_bool | exact u2_sli | exact u1_sli | exact u2_s0 | exact u1_s0))); intro t ht; cbv)
    | (apply E_callX hE (c_ivNone ); (case hf => rfl); (case hc => (cbv <;> trivial)); (case hle => (repeat' (first | exact u_nil | apply u_cons | apply u2_agg | exact u2_int | exact u1_int | exact u2_bool | exact u1_bool | exact u2_sli | exact u1_sli | exact u2_s0 | exact u1_s0))); intro t ht; cbv)
    | (apply E_pcallX hE (c_ivNone ); (case hm => rfl); (case hle => (repeat' (first | exact u_nil | apply u_cons | apply u2_agg | exact u2_int | exact u1_int | exact u2_bool | exact u1_bool | exact u2_sli | exact u1_sli | exact u2_s0 | exact u1_s0))); intro t ht; cbv)
    | (apply E_callX hE (c_ivHas ⟨_, ⟨_, _, _, _⟩, ⟨_, _, _, _⟩⟩ ⟨_, _, _, _⟩); (case hf => rfl); (case hc => (cbv <;> trivial)); (case hle => (repeat' (first | exact u_nil | apply u_cons | apply u2_agg | exact u2_int | exact u1_int | exact u2_bool | exact u1_bool | exact u2_sli | exact u1_sli | exact u2_s0 | exact u1_s0))); intro t ht; cbv)
    | (apply E_pcallX hE (c_ivHas ⟨_, ⟨_, _, _, _⟩, ⟨_, _, _, _⟩⟩ ⟨_, _, _, _⟩); (case hm => rfl); (case hle => (repeat' (first | exact u_nil | apply u_cons | apply u2_agg | exact u2_int | exact u1_int | exact u2_bool | exact u1_bool | exact u2_sli | exact u1_sli | exact u2_s0 | exact u1_s0))); intro t ht; cbv)
    | (apply E_callX hE (c_ivAll ); (case hf => rfl); (case hc => (cbv <;> trivial)); (case hle => (repeat' (first | exact u_nil | apply u_cons | apply u2_agg | exact u2_int | exact u1_int | exact u2_bool | exact u1_bool | exact u2_sli | exact u1_sli | exact u2_s0 | exact u1_s0))); intro t ht; cbv)
    | (apply E_pcallX hE (c_ivAll ); (case hm => rfl); (case hle => (repeat' (first | exact u_nil | apply u_cons | apply u2_agg | exact u2_int | exact u1_int | exact u2_bool | exact u1_bool | exact u2_sli | exact u1_sli | exact u2_s0 | exact u1_s0))); intro t ht; cbv)
    | (apply E_callX hE (c_quDiv ⟨_, _, _, _⟩ ⟨_, _, _, _⟩ _ ?_ ?_); (case hf => rfl); (case hc => (cbv <;> trivial)); (case hle => (repeat' (first | exact u_nil | apply u_cons | apply u2_agg | exact u2_int | exact u1_int | exact u2_bool | exact u1_bool | exact u2_sli | exact u1_sli | exact u2_s0 | exact u1_s0))); all_goals (first | (intro t ht; cbv) | (subst hE; (try simp only [realE, cmp_eql, cmp_neq, cmp_lss, cmp_leq, cmp_gtr, cmp_geq, intBinR, decide_eq_true_eq, decide_eq_false_iff_not, SI.val, SB.val, Num.eta, Iv.eta] at *); first | exact h1 | exact h2 | exact h3 | exact h4)))
    | (apply E_pcallX hE (c_quDiv ⟨_, _, _, _⟩ ⟨_, _, _, _⟩ _ ?_ ?_); (case hm => rfl); (case hle => (repeat' (first | exact u_nil | apply u_cons | apply u2_agg | exact u2_int | exact u1_int | exact u2_bool | exact u1_bool | exact u2_sli | exact u1_sli | exact u2_s0 | exact u1_s0))); all_goals (first | (intro t ht; cbv) | (subst hE; (try simp only [realE, cmp_eql, cmp_neq, cmp_lss, cmp_leq, cmp_gtr, cmp_geq, intBinR, decide_eq_true_eq, decide_eq_false_iff_not, SI.val, SB.val, Num.eta, Iv.eta] at *); first | exact h1 | exact h2 | exact h3 | exact h4)))
    | (apply E_callX hE (c_Inf _); (case hf => rfl); (case hc => (cbv <;> trivial)); (case hle => (repeat' (first | exact u_nil | apply u_cons | apply u2_agg | exact u2_int | exact u1_int | exact u2_bool | exact u1_bool | exact u2_sli | exact u1_sli | exact u2_s0 | exact u1_s0))); intro t ht; cbv)
    | (apply E_pcallX hE (c_Inf _); (case hm => rfl); (case hle => (repeat' (first | exact u_nil | apply u_cons | apply u2_agg | exact u2_int | exact u1_int | exact u2_bool | exact u1_bool | exact u2_sli | exact u1_sli | exact u2_s0 | exact u1_s0))); intro t ht; cbv)
    | (apply E_callX hE (c_ivMake ⟨_, _, _, _⟩ ⟨_, _, _, _⟩); (case hf => rfl); (case hc => (cbv <;> trivial)); (case hle => (repeat' (first | exact u_nil | apply u_cons | apply u2_agg | exact u2_int | exact u1_int | exact u2_bool | exact u1_bool | exact u2_sli | exact u1_sli | exact u2_s0 | exact u1_s0))); intro t ht; cbv)
    | (apply E_pcallX hE (c_ivMake ⟨_, _, _, _⟩ ⟨_, _, _, _⟩); (case hm => rfl); (case hle => (repeat' (first | exact u_nil | apply u_cons | apply u2_agg | exact u2_int | exact u1_int | exact u2_bool | exact u1_bool | exact u2_sli | exact u1_sli | exact u2_s0 | exact u1_s0))); intro t ht; cbv)
    | fail)
  all_goals (subst hE; subst hr)
  all_goals (try simp only [realE, cmp_eql, cmp_neq, cmp_lss, cmp_leq, cmp_gtr, cmp_geq, intBinR, decide_eq_true_eq, decide_eq_false_iff_not, SI.val, SB.val, Num.eta, Iv.eta] at *)
  all_goals (try refine Iv.fin (t := ⟨_, ⟨_, _, _, _⟩, ⟨_, _, _, _⟩⟩) ?_)
  all_goals (change t = _; subst_vars; try simp only [show ({ kind := 0, neg := false, m := 0, e := 0 } : Num) = Num.zero from rfl] at *)
  all_goals (try replace hv := hv.symm)
  all_goals first
    | (exfalso; omega)
    | (unfold Iv.div Iv.corners; first
      | rw [if_pos (.inl ‹_›)]
      | rw [if_pos (.inr ⟨by omega, by omega⟩)]
      | (rw [if_neg (by rintro (q | q) <;> first | omega | simp_all)]; first
        | rw [if_pos (show 0 < b.lo.sign ∨ b.hi.sign < 0 by omega)]
        | (rw [if_neg (show ¬ (0 < b.lo.sign ∨ b.hi.sign < 0) by omega)]; first
          | rw [if_pos (.inl ⟨by omega, by omega⟩)]
          | rw [if_pos (.inr ‹_›)]
          | (rw [if_neg (by rintro (q | q) <;> first | omega | simp_all)]; unfold Iv.half
             (first | rw [if_pos (show a.lo.sign < 0 by omega)] | rw [if_neg (show ¬ a.lo.sign < 0 by omega)])
             (first | rw [if_pos (show b.hi.sign = 0 by omega)] | rw [if_neg (show ¬ b.hi.sign = 0 by omega)])
             (first | rw [if_pos (by omega)] | rw [if_neg (by omega)])))))

end Go.Proofs.Ytincnfjihffllaa.Ev

/- Contracts: the opposite of an interval, how far from nought, the square. Printed by gen.py out of C11.spec. -/
namespace Go.Proofs.Ytincnfjihffllaa.Ev
open Go Go.Proofs
set_option linter.unusedVariables false
set_option linter.unusedSimpArgs false

theorem c_opNeg (a : Iv)  : ∃ t : Iv, t = Iv.neg a ∧ CallsA Try.prog 48 [a.av] (t.av) := by
  refine ⟨_, rfl, ?_⟩
  generalize hr : Iv.neg a = r
  refine callsA_of hG hm Try.func48 (by kernel_rfl) ?_
  intro E hE lp hl
  cbv
  repeat' (first
    | (refine E_br hE (fun h => ?_) (fun h => ?_) <;> cbv)
    | (refine E_nm hE (fun v hv => ?_); cbv)
    | (apply E_callX hE (c_none [a] 1 rfl (by decide)); (case hf => rfl); (case hc => (cbv <;> trivial)); (case hle => exact ⟨slcO1 hE, trivial⟩); intro t ht; cbv)
    | (apply E_callX hE (c_Neg ⟨_, _, _, _⟩); (case hf => rfl); (case hc => (cbv <;> trivial)); (case hle => (repeat' (first | exact u_nil | apply u_cons | apply u2_agg | exact u2_int | exact u1_int | exact u2_bool | exact u1_bool | exact u2_sli | exact u1_sli | exact u2_s0 | exact u1_s0))); intro t ht; cbv)
    | (apply E_pcallX hE (c_Neg ⟨_, _, _, _⟩); (case hm => rfl); (case hle => (repeat' (first | exact u_nil | apply u_cons | apply u2_agg | exact u2_int | exact u1_int | exact u2_bool | exact u1_bool | exact u2_sli | exact u1_sli | exact u2_s0 | exact u1_s0))); intro t ht; cbv)
    | (apply E_callX hE (c_ivNone ); (case hf => rfl); (case hc => (cbv <;> trivial)); (case hle => (repeat' (first | exact u_nil | apply u_cons | apply u2_agg | exact u2_int | exact u1_int | exact u2_bool | exact u1_bool | exact u2_sli | exact u1_sli | exact u2_s0 | exact u1_s0))); intro t ht; cbv)
    | (apply E_pcallX hE (c_ivNone ); (case hm => rfl); (case hle => (repeat' (first | exact u_nil | apply u_cons | apply u2_agg | exact u2_int | exact u1_int | exact u2_bool | exact u1_bool | exact u2_sli | exact u1_sli | exact u2_s0 | exact u1_s0))); intro t ht; cbv)
    | (apply E_callX hE (c_ivMake ⟨_, _, _, _⟩ ⟨_, _, _, _⟩); (case hf => rfl); (case hc => (cbv <;> trivial)); (case hle => (repeat' (first | exact u_nil | apply u_cons | apply u2_agg | exact u2_int | exact u1_int | exact u2_bool | exact u1_bool | exact u2_sli | exact u1_sli | exact u2_s0 | exact u1_s0))); intro t ht; cbv)
    | (apply E_pcallX hE (c_ivMake ⟨_, _, _, _⟩ ⟨_, _, _, _⟩); (case hm => rfl); (case hle => (repeat' (first | exact u_nil | apply u_cons | apply u2_agg | exact u2_int | exact u1_int | exact u2_bool | exact u1_bool | exact u2_sli | exact u1_sli | exact u2_s0 | exact u1_s0))); intro t ht; cbv)
    | fail)
  all_goals (subst hE; subst hr)
  all_goals (try simp only [realE, cmp_eql, cmp_neq, cmp_lss, cmp_leq, cmp_gtr, cmp_geq, intBinR, decide_eq_true_eq, decide_eq_false_iff_not, SI.val, SB.val, Num.eta, Iv.eta] at *)
  all_goals (try refine Iv.fin (t := ⟨_, ⟨_, _, _, _⟩, ⟨_, _, _, _⟩⟩) ?_)
  all_goals (subst_vars; unfold Iv.neg; simp_all)

theorem c_opAbs (a : Iv)  : ∃ t : Iv, t = Iv.abs a ∧ CallsA Try.prog 54 [a.av] (t.av) := by
  refine ⟨_, rfl, ?_⟩
  generalize hr : Iv.abs a = r
  refine callsA_of hG hm Try.func54 (by kernel_rfl) ?_
  intro E hE lp hl
  cbv
  repeat' (first
    | (refine E_br hE (fun h => ?_) (fun h => ?_) <;> cbv)
    | (refine E_nm hE (fun v hv => ?_); cbv)
    | (apply E_callX hE (c_none [a] 1 rfl (by decide)); (case hf => rfl); (case hc => (cbv <;> trivial)); (case hle => exact ⟨slcO1 hE, trivial⟩); intro t ht; cbv)
    | (apply E_pcallX hE (c_Most [⟨_, _, _, _⟩, ⟨_, _, _, _⟩] 2 rfl (by decide)); (case hm => rfl); (case hle => exact ⟨slc2, trivial⟩); intro t ht; cbv)
    | (apply E_callX hE (c_Sign ⟨_, _, _, _⟩); (case hf => rfl); (case hc => (cbv <;> trivial)); (case hle => (repeat' (first | exact u_nil | apply u_cons | apply u2_agg | exact u2_int | exact u1_int | exact u2_bool | exact u1_bool | exact u2_sli | exact u1_sli | exact u2_s0 | exact u1_s0))); intro t ht; cbv)
    | (apply E_pcallX hE (c_Sign ⟨_, _, _, _⟩); (case hm => rfl); (case hle => (repeat' (first | exact u_nil | apply u_cons | apply u2_agg | exact u2_int | exact u1_int | exact u2_bool | exact u1_bool | exact u2_sli | exact u1_sli | exact u2_s0 | exact u1_s0))); intro t ht; cbv)
    | (apply E_callX hE (c_Neg ⟨_, _, _, _⟩); (case hf => rfl); (case hc => (cbv <;> trivial)); (case hle => (repeat' (first | exact u_nil | apply u_cons | apply u2_agg | exact u2_int | exact u1_int | exact u2_bool | exact u1_bool | exact u2_sli | exact u1_sli | exact u2_s0 | exact u1_s0))); intro t ht; cbv)
    | (apply E_pcallX hE (c_Neg ⟨_, _, _, _⟩); (case hm => rfl); (case hle => (repeat' (first | exact u_nil | apply u_cons | apply u2_agg | exact u2_int | exact u1_int | exact u2_bool | exact u1_bool | exact u2_sli | exact u1_sli | exact u2_s0 | exact u1_s0))); intro t ht; cbv)
    | (apply E_callX hE (c_ivNone ); (case hf => rfl); (case hc => (cbv <;> trivial)); (case hle => (repeat' (first | exact u_nil | apply u_cons | apply u2_agg | exact u2_int | exact u1_int | exact u2_bool | exact u1_bool | exact u2_sli | exact u1_sli | exact u2_s0 | exact u1_s0))); intro t ht; cbv)
    | (apply E_pcallX hE (c_ivNone ); (case hm => rfl); (case hle => (repeat' (first | exact u_nil | apply u_cons | apply u2_agg | exact u2_int | exact u1_int | exact u2_bool | exact u1_bool | exact u2_sli | exact u1_sli | exact u2_s0 | exact u1_s0))); intro t ht; cbv)
    | (apply E_callX hE (c_opNeg ⟨_, ⟨_, _, _, _⟩, ⟨_, _, _, _⟩⟩); (case hf => rfl); (case hc => (cbv <;> trivial)); (case hle => (repeat' (first | exact u_nil | apply u_cons | apply u2_agg | exact u2_int | exact u1_int | exact u2_bool | exact u1_bool | exact u2_sli | exact u1_sli | exact u2_s0 | exact u1_s0))); intro t ht; cbv)
    | (apply E_pcallX hE (c_opNeg ⟨_, ⟨_, _, _, _⟩, ⟨_, _, _, _⟩⟩); (case hm => rfl); (case hle => (repeat' (first | exact u_nil | apply u_cons | apply u2_agg | exact u2_int | exact u1_int | exact u2_bool | exact u1_bool | exact u2_sli | exact u1_sli | exact u2_s0 | exact u1_s0))); intro t ht; cbv)
    | (apply E_callX hE (c_ivMake ⟨_, _, _, _⟩ ⟨_, _, _, _⟩); (case hf => rfl); (case hc => (cbv <;> trivial)); (case hle => (repeat' (first | exact u_nil | apply u_cons | apply u2_agg | exact u2_int | exact u1_int | exact u2_bool | exact u1_bool | exact u2_sli | exact u1_sli | exact u2_s0 | exact u1_s0))); intro t ht; cbv)
    | (apply E_pcallX hE (c_ivMake ⟨_, _, _, _⟩ ⟨_, _, _, _⟩); (case hm => rfl); (case hle => (repeat' (first | exact u_nil | apply u_cons | apply u2_agg | exact u2_int | exact u1_int | exact u2_bool | exact u1_bool | exact u2_sli | exact u1_sli | exact u2_s0 | exact u1_s0))); intro t ht; cbv)
    | fail)
  all_goals (subst hE; subst hr)
  all_goals (try simp only [realE, cmp_eql, cmp_neq, cmp_lss, cmp_leq, cmp_gtr, cmp_geq, intBinR, decide_eq_true_eq, decide_eq_false_iff_not, SI.val, SB.val, Num.eta, Iv.eta] at *)
  all_goals (try refine Iv.fin (t := ⟨_, ⟨_, _, _, _⟩, ⟨_, _, _, _⟩⟩) ?_)
  all_goals (first | change t = _ | change a = _)
  all_goals (subst_vars; try simp only [show ({ kind := 0, neg := false, m := 0, e := 0 } : Num) = Num.zero from rfl] at *)
  all_goals (unfold Iv.abs; first
    | rw [if_pos ‹_›]
    | (rw [if_neg (by simp_all)]; first | rw [if_pos (by omega)] | (rw [if_neg (by omega)]; first | rw [if_pos (by omega)] | rw [if_neg (by omega)])))

theorem c_opSqr (a : Iv) (h1 : a.lo.ok) (h2 : a.hi.ok) : ∃ t : Iv, t = Iv.sqr a ∧ CallsA Try.prog 52 [a.av] (t.av) := by
  refine ⟨_, rfl, ?_⟩
  generalize hr : Iv.sqr a = r
  refine callsA_of hG hm Try.func52 (by kernel_rfl) ?_
  intro E hE lp hl
  cbv
  repeat' (first
    | (refine E_br hE (fun h => ?_) (fun h => ?_) <;> cbv)
    | (refine E_nm hE (fun v hv => ?_); cbv)
    | (apply E_callX hE (c_opAbs ⟨_, ⟨_, _, _, _⟩, ⟨_, _, _, _⟩⟩); (case hf => rfl); (case hc => (cbv <;> trivial)); (case hle => (repeat' (first | exact u_nil | apply u_cons | apply u2_agg | exact u2_int | exact u1_int | exact u2_bool | exact u1_bool | exact u2_sli | exact u1_sli | exact u2_s0 | exact u1_s0))); intro t ht; cbv)
    | (apply E_pcallX hE (c_opAbs ⟨_, ⟨_, _, _, _⟩, ⟨_, _, _, _⟩⟩); (case hm => rfl); (case hle => (repeat' (first | exact u_nil | apply u_cons | apply u2_agg | exact u2_int | exact u1_int | exact u2_bool | exact u1_bool | exact u2_sli | exact u1_sli | exact u2_s0 | exact u1_s0))); intro t ht; cbv)
    | (apply E_callX hE (c_arMul ⟨_, _, _, _⟩ ⟨_, _, _, _⟩ _ ?_ ?_); (case hf => rfl); (case hc => (cbv <;> trivial)); (case hle => (repeat' (first | exact u_nil | apply u_cons | apply u2_agg | exact u2_int | exact u1_int | exact u2_bool | exact u1_bool | exact u2_sli | exact u1_sli | exact u2_s0 | exact u1_s0))); all_goals (first | (intro t ht; cbv) | (subst hE; (try simp only [realE, cmp_eql, cmp_neq, cmp_lss, cmp_leq, cmp_gtr, cmp_geq, intBinR, decide_eq_true_eq, decide_eq_false_iff_not, SI.val, SB.val, Num.eta, Iv.eta] at *); (subst_vars; first | exact (Iv.abs_ok h1 h2).1 | exact (Iv.abs_ok h1 h2).2))))
    | (apply E_pcallX hE (c_arMul ⟨_, _, _, _⟩ ⟨_, _, _, _⟩ _ ?_ ?_); (case hm => rfl); (case hle => (repeat' (first | exact u_nil | apply u_cons | apply u2_agg | exact u2_int | exact u1_int | exact u2_bool | exact u1_bool | exact u2_sli | exact u1_sli | exact u2_s0 | exact u1_s0))); all_goals (first | (intro t ht; cbv) | (subst hE; (try simp only [realE, cmp_eql, cmp_neq, cmp_lss, cmp_leq, cmp_gtr, cmp_geq, intBinR, decide_eq_true_eq, decide_eq_false_iff_not, SI.val, SB.val, Num.eta, Iv.eta] at *); (subst_vars; first | exact (Iv.abs_ok h1 h2).1 | exact (Iv.abs_ok h1 h2).2))))
    | (apply E_callX hE (c_ivMake ⟨_, _, _, _⟩ ⟨_, _, _, _⟩); (case hf => rfl); (case hc => (cbv <;> trivial)); (case hle => (repeat' (first | exact u_nil | apply u_cons | apply u2_agg | exact u2_int | exact u1_int | exact u2_bool | exact u1_bool | exact u2_sli | exact u1_sli | exact u2_s0 | exact u1_s0))); intro t ht; cbv)
    | (apply E_pcallX hE (c_ivMake ⟨_, _, _, _⟩ ⟨_, _, _, _⟩); (case hm => rfl); (case hle => (repeat' (first | exact u_nil | apply u_cons | apply u2_agg | exact u2_int | exact u1_int | exact u2_bool | exact u1_bool | exact u2_sli | exact u1_sli | exact u2_s0 | exact u1_s0))); intro t ht; cbv)
    | fail)
  all_goals (subst hE; subst hr)
  all_goals (try simp only [realE, cmp_eql, cmp_neq, cmp_lss, cmp_leq, cmp_gtr, cmp_geq, intBinR, decide_eq_true_eq, decide_eq_false_iff_not, SI.val, SB.val, Num.eta, Iv.eta] at *)
  all_goals (try refine Iv.fin (t := ⟨_, ⟨_, _, _, _⟩, ⟨_, _, _, _⟩⟩) ?_)
  all_goals (change t = _; subst_vars; unfold Iv.sqr; simp_all)

theorem c_ivOf (a : Int) (b : Int) (h0 : -9223372036854775808 ≤ a) (h1 : a < 9223372036854775808) (h2 : -9223372036854775808 ≤ b) (h3 : b < 9223372036854775808) : ∃ t : Iv, t = Iv.ofInts a b ∧ CallsA Try.prog 103 [.int .i64 (.s a), .int .i64 (.s b)] (t.av) := by
  refine ⟨_, rfl, ?_⟩
  generalize hr : Iv.ofInts a b = r
  refine callsA_of hG hm Try.func103 (by kernel_rfl) ?_
  intro E hE lp hl
  cbv
  repeat' (first
    | (refine E_br hE (fun h => ?_) (fun h => ?_) <;> cbv)
    | (refine E_nm hE (fun v hv => ?_); cbv)
    | (apply E_callX hE (c_Of _ ?_ ?_); (case hf => rfl); (case hc => (cbv <;> trivial)); (case hle => (repeat' (first | exact u_nil | apply u_cons | apply u2_agg | exact u2_int | exact u1_int | exact u2_bool | exact u1_bool | exact u2_sli | exact u1_sli | exact u2_s0 | exact u1_s0))); all_goals (first | (intro t ht; cbv) | (subst hE; (try simp only [realE, cmp_eql, cmp_neq, cmp_lss, cmp_leq, cmp_gtr, cmp_geq, intBinR, decide_eq_true_eq, decide_eq_false_iff_not, SI.val, SB.val, Num.eta, Iv.eta] at *); first | assumption | omega)))
    | (apply E_pcallX hE (c_Of _ ?_ ?_); (case hm => rfl); (case hle => (repeat' (first | exact u_nil | apply u_cons | apply u2_agg | exact u2_int | exact u1_int | exact u2_bool | exact u1_bool | exact u2_sli | exact u1_sli | exact u2_s0 | exact u1_s0))); all_goals (first | (intro t ht; cbv) | (subst hE; (try simp only [realE, cmp_eql, cmp_neq, cmp_lss, cmp_leq, cmp_gtr, cmp_geq, intBinR, decide_eq_true_eq, decide_eq_false_iff_not, SI.val, SB.val, Num.eta, Iv.eta] at *); first | assumption | omega)))
    | (apply E_callX hE (c_ivMake ⟨_, _, _, _⟩ ⟨_, _, _, _⟩); (case hf => rfl); (case hc => (cbv <;> trivial)); (case hle => (repeat' (first | exact u_nil | apply u_cons | apply u2_agg | exact u2_int | exact u1_int | exact u2_bool | exact u1_bool | exact u2_sli | exact u1_sli | exact u2_s0 | exact u1_s0))); intro t ht; cbv)
    | (apply E_pcallX hE (c_ivMake ⟨_, _, _, _⟩ ⟨_, _, _, _⟩); (case hm => rfl); (case hle => (repeat' (first | exact u_nil | apply u_cons | apply u2_agg | exact u2_int | exact u1_int | exact u2_bool | exact u1_bool | exact u2_sli | exact u1_sli | exact u2_s0 | exact u1_s0))); intro t ht; cbv)
    | fail)
  all_goals (subst hE; subst hr)
  all_goals (try simp only [realE, cmp_eql, cmp_neq, cmp_lss, cmp_leq, cmp_gtr, cmp_geq, intBinR, decide_eq_true_eq, decide_eq_false_iff_not, SI.val, SB.val, Num.eta, Iv.eta] at *)
  all_goals (try refine Iv.fin (t := ⟨_, ⟨_, _, _, _⟩, ⟨_, _, _, _⟩⟩) ?_)
  all_goals (subst_vars; rfl)

end Go.Proofs.Ytincnfjihffllaa.Ev

/- Contracts: the chapter's examples; the law of quotients. Printed by gen.py out of C12.spec. -/
namespace Go.Proofs.Ytincnfjihffllaa.Ev
open Go Go.Proofs
set_option linter.unusedVariables false
set_option linter.unusedSimpArgs false

set_option maxHeartbeats 4000000 in
theorem c_awake   : ∃ t : Bool, t = true ∧ CallsA Try.prog 36 [] (.bool (.s t)) := by
  refine ⟨_, rfl, ?_⟩
  generalize hr : true = r
  refine callsA_of hG hm Try.func36 (by kernel_rfl) ?_
  intro E hE lp hl
  cbv
  repeat' (first
    | (apply E_br_t hE; assumption; cbv)
    | (apply E_br_f hE; assumption; cbv)
    | (refine E_br hE (fun h => ?_) (fun h => ?_) <;> cbv)
    | (refine E_nm hE (fun v hv => ?_); cbv)
    | (apply E_callX hE (c_ivOf _ _ ?_ ?_ ?_ ?_); (case hf => rfl); (case hc => (cbv <;> trivial)); (case hle => (repeat' (first | exact u_nil | apply u_cons | apply u2_agg | exact u2_int | exact u1_int | exact u2_bool | exact u1_bool | exact u2_sli | exact u1_sli | exact u2_s0 | exact u1_s0))); all_goals (first | (intro t ht; cbv) | (subst hE; (try simp only [realE, cmp_eql, cmp_neq, cmp_lss, cmp_leq, cmp_gtr, cmp_geq, intBinR, decide_eq_true_eq, decide_eq_false_iff_not, SI.val, SB.val, Num.eta, Iv.eta] at *); (subst_vars; first | exact (Iv.ofInts_ok (-1) 2).1 | exact (Iv.ofInts_ok (-1) 2).2 | exact (Iv.ofInts_ok (3) 4).1 | exact (Iv.ofInts_ok (3) 4).2 | exact (Iv.ofInts_ok (1) 2).1 | exact (Iv.ofInts_ok (1) 2).2 | exact (Iv.ofInts_ok (0) 4).1 | exact (Iv.ofInts_ok (0) 4).2 | decide))))
    | (apply E_pcallX hE (c_ivOf _ _ ?_ ?_ ?_ ?_); (case hm => rfl); (case hle => (repeat' (first | exact u_nil | apply u_cons | apply u2_agg | exact u2_int | exact u1_int | exact u2_bool | exact u1_bool | exact u2_sli | exact u1_sli | exact u2_s0 | exact u1_s0))); all_goals (first | (intro t ht; cbv) | (subst hE; (try simp only [realE, cmp_eql, cmp_neq, cmp_lss, cmp_leq, cmp_gtr, cmp_geq, intBinR, decide_eq_true_eq, decide_eq_false_iff_not, SI.val, SB.val, Num.eta, Iv.eta] at *); (subst_vars; first | exact (Iv.ofInts_ok (-1) 2).1 | exact (Iv.ofInts_ok (-1) 2).2 | exact (Iv.ofInts_ok (3) 4).1 | exact (Iv.ofInts_ok (3) 4).2 | exact (Iv.ofInts_ok (1) 2).1 | exact (Iv.ofInts_ok (1) 2).2 | exact (Iv.ofInts_ok (0) 4).1 | exact (Iv.ofInts_ok (0) 4).2 | decide))))
    | (apply E_callX hE (c_opMul ⟨_, ⟨_, _, _, _⟩, ⟨_, _, _, _⟩⟩ ⟨_, ⟨_, _, _, _⟩, ⟨_, _, _, _⟩⟩ ?_ ?_ ?_ ?_); (case hf => rfl); (case hc => (cbv <;> trivial)); (case hle => (repeat' (first | exact u_nil | apply u_cons | apply u2_agg | exact u2_int | exact u1_int | exact u2_bool | exact u1_bool | exact u2_sli | exact u1_sli | exact u2_s0 | exact u1_s0))); all_goals (first | (intro t ht; cbv) | (subst hE; (try simp only [realE, cmp_eql, cmp_neq, cmp_lss, cmp_leq, cmp_gtr, cmp_geq, intBinR, decide_eq_true_eq, decide_eq_false_iff_not, SI.val, SB.val, Num.eta, Iv.eta] at *); (subst_vars; first | exact (Iv.ofInts_ok (-1) 2).1 | exact (Iv.ofInts_ok (-1) 2).2 | exact (Iv.ofInts_ok (3) 4).1 | exact (Iv.ofInts_ok (3) 4).2 | exact (Iv.ofInts_ok (1) 2).1 | exact (Iv.ofInts_ok (1) 2).2 | exact (Iv.ofInts_ok (0) 4).1 | exact (Iv.ofInts_ok (0) 4).2 | decide))))
    | (apply E_pcallX hE (c_opMul ⟨_, ⟨_, _, _, _⟩, ⟨_, _, _, _⟩⟩ ⟨_, ⟨_, _, _, _⟩, ⟨_, _, _, _⟩⟩ ?_ ?_ ?_ ?_); (case hm => rfl); (case hle => (repeat' (first | exact u_nil | apply u_cons | apply u2_agg | exact u2_int | exact u1_int | exact u2_bool | exact u1_bool | exact u2_sli | exact u1_sli | exact u2_s0 | exact u1_s0))); all_goals (first | (intro t ht; cbv) | (subst hE; (try simp only [realE, cmp_eql, cmp_neq, cmp_lss, cmp_leq, cmp_gtr, cmp_geq, intBinR, decide_eq_true_eq, decide_eq_false_iff_not, SI.val, SB.val, Num.eta, Iv.eta] at *); (subst_vars; first | exact (Iv.ofInts_ok (-1) 2).1 | exact (Iv.ofInts_ok (-1) 2).2 | exact (Iv.ofInts_ok (3) 4).1 | exact (Iv.ofInts_ok (3) 4).2 | exact (Iv.ofInts_ok (1) 2).1 | exact (Iv.ofInts_ok (1) 2).2 | exact (Iv.ofInts_ok (0) 4).1 | exact (Iv.ofInts_ok (0) 4).2 | decide))))
    | (apply E_callX hE (c_opDiv ⟨_, ⟨_, _, _, _⟩, ⟨_, _, _, _⟩⟩ ⟨_, ⟨_, _, _, _⟩, ⟨_, _, _, _⟩⟩ ?_ ?_ ?_ ?_); (case hf => rfl); (case hc => (cbv <;> trivial)); (case hle => (repeat' (first | exact u_nil | apply u_cons | apply u2_agg | exact u2_int | exact u1_int | exact u2_bool | exact u1_bool | exact u2_sli | exact u1_sli | exact u2_s0 | exact u1_s0))); all_goals (first | (intro t ht; cbv) | (subst hE; (try simp only [realE, cmp_eql, cmp_neq, cmp_lss, cmp_leq, cmp_gtr, cmp_geq, intBinR, decide_eq_true_eq, decide_eq_false_iff_not, SI.val, SB.val, Num.eta, Iv.eta] at *); (subst_vars; first | exact (Iv.ofInts_ok (-1) 2).1 | exact (Iv.ofInts_ok (-1) 2).2 | exact (Iv.ofInts_ok (3) 4).1 | exact (Iv.ofInts_ok (3) 4).2 | exact (Iv.ofInts_ok (1) 2).1 | exact (Iv.ofInts_ok (1) 2).2 | exact (Iv.ofInts_ok (0) 4).1 | exact (Iv.ofInts_ok (0) 4).2 | decide))))
    | (apply E_pcallX hE (c_opDiv ⟨_, ⟨_, _, _, _⟩, ⟨_, _, _, _⟩⟩ ⟨_, ⟨_, _, _, _⟩, ⟨_, _, _, _⟩⟩ ?_ ?_ ?_ ?_); (case hm => rfl); (case hle => (repeat' (first | exact u_nil | apply u_cons | apply u2_agg | exact u2_int | exact u1_int | exact u2_bool | exact u1_bool | exact u2_sli | exact u1_sli | exact u2_s0 | exact u1_s0))); all_goals (first | (intro t ht; cbv) | (subst hE; (try simp only [realE, cmp_eql, cmp_neq, cmp_lss, cmp_leq, cmp_gtr, cmp_geq, intBinR, decide_eq_true_eq, decide_eq_false_iff_not, SI.val, SB.val, Num.eta, Iv.eta] at *); (subst_vars; first | exact (Iv.ofInts_ok (-1) 2).1 | exact (Iv.ofInts_ok (-1) 2).2 | exact (Iv.ofInts_ok (3) 4).1 | exact (Iv.ofInts_ok (3) 4).2 | exact (Iv.ofInts_ok (1) 2).1 | exact (Iv.ofInts_ok (1) 2).2 | exact (Iv.ofInts_ok (0) 4).1 | exact (Iv.ofInts_ok (0) 4).2 | decide))))
    | (apply E_callX hE (c_Inf _); (case hf => rfl); (case hc => (cbv <;> trivial)); (case hle => (repeat' (first | exact u_nil | apply u_cons | apply u2_agg | exact u2_int | exact u1_int | exact u2_bool | exact u1_bool | exact u2_sli | exact u1_sli | exact u2_s0 | exact u1_s0))); intro t ht; cbv)
    | (apply E_pcallX hE (c_Inf _); (case hm => rfl); (case hle => (repeat' (first | exact u_nil | apply u_cons | apply u2_agg | exact u2_int | exact u1_int | exact u2_bool | exact u1_bool | exact u2_sli | exact u1_sli | exact u2_s0 | exact u1_s0))); intro t ht; cbv)
    | (apply E_callX hE (c_Cmp ⟨_, _, _, _⟩ ⟨_, _, _, _⟩); (case hf => rfl); (case hc => (cbv <;> trivial)); (case hle => (repeat' (first | exact u_nil | apply u_cons | apply u2_agg | exact u2_int | exact u1_int | exact u2_bool | exact u1_bool | exact u2_sli | exact u1_sli | exact u2_s0 | exact u1_s0))); intro t ht; cbv)
    | (apply E_pcallX hE (c_Cmp ⟨_, _, _, _⟩ ⟨_, _, _, _⟩); (case hm => rfl); (case hle => (repeat' (first | exact u_nil | apply u_cons | apply u2_agg | exact u2_int | exact u1_int | exact u2_bool | exact u1_bool | exact u2_sli | exact u1_sli | exact u2_s0 | exact u1_s0))); intro t ht; cbv)
    | (apply E_callX hE (c_Of _ ?_ ?_); (case hf => rfl); (case hc => (cbv <;> trivial)); (case hle => (repeat' (first | exact u_nil | apply u_cons | apply u2_agg | exact u2_int | exact u1_int | exact u2_bool | exact u1_bool | exact u2_sli | exact u1_sli | exact u2_s0 | exact u1_s0))); all_goals (first | (intro t ht; cbv) | (subst hE; (try simp only [realE, cmp_eql, cmp_neq, cmp_lss, cmp_leq, cmp_gtr, cmp_geq, intBinR, decide_eq_true_eq, decide_eq_false_iff_not, SI.val, SB.val, Num.eta, Iv.eta] at *); (subst_vars; first | exact (Iv.ofInts_ok (-1) 2).1 | exact (Iv.ofInts_ok (-1) 2).2 | exact (Iv.ofInts_ok (3) 4).1 | exact (Iv.ofInts_ok (3) 4).2 | exact (Iv.ofInts_ok (1) 2).1 | exact (Iv.ofInts_ok (1) 2).2 | exact (Iv.ofInts_ok (0) 4).1 | exact (Iv.ofInts_ok (0) 4).2 | decide))))
    | (apply E_pcallX hE (c_Of _ ?_ ?_); (case hm => rfl); (case hle => (repeat' (first | exact u_nil | apply u_cons | apply u2_agg | exact u2_int | exact u1_int | exact u2_bool | exact u1_bool | exact u2_sli | exact u1_sli | exact u2_s0 | exact u1_s0))); all_goals (first | (intro t ht; cbv) | (subst hE; (try simp only [realE, cmp_eql, cmp_neq, cmp_lss, cmp_leq, cmp_gtr, cmp_geq, intBinR, decide_eq_true_eq, decide_eq_false_iff_not, SI.val, SB.val, Num.eta, Iv.eta] at *); (subst_vars; first | exact (Iv.ofInts_ok (-1) 2).1 | exact (Iv.ofInts_ok (-1) 2).2 | exact (Iv.ofInts_ok (3) 4).1 | exact (Iv.ofInts_ok (3) 4).2 | exact (Iv.ofInts_ok (1) 2).1 | exact (Iv.ofInts_ok (1) 2).2 | exact (Iv.ofInts_ok (0) 4).1 | exact (Iv.ofInts_ok (0) 4).2 | decide))))
    | (apply E_callX hE (c_opSqr ⟨_, ⟨_, _, _, _⟩, ⟨_, _, _, _⟩⟩ ?_ ?_); (case hf => rfl); (case hc => (cbv <;> trivial)); (case hle => (repeat' (first | exact u_nil | apply u_cons | apply u2_agg | exact u2_int | exact u1_int | exact u2_bool | exact u1_bool | exact u2_sli | exact u1_sli | exact u2_s0 | exact u1_s0))); all_goals (first | (intro t ht; cbv) | (subst hE; (try simp only [realE, cmp_eql, cmp_neq, cmp_lss, cmp_leq, cmp_gtr, cmp_geq, intBinR, decide_eq_true_eq, decide_eq_false_iff_not, SI.val, SB.val, Num.eta, Iv.eta] at *); (subst_vars; first | exact (Iv.ofInts_ok (-1) 2).1 | exact (Iv.ofInts_ok (-1) 2).2 | exact (Iv.ofInts_ok (3) 4).1 | exact (Iv.ofInts_ok (3) 4).2 | exact (Iv.ofInts_ok (1) 2).1 | exact (Iv.ofInts_ok (1) 2).2 | exact (Iv.ofInts_ok (0) 4).1 | exact (Iv.ofInts_ok (0) 4).2 | decide))))
    | (apply E_pcallX hE (c_opSqr ⟨_, ⟨_, _, _, _⟩, ⟨_, _, _, _⟩⟩ ?_ ?_); (case hm => rfl); (case hle => (repeat' (first | exact u_nil | apply u_cons | apply u2_agg | exact u2_int | exact u1_int | exact u2_bool | exact u1_bool | exact u2_sli | exact u1_sli | exact u2_s0 | exact u1_s0))); all_goals (first | (intro t ht; cbv) | (subst hE; (try simp only [realE, cmp_eql, cmp_neq, cmp_lss, cmp_leq, cmp_gtr, cmp_geq, intBinR, decide_eq_true_eq, decide_eq_false_iff_not, SI.val, SB.val, Num.eta, Iv.eta] at *); (subst_vars; first | exact (Iv.ofInts_ok (-1) 2).1 | exact (Iv.ofInts_ok (-1) 2).2 | exact (Iv.ofInts_ok (3) 4).1 | exact (Iv.ofInts_ok (3) 4).2 | exact (Iv.ofInts_ok (1) 2).1 | exact (Iv.ofInts_ok (1) 2).2 | exact (Iv.ofInts_ok (0) 4).1 | exact (Iv.ofInts_ok (0) 4).2 | decide))))
    | fail)
  all_goals (subst hE; subst hr)
  all_goals (try simp only [realE, cmp_eql, cmp_neq, cmp_lss, cmp_leq, cmp_gtr, cmp_geq, intBinR, decide_eq_true_eq, decide_eq_false_iff_not, SI.val, SB.val, Num.eta, Iv.eta] at *)
  all_goals (subst_vars; try simp only [aw1, aw3, aw5] at *)
  all_goals (simp_all [aw2, aw4, aw6, Num.inf])

set_option maxHeartbeats 4000000 in
theorem c_Quotients (b : Iv) (y : Num) (z : Num) (h1 : b.lo.ok) (h2 : b.hi.ok) (h3 : y.ok) (h4 : z.ok) : ∃ t : Bool, t = true ∧ CallsA Try.prog 10 [b.av, y.av, z.av] (.bool (.s t)) := by
  refine ⟨_, rfl, ?_⟩
  generalize hr : true = r
  refine callsA_of hG hm Try.func10 (by kernel_rfl) ?_
  intro E hE lp hl
  cbv
  repeat' (first
    | (apply E_br_t hE; assumption; cbv)
    | (apply E_br_f hE; assumption; cbv)
    | (refine E_br hE (fun h => ?_) (fun h => ?_) <;> cbv)
    | (refine E_nm hE (fun v hv => ?_); cbv)
    | (apply E_callX hE (c_awake ); (case hf => rfl); (case hc => (cbv <;> trivial)); (case hle => (repeat' (first | exact u_nil | apply u_cons | apply u2_agg | exact u2_int | exact u1_int | exact u2_bool | exact u1_bool | exact u2_sli | exact u1_sli | exact u2_s0 | exact u1_s0))); intro t ht; cbv)
    | (apply E_pcallX hE (c_awake ); (case hm => rfl); (case hle => (repeat' (first | exact u_nil | apply u_cons | apply u2_agg | exact u2_int | exact u1_int | exact u2_bool | exact u1_bool | exact u2_sli | exact u1_sli | exact u2_s0 | exact u1_s0))); intro t ht; cbv)
    | (apply E_callX hE (c_ivHas ⟨_, ⟨_, _, _, _⟩, ⟨_, _, _, _⟩⟩ ⟨_, _, _, _⟩); (case hf => rfl); (case hc => (cbv <;> trivial)); (case hle => (repeat' (first | exact u_nil | apply u_cons | apply u2_agg | exact u2_int | exact u1_int | exact u2_bool | exact u1_bool | exact u2_sli | exact u1_sli | exact u2_s0 | exact u1_s0))); intro t ht; cbv)
    | (apply E_pcallX hE (c_ivHas ⟨_, ⟨_, _, _, _⟩, ⟨_, _, _, _⟩⟩ ⟨_, _, _, _⟩); (case hm => rfl); (case hle => (repeat' (first | exact u_nil | apply u_cons | apply u2_agg | exact u2_int | exact u1_int | exact u2_bool | exact u1_bool | exact u2_sli | exact u1_sli | exact u2_s0 | exact u1_s0))); intro t ht; cbv)
    | (apply E_callX hE (c_Sign ⟨_, _, _, _⟩); (case hf => rfl); (case hc => (cbv <;> trivial)); (case hle => (repeat' (first | exact u_nil | apply u_cons | apply u2_agg | exact u2_int | exact u1_int | exact u2_bool | exact u1_bool | exact u2_sli | exact u1_sli | exact u2_s0 | exact u1_s0))); intro t ht; cbv)
    | (apply E_pcallX hE (c_Sign ⟨_, _, _, _⟩); (case hm => rfl); (case hle => (repeat' (first | exact u_nil | apply u_cons | apply u2_agg | exact u2_int | exact u1_int | exact u2_bool | exact u1_bool | exact u2_sli | exact u1_sli | exact u2_s0 | exact u1_s0))); intro t ht; cbv)
    | (apply E_callX hE (c_May ⟨_, _, _, _⟩); (case hf => rfl); (case hc => (cbv <;> trivial)); (case hle => (repeat' (first | exact u_nil | apply u_cons | apply u2_agg | exact u2_int | exact u1_int | exact u2_bool | exact u1_bool | exact u2_sli | exact u1_sli | exact u2_s0 | exact u1_s0))); intro t ht; cbv)
    | (apply E_pcallX hE (c_May ⟨_, _, _, _⟩); (case hm => rfl); (case hle => (repeat' (first | exact u_nil | apply u_cons | apply u2_agg | exact u2_int | exact u1_int | exact u2_bool | exact u1_bool | exact u2_sli | exact u1_sli | exact u2_s0 | exact u1_s0))); intro t ht; cbv)
    | (apply E_callX hE (c_ivPoint ⟨_, _, _, _⟩); (case hf => rfl); (case hc => (cbv <;> trivial)); (case hle => (repeat' (first | exact u_nil | apply u_cons | apply u2_agg | exact u2_int | exact u1_int | exact u2_bool | exact u1_bool | exact u2_sli | exact u1_sli | exact u2_s0 | exact u1_s0))); intro t ht; cbv)
    | (apply E_pcallX hE (c_ivPoint ⟨_, _, _, _⟩); (case hm => rfl); (case hle => (repeat' (first | exact u_nil | apply u_cons | apply u2_agg | exact u2_int | exact u1_int | exact u2_bool | exact u1_bool | exact u2_sli | exact u1_sli | exact u2_s0 | exact u1_s0))); intro t ht; cbv)
    | (apply E_callX hE (c_opMul ⟨_, ⟨_, _, _, _⟩, ⟨_, _, _, _⟩⟩ ⟨_, ⟨_, _, _, _⟩, ⟨_, _, _, _⟩⟩ ?_ ?_ ?_ ?_); (case hf => rfl); (case hc => (cbv <;> trivial)); (case hle => (repeat' (first | exact u_nil | apply u_cons | apply u2_agg | exact u2_int | exact u1_int | exact u2_bool | exact u1_bool | exact u2_sli | exact u1_sli | exact u2_s0 | exact u1_s0))); all_goals (first | (intro t ht; cbv) | (subst hE; (try simp only [realE, cmp_eql, cmp_neq, cmp_lss, cmp_leq, cmp_gtr, cmp_geq, intBinR, decide_eq_true_eq, decide_eq_false_iff_not, SI.val, SB.val, Num.eta, Iv.eta] at *); (subst_vars; first | exact h1 | exact h2 | exact (Iv.point_ok h3).1 | exact (Iv.point_ok h3).2 | exact (Iv.point_ok h4).1 | exact (Iv.point_ok h4).2 | exact (Iv.mul_ok (Iv.point_ok h3).1 (Iv.point_ok h3).2 (Iv.point_ok h4).1 (Iv.point_ok h4).2).1 | exact (Iv.mul_ok (Iv.point_ok h3).1 (Iv.point_ok h3).2 (Iv.point_ok h4).1 (Iv.point_ok h4).2).2))))
    | (apply E_pcallX hE (c_opMul ⟨_, ⟨_, _, _, _⟩, ⟨_, _, _, _⟩⟩ ⟨_, ⟨_, _, _, _⟩, ⟨_, _, _, _⟩⟩ ?_ ?_ ?_ ?_); (case hm => rfl); (case hle => (repeat' (first | exact u_nil | apply u_cons | apply u2_agg | exact u2_int | exact u1_int | exact u2_bool | exact u1_bool | exact u2_sli | exact u1_sli | exact u2_s0 | exact u1_s0))); all_goals (first | (intro t ht; cbv) | (subst hE; (try simp only [realE, cmp_eql, cmp_neq, cmp_lss, cmp_leq, cmp_gtr, cmp_geq, intBinR, decide_eq_true_eq, decide_eq_false_iff_not, SI.val, SB.val, Num.eta, Iv.eta] at *); (subst_vars; first | exact h1 | exact h2 | exact (Iv.point_ok h3).1 | exact (Iv.point_ok h3).2 | exact (Iv.point_ok h4).1 | exact (Iv.point_ok h4).2 | exact (Iv.mul_ok (Iv.point_ok h3).1 (Iv.point_ok h3).2 (Iv.point_ok h4).1 (Iv.point_ok h4).2).1 | exact (Iv.mul_ok (Iv.point_ok h3).1 (Iv.point_ok h3).2 (Iv.point_ok h4).1 (Iv.point_ok h4).2).2))))
    | (apply E_callX hE (c_opDiv ⟨_, ⟨_, _, _, _⟩, ⟨_, _, _, _⟩⟩ ⟨_, ⟨_, _, _, _⟩, ⟨_, _, _, _⟩⟩ ?_ ?_ ?_ ?_); (case hf => rfl); (case hc => (cbv <;> trivial)); (case hle => (repeat' (first | exact u_nil | apply u_cons | apply u2_agg | exact u2_int | exact u1_int | exact u2_bool | exact u1_bool | exact u2_sli | exact u1_sli | exact u2_s0 | exact u1_s0))); all_goals (first | (intro t ht; cbv) | (subst hE; (try simp only [realE, cmp_eql, cmp_neq, cmp_lss, cmp_leq, cmp_gtr, cmp_geq, intBinR, decide_eq_true_eq, decide_eq_false_iff_not, SI.val, SB.val, Num.eta, Iv.eta] at *); (subst_vars; first | exact h1 | exact h2 | exact (Iv.point_ok h3).1 | exact (Iv.point_ok h3).2 | exact (Iv.point_ok h4).1 | exact (Iv.point_ok h4).2 | exact (Iv.mul_ok (Iv.point_ok h3).1 (Iv.point_ok h3).2 (Iv.point_ok h4).1 (Iv.point_ok h4).2).1 | exact (Iv.mul_ok (Iv.point_ok h3).1 (Iv.point_ok h3).2 (Iv.point_ok h4).1 (Iv.point_ok h4).2).2))))
    | (apply E_pcallX hE (c_opDiv ⟨_, ⟨_, _, _, _⟩, ⟨_, _, _, _⟩⟩ ⟨_, ⟨_, _, _, _⟩, ⟨_, _, _, _⟩⟩ ?_ ?_ ?_ ?_); (case hm => rfl); (case hle => (repeat' (first | exact u_nil | apply u_cons | apply u2_agg | exact u2_int | exact u1_int | exact u2_bool | exact u1_bool | exact u2_sli | exact u1_sli | exact u2_s0 | exact u1_s0))); all_goals (first | (intro t ht; cbv) | (subst hE; (try simp only [realE, cmp_eql, cmp_neq, cmp_lss, cmp_leq, cmp_gtr, cmp_geq, intBinR, decide_eq_true_eq, decide_eq_false_iff_not, SI.val, SB.val, Num.eta, Iv.eta] at *); (subst_vars; first | exact h1 | exact h2 | exact (Iv.point_ok h3).1 | exact (Iv.point_ok h3).2 | exact (Iv.point_ok h4).1 | exact (Iv.point_ok h4).2 | exact (Iv.mul_ok (Iv.point_ok h3).1 (Iv.point_ok h3).2 (Iv.point_ok h4).1 (Iv.point_ok h4).2).1 | exact (Iv.mul_ok (Iv.point_ok h3).1 (Iv.point_ok h3).2 (Iv.point_ok h4).1 (Iv.point_ok h4).2).2))))
    | fail)
  all_goals (subst hE; subst hr)
  all_goals (try simp only [realE, cmp_eql, cmp_neq, cmp_lss, cmp_leq, cmp_gtr, cmp_geq, intBinR, decide_eq_true_eq, decide_eq_false_iff_not, SI.val, SB.val, Num.eta, Iv.eta] at *)
  all_goals first
    | (subst_vars; exact quotients h3 h4 h1 h2 (by simpa using ‹(!Iv.has b y) = false›) ‹_› ‹_› (by simpa using ‹(!Num.may z) = false›))
    | (simp_all; done)

end Go.Proofs.Ytincnfjihffllaa.Ev

/- Sums and differences of two numbers, the parts: plain Lean. -/
namespace Go.Proofs.Ytincnfjihffllaa.Ev
open Go

structure Dbl where
  hi : Int
  lo : Int
  cut : Bool
def Dbl.av (d : Dbl) : AV := .agg [.int .u64 (.s d.hi), .int .u64 (.s d.lo), .bool (.s d.cut)]
theorem Dbl.fin {t r : Dbl} (h : t = r) : t.hi = r.hi ∧ t.lo = r.lo ∧ t.cut = r.cut ∧ True := by subst h; exact ⟨rfl, rfl, rfl, trivial⟩

/-- 64 bits moved down by some: 128 bits, and was something cut off? -/
def lowerP (m k : Int) : Dbl := ⟨m * 18446744073709551616 / 2 ^ k.toNat / 18446744073709551616, m * 18446744073709551616 / 2 ^ k.toNat % 18446744073709551616, decide (m * 18446744073709551616 % 2 ^ k.toNat ≠ 0)⟩

theorem two_pos (n : Nat) : (0 : Int) < 2 ^ n := Int.pow_pos (by decide)
theorem two_64 {k : Int} (h : 0 ≤ k) (h' : k ≤ 64) : (18446744073709551616 : Int) = 2 ^ (64 - k).toNat * 2 ^ k.toNat := by
  rw [← Int.pow_add, show (64 - k).toNat + k.toNat = 64 by omega]; rfl
theorem lower_small {m k : Int} (hk : 0 ≤ k) (hk' : k < 64) : lowerP m k = ⟨m / 2 ^ k.toNat, m * 2 ^ (64 - k).toNat % 18446744073709551616, false⟩ := by
  have e := two_64 hk (by omega)
  have p := two_pos k.toNat
  have q := two_pos (64 - k).toNat
  have e1 : m * 18446744073709551616 / 2 ^ k.toNat = m * 2 ^ (64 - k).toNat := by
    rw [e, ← Int.mul_assoc]; exact Int.mul_ediv_cancel _ (by omega)
  have e2 : m * 18446744073709551616 % 2 ^ k.toNat = 0 := by
    rw [e, ← Int.mul_assoc]; exact Int.mul_emod_left _ _
  have e3 : m * 2 ^ (64 - k).toNat / 18446744073709551616 = m / 2 ^ k.toNat := by
    rw [e, Int.mul_comm m, Int.mul_ediv_mul_of_pos _ _ q]
  unfold lowerP
  rw [e1, e2, e3]; rfl
theorem lower_mid {m k : Int} (h0 : 0 ≤ m) (h1 : m < 18446744073709551616) (hk : 64 ≤ k) (hk' : k < 128) :
    lowerP m k = ⟨0, m / 2 ^ (k - 64).toNat, decide (m * 2 ^ (128 - k).toNat % 18446744073709551616 ≠ 0)⟩ := by
  have e : (2 : Int) ^ k.toNat = 18446744073709551616 * 2 ^ (k - 64).toNat := by
    rw [show k.toNat = 64 + (k - 64).toNat by omega, Int.pow_add]; rfl
  have p := two_pos (k - 64).toNat
  have q := two_pos (128 - k).toNat
  have e1 : m * 18446744073709551616 / 2 ^ k.toNat = m / 2 ^ (k - 64).toNat := by
    rw [e, Int.mul_comm m, Int.mul_ediv_mul_of_pos _ _ (by decide)]
  have e2 : m * 18446744073709551616 % 2 ^ k.toNat = 18446744073709551616 * (m % 2 ^ (k - 64).toNat) := by
    rw [e, Int.mul_comm m, Int.mul_emod_mul_of_pos _ _ (by decide)]
  have e3 : m * 2 ^ (128 - k).toNat % 18446744073709551616 = 2 ^ (128 - k).toNat * (m % 2 ^ (k - 64).toNat) := by
    have f : (18446744073709551616 : Int) = 2 ^ (128 - k).toNat * 2 ^ (k - 64).toNat := by
      rw [← Int.pow_add, show (128 - k).toNat + (k - 64).toNat = 64 by omega]; rfl
    rw [f, Int.mul_comm m, Int.mul_emod_mul_of_pos _ _ q]
  have l := Int.emod_nonneg m (show (2 : Int) ^ (k - 64).toNat ≠ 0 by omega)
  have e4 : m / 2 ^ (k - 64).toNat / 18446744073709551616 = 0 := Int.ediv_eq_zero_of_lt (Int.ediv_nonneg h0 (by omega)) (by have := Int.ediv_le_self (2 ^ (k - 64).toNat) h0; omega)
  have e5 : m / 2 ^ (k - 64).toNat % 18446744073709551616 = m / 2 ^ (k - 64).toNat := Int.emod_eq_of_lt (Int.ediv_nonneg h0 (by omega)) (by have := Int.ediv_le_self (2 ^ (k - 64).toNat) h0; omega)
  unfold lowerP
  rw [e1, e2, e3, e4, e5]
  congr 1
  apply decide_eq_decide.2
  constructor
  · intro g g'
    apply g
    rcases Int.mul_eq_zero.1 g' with g' | g'
    · omega
    · rw [g']; simp
  · intro g g'
    apply g
    have : m % 2 ^ (k - 64).toNat = 0 := by omega
    rw [this]; simp
theorem lower_far {m k : Int} (h0 : 0 < m) (h1 : m < 18446744073709551616) (hk : 128 ≤ k) : lowerP m k = ⟨0, 0, true⟩ := by
  have e : (340282366920938463463374607431768211456 : Int) ≤ 2 ^ k.toNat := by
    have : (2 : Int) ^ 128 ≤ 2 ^ k.toNat := by
      have := Nat.pow_le_pow_right (n := 2) (by omega) (show 128 ≤ k.toNat by omega)
      exact_mod_cast this
    exact this
  have e1 : m * 18446744073709551616 / 2 ^ k.toNat = 0 := Int.ediv_eq_zero_of_lt (by omega) (by omega)
  have e2 : m * 18446744073709551616 % 2 ^ k.toNat = m * 18446744073709551616 := Int.emod_eq_of_lt (by omega) (by omega)
  unfold lowerP
  rw [e1, e2]
  congr 1
  exact decide_eq_true (by omega)

theorem lowerP_nn (m k : Int) (h : 0 ≤ m) : 0 ≤ (lowerP m k).hi := by
  have p := two_pos k.toNat
  exact Int.ediv_nonneg (Int.ediv_nonneg (by omega) (by omega)) (by decide)

/-- the sum of two of one sign: 128 bits, or one more -/
def plusX (a b : Num) : Int := a.m * 18446744073709551616 + b.m * 18446744073709551616 / 2 ^ (a.e - b.e).toNat
def plusC (a b : Num) : Bool := decide (b.m * 18446744073709551616 % 2 ^ (a.e - b.e).toNat ≠ 0)
def plusP (a b : Num) (up : Bool) : Num :=
  if plusX a b < 340282366920938463463374607431768211456 then Num.grow a.neg (plusX a b / 18446744073709551616) a.e (plusC a b || decide (plusX a b % 18446744073709551616 ≠ 0)) (up != a.neg)
  else Num.grow a.neg (plusX a b / 36893488147419103232) (a.e + 1) (plusC a b || decide (plusX a b % 36893488147419103232 ≠ 0)) (up != a.neg)

theorem or_top {x : Int} (h0 : 0 ≤ x) (h1 : x < 9223372036854775808) : IntKind.u64.wrap ((BitVec.ofInt IntKind.u64.bits x ||| BitVec.ofInt IntKind.u64.bits 9223372036854775808).toNat : Int) = x + 9223372036854775808 := by
  show IntKind.u64.wrap ((BitVec.ofInt 64 x ||| BitVec.ofInt 64 9223372036854775808).toNat : Int) = _
  rw [BitVec.toNat_or]
  have a1 : (BitVec.ofInt 64 x).toNat = x.toNat := by
    have := ofInt_toNat x
    omega
  have a2 : (BitVec.ofInt 64 9223372036854775808).toNat = 1 <<< 63 := by decide
  rw [a1, a2, Nat.or_comm, ← Nat.shiftLeft_add_eq_or_of_lt (by omega), Nat.shiftLeft_eq, wu64]
  omega
theorem and_1 (x : Int) : IntKind.u64.wrap ((BitVec.ofInt IntKind.u64.bits x &&& BitVec.ofInt IntKind.u64.bits 1).toNat : Int) = x % 2 := by
  have := and_low x 1 (by omega)
  rw [show (2 ^ 1 - 1 : Int) = 1 by decide, show (2 ^ 1 : Int) = 2 by decide] at this
  show IntKind.u64.wrap ((BitVec.ofInt 64 x &&& BitVec.ofInt 64 1).toNat : Int) = _
  rw [this, wu64]; omega

section
variable {a b : Num} {up : Bool} {D : Dbl}
theorem plus_parts (ha : a.Fin) (hb : b.Fin) (hD : D = lowerP b.m (a.e - b.e)) :
    0 ≤ plusX a b ∧ a.m + D.hi = plusX a b / 18446744073709551616 ∧ D.lo = plusX a b % 18446744073709551616 ∧ D.cut = plusC a b ∧ plusX a b < 680564733841876926926749214863536422912 := by
  have := ha.lo; have := ha.hi; have := hb.lo; have := hb.hi
  have p := two_pos (a.e - b.e).toNat
  have n := Int.ediv_nonneg (show 0 ≤ b.m * 18446744073709551616 by omega) (Int.le_of_lt p)
  have l := Int.ediv_le_self (2 ^ (a.e - b.e).toNat) (show 0 ≤ b.m * 18446744073709551616 by omega)
  subst hD
  unfold lowerP plusX plusC
  dsimp only
  generalize b.m * 18446744073709551616 / 2 ^ (a.e - b.e).toNat = L at *
  refine ⟨by omega, by omega, by omega, rfl, by omega⟩
theorem plus_carry (ha : a.Fin) (hb : b.Fin) (hD : D = lowerP b.m (a.e - b.e)) (h : (a.m + D.hi + 0) / 18446744073709551616 ≠ 0) :
    plusP a b up = Num.grow a.neg (IntKind.u64.wrap ((BitVec.ofInt IntKind.u64.bits (((a.m + D.hi + 0) % 18446744073709551616).fdiv (2 ^ min (Int.toNat 1) IntKind.u64.bits)) ||| BitVec.ofInt IntKind.u64.bits 9223372036854775808).toNat : Int)) (IntKind.i64.wrap (a.e + 1))
      (D.cut || (decide (D.lo ≠ 0) || decide (IntKind.u64.wrap ((BitVec.ofInt IntKind.u64.bits ((a.m + D.hi + 0) % 18446744073709551616) &&& BitVec.ofInt IntKind.u64.bits 1).toNat : Int) ≠ 0))) (up != a.neg) := by
  obtain ⟨n, e1, e2, e3, l⟩ := plus_parts ha hb hD
  have := ha.elo; have := ha.ehi
  rw [e1] at h
  unfold plusP
  rw [e1, e2, e3, shr1, and_1]
  generalize plusX a b = X at *
  rw [if_neg (by omega), or_top (by omega) (by omega), show IntKind.i64.wrap (a.e + 1) = a.e + 1 by (rw [wi64]; omega),
    show (X / 18446744073709551616 + 0) % 18446744073709551616 / 2 + 9223372036854775808 = X / 36893488147419103232 by omega]
  congr 1
  cases plusC a b
  · simp only [Bool.false_or]
    rw [← Bool.decide_or]
    apply decide_eq_decide.2
    omega
  · rfl
theorem plus_flat (ha : a.Fin) (hb : b.Fin) (hD : D = lowerP b.m (a.e - b.e)) (h : ¬ (a.m + D.hi + 0) / 18446744073709551616 ≠ 0) :
    plusP a b up = Num.grow a.neg ((a.m + D.hi + 0) % 18446744073709551616) a.e (D.cut || decide (D.lo ≠ 0)) (up != a.neg) := by
  obtain ⟨n, e1, e2, e3, l⟩ := plus_parts ha hb hD
  rw [e1] at h
  unfold plusP
  rw [e1, e2, e3]
  generalize plusX a b = X at *
  rw [if_pos (by omega), show (X / 18446744073709551616 + 0) % 18446744073709551616 = X / 18446744073709551616 by omega]
end
end Go.Proofs.Ytincnfjihffllaa.Ev

/- Contracts: the sum and the difference of two words with a carry; these have no body in the program's form: the model answers at once. -/
namespace Go.Proofs.Ytincnfjihffllaa.Ev
open Go Go.Proofs Go.RowKit
set_option linter.unusedVariables false

theorem three_vals {O : Nat → Prop} {w : World} {x y c : Int} {vals : Array Value} (hl : [AV.int .u64 (.s x), AV.int .u64 (.s y), AV.int .u64 (.s c)].length = vals.size)
    (hr : ∀ (j : Nat) (a : AV), [AV.int .u64 (.s x), AV.int .u64 (.s y), AV.int .u64 (.s c)][j]? = some a → RoV O w a (vals.getD j undef)) : vals = #[.int .u64 x, .int .u64 y, .int .u64 c] := by
  have g : ∀ {n : Int} {v : Value}, RoV O w (.int .u64 (.s n)) v → v = .int .u64 n := by
    intro n v h; cases h; rename_i h; subst h; rfl
  have e0 := g (hr 0 _ rfl)
  have e1 := g (hr 1 _ rfl)
  have e2 := g (hr 2 _ rfl)
  obtain ⟨l⟩ := vals
  rcases l with _ | ⟨a, _ | ⟨b, _ | ⟨d, _ | ⟨e, r⟩⟩⟩⟩ <;> simp at hl
  simp at e0 e1 e2
  rw [e0, e1, e2]

theorem ro_pair {O : Nat → Prop} {w : World} (a b : Int) : RoV O w (.tup [.int .u64 (.s a), .int .u64 (.s b)]) (.tuple #[.int .u64 a, .int .u64 b]) := by
  refine .tup _ _ rfl (fun j c hj => ?_)
  match j, hj with
  | 0, hj => simp at hj; subst hj; exact .int _ _ _ rfl
  | 1, hj => simp at hj; subst hj; exact .int _ _ _ rfl
  | j + 2, hj => simp at hj

theorem c_Add64 (x y c : Int) (hx : 0 ≤ x) (hy : 0 ≤ y) (hc0 : 0 ≤ c) (hc : c ≤ 1) : ∃ t : Int × Int, t = ((x + y + c) % 18446744073709551616, (x + y + c) / 18446744073709551616) ∧
    CallsA Try.prog 188 [.int .u64 (.s x), .int .u64 (.s y), .int .u64 (.s c)] (.tup [.int .u64 (.s t.1), .int .u64 (.s t.2)]) := by
  refine ⟨_, rfl, fun O w vals hO hl hr => .inr ⟨.tuple #[.int .u64 ((x + y + c) % 18446744073709551616), .int .u64 ((x + y + c) / 18446744073709551616)], ?_, _, rfl, ro_pair _ _, Below.refl _ _⟩⟩
  rw [three_vals hl hr, run_callFunc_extern Try.func188 (by kernel_rfl) (by kernel_rfl) (by kernel_rfl) (e := add64Entry) (by kernel_rfl), run_add64 x y c hx hy hc0 hc]
  rfl

def subE : Array Value → Sem Value := (Extern.MathBitsCarry.rows.getD 1 ("", fun _ => pure .nilIface)).2
theorem run_subE {P : Program} (x y b : Int) (hx : 0 ≤ x) (hy : 0 ≤ y) (hy' : y < 18446744073709551616) (hb0 : 0 ≤ b) (hb : b ≤ 1) (w : World) :
    (subE #[.int .u64 x, .int .u64 y, .int .u64 b]).run P w = .ok (.tuple #[.int .u64 ((x - y - b) % 18446744073709551616), .int .u64 (if x < y + b then 1 else 0)]) w := by
  have key : ∀ k : Nat, k ≤ 1 → (subE #[.int .u64 x, .int .u64 y, .int .u64 (k : Int)]).run P w =
      .ok (Extern.MathBitsCarry.pair ((x.toNat + Extern.MathBitsCarry.m64 - y.toNat - k) % Extern.MathBitsCarry.m64) (if x.toNat < y.toNat + k then 1 else 0)) w := by
    intro k hk
    have : k = 0 ∨ k = 1 := by omega
    rcases this with rfl | rfl <;> rfl
  obtain ⟨k, rfl⟩ := Int.eq_ofNat_of_zero_le hb0
  rw [key k (by omega)]
  obtain ⟨X, rfl⟩ := Int.eq_ofNat_of_zero_le hx
  obtain ⟨Y, rfl⟩ := Int.eq_ofNat_of_zero_le hy
  have e1 : ((((X : Int).toNat + Extern.MathBitsCarry.m64 - (Y : Int).toNat - k) % Extern.MathBitsCarry.m64 : Nat) : Int) = ((X : Int) - Y - k) % 18446744073709551616 := by
    simp only [Extern.MathBitsCarry.m64, Int.toNat_natCast]; omega
  have e2 : (((if (X : Int).toNat < (Y : Int).toNat + k then 1 else 0 : Nat)) : Int) = if (X : Int) < Y + k then 1 else 0 := by
    simp only [Int.toNat_natCast]; split <;> split <;> omega
  show Result.ok (Value.tuple #[.int .u64 _, .int .u64 _]) w = _
  rw [← e1, ← e2]
  rfl
theorem c_Sub64 (x y b : Int) (hx : 0 ≤ x) (hy : 0 ≤ y) (hy' : y < 18446744073709551616) (hb0 : 0 ≤ b) (hb : b ≤ 1) : ∃ t : Int × Int, t = ((x - y - b) % 18446744073709551616, if x < y + b then 1 else 0) ∧
    CallsA Try.prog 189 [.int .u64 (.s x), .int .u64 (.s y), .int .u64 (.s b)] (.tup [.int .u64 (.s t.1), .int .u64 (.s t.2)]) := by
  refine ⟨_, rfl, fun O w vals hO hl hr => .inr ⟨.tuple #[.int .u64 ((x - y - b) % 18446744073709551616), .int .u64 (if x < y + b then 1 else 0)], ?_, _, rfl, ro_pair _ _, Below.refl _ _⟩⟩
  rw [three_vals hl hr, run_callFunc_extern Try.func189 (by kernel_rfl) (by kernel_rfl) (by kernel_rfl) (e := subE) (by kernel_rfl), run_subE x y b hx hy hy' hb0 hb]
  rfl
end Go.Proofs.Ytincnfjihffllaa.Ev

/- Contracts: sums. Printed by gen.py out of C14.spec. -/
namespace Go.Proofs.Ytincnfjihffllaa.Ev
open Go Go.Proofs
set_option linter.unusedVariables false
set_option linter.unusedSimpArgs false

theorem c_lower (m : Int) (k : Int) (h0 : 0 < m) (h1 : m < 18446744073709551616) (h2 : 0 ≤ k) (h3 : k < 9223372036854775808) : ∃ t : Dbl, t = lowerP m k ∧ CallsA Try.prog 187 [.int .u64 (.s m), .int .i64 (.s k)] (t.av) := by
  refine ⟨_, rfl, ?_⟩
  generalize hr : lowerP m k = r
  refine callsA_of hG hm Try.func187 (by kernel_rfl) ?_
  intro E hE lp hl
  cbv
  repeat' (first
    | (apply E_br_t hE; assumption; cbv)
    | (apply E_br_f hE; assumption; cbv)
    | (refine E_br hE (fun h => ?_) (fun h => ?_) <;> cbv)
    | (refine E_nm hE (fun v hv => ?_); cbv)
    | fail)
  all_goals (subst hE; subst hr)
  all_goals (try simp only [realE, cmp_eql, cmp_neq, cmp_lss, cmp_leq, cmp_gtr, cmp_geq, intBinR, decide_eq_true_eq, decide_eq_false_iff_not, SI.val, SB.val, Num.eta, Iv.eta] at *)
  all_goals (try (exfalso; (try simp only [wi64] at *); omega))
  case refine_1.refine_2.refine_2 =>
    rw [lower_small h2 ‹k < 64›, show IntKind.i64.wrap (64 - k) = 64 - k by (simp only [wi64]; omega), show min k.toNat IntKind.u64.bits = k.toNat by (show min k.toNat 64 = _; omega),
      show min (64 - k).toNat IntKind.u64.bits = (64 - k).toNat by (show min (64 - k).toNat 64 = _; omega), shr_lit (Int.le_of_lt (two_pos _)), wu64]
    exact ⟨rfl, rfl, rfl, trivial⟩
  case refine_2.refine_1.refine_2.refine_2 =>
    have ev : v = k - 64 := by rw [hv]; simp only [wi64]; omega
    subst ev
    rw [lower_mid (by omega) h1 (by omega) ‹k < 128›, show IntKind.i64.wrap (64 - (k - 64)) = 128 - k by (simp only [wi64]; omega), show min (k - 64).toNat IntKind.u64.bits = (k - 64).toNat by (show min (k - 64).toNat 64 = _; omega),
      show min (128 - k).toNat IntKind.u64.bits = (128 - k).toNat by (show min (128 - k).toNat 64 = _; omega), shr_lit (Int.le_of_lt (two_pos _)), wu64]
    exact ⟨rfl, rfl, rfl, trivial⟩
  case refine_2.refine_2 =>
    rw [lower_far h0 h1 (by omega)]
    exact ⟨rfl, rfl, rfl, trivial⟩

theorem c_plus (a : Num) (b : Num) (up : Bool) (ha : a.Fin) (hb : b.Fin) (hk : b.e ≤ a.e) : ∃ t : Num, t = plusP a b up ∧ CallsA Try.prog 173 [a.av, b.av, .bool (.s up)] (t.av) := by
  refine ⟨_, rfl, ?_⟩
  generalize hr : plusP a b up = r
  refine callsA_of hG hm Try.func173 (by kernel_rfl) ?_
  intro E hE lp hl
  cbv
  repeat' (first
    | (apply E_br_t hE; assumption; cbv)
    | (apply E_br_f hE; assumption; cbv)
    | (refine E_br hE (fun h => ?_) (fun h => ?_) <;> cbv)
    | (refine E_nm hE (fun v hv => ?_); cbv)
    | (apply E_callX hE (c_lower _ _ ?_ ?_ ?_ ?_); (case hf => rfl); (case hc => (cbv <;> trivial)); (case hle => (repeat' (first | exact u_nil | apply u_cons | apply u2_agg | exact u2_int | exact u1_int | exact u2_bool | exact u1_bool | exact u2_sli | exact u1_sli | exact u2_s0 | exact u1_s0))); all_goals (first | (intro t ht; cbv) | (subst hE; (try simp only [realE, cmp_eql, cmp_neq, cmp_lss, cmp_leq, cmp_gtr, cmp_geq, intBinR, decide_eq_true_eq, decide_eq_false_iff_not, SI.val, SB.val, Num.eta, Iv.eta] at *); (have := ha.lo; have := ha.hi; have := hb.lo; have := hb.hi; have := ha.elo; have := ha.ehi; have := hb.elo; have := hb.ehi; first | omega | exact (show 0 < b.m by omega) | exact (show b.m < 18446744073709551616 by omega) | exact (show 0 ≤ IntKind.i64.wrap (a.e - b.e) by (simp only [wi64]; omega)) | exact (show IntKind.i64.wrap (a.e - b.e) < 9223372036854775808 by (simp only [wi64]; omega)) | exact (show 0 ≤ a.m by omega) | (subst_vars; exact lowerP_nn _ _ (by omega))))))
    | (apply E_pcallX hE (c_lower _ _ ?_ ?_ ?_ ?_); (case hm => rfl); (case hle => (repeat' (first | exact u_nil | apply u_cons | apply u2_agg | exact u2_int | exact u1_int | exact u2_bool | exact u1_bool | exact u2_sli | exact u1_sli | exact u2_s0 | exact u1_s0))); all_goals (first | (intro t ht; cbv) | (subst hE; (try simp only [realE, cmp_eql, cmp_neq, cmp_lss, cmp_leq, cmp_gtr, cmp_geq, intBinR, decide_eq_true_eq, decide_eq_false_iff_not, SI.val, SB.val, Num.eta, Iv.eta] at *); (have := ha.lo; have := ha.hi; have := hb.lo; have := hb.hi; have := ha.elo; have := ha.ehi; have := hb.elo; have := hb.ehi; first | omega | exact (show 0 < b.m by omega) | exact (show b.m < 18446744073709551616 by omega) | exact (show 0 ≤ IntKind.i64.wrap (a.e - b.e) by (simp only [wi64]; omega)) | exact (show IntKind.i64.wrap (a.e - b.e) < 9223372036854775808 by (simp only [wi64]; omega)) | exact (show 0 ≤ a.m by omega) | (subst_vars; exact lowerP_nn _ _ (by omega))))))
    | (apply E_callX hE (c_Add64 _ _ _ ?_ ?_ ?_ ?_); (case hf => rfl); (case hc => (cbv <;> trivial)); (case hle => (repeat' (first | exact u_nil | apply u_cons | apply u2_agg | exact u2_int | exact u1_int | exact u2_bool | exact u1_bool | exact u2_sli | exact u1_sli | exact u2_s0 | exact u1_s0))); all_goals (first | (intro t ht; cbv) | (subst hE; (try simp only [realE, cmp_eql, cmp_neq, cmp_lss, cmp_leq, cmp_gtr, cmp_geq, intBinR, decide_eq_true_eq, decide_eq_false_iff_not, SI.val, SB.val, Num.eta, Iv.eta] at *); (have := ha.lo; have := ha.hi; have := hb.lo; have := hb.hi; have := ha.elo; have := ha.ehi; have := hb.elo; have := hb.ehi; first | omega | exact (show 0 < b.m by omega) | exact (show b.m < 18446744073709551616 by omega) | exact (show 0 ≤ IntKind.i64.wrap (a.e - b.e) by (simp only [wi64]; omega)) | exact (show IntKind.i64.wrap (a.e - b.e) < 9223372036854775808 by (simp only [wi64]; omega)) | exact (show 0 ≤ a.m by omega) | (subst_vars; exact lowerP_nn _ _ (by omega))))))
    | (apply E_pcallX hE (c_Add64 _ _ _ ?_ ?_ ?_ ?_); (case hm => rfl); (case hle => (repeat' (first | exact u_nil | apply u_cons | apply u2_agg | exact u2_int | exact u1_int | exact u2_bool | exact u1_bool | exact u2_sli | exact u1_sli | exact u2_s0 | exact u1_s0))); all_goals (first | (intro t ht; cbv) | (subst hE; (try simp only [realE, cmp_eql, cmp_neq, cmp_lss, cmp_leq, cmp_gtr, cmp_geq, intBinR, decide_eq_true_eq, decide_eq_false_iff_not, SI.val, SB.val, Num.eta, Iv.eta] at *); (have := ha.lo; have := ha.hi; have := hb.lo; have := hb.hi; have := ha.elo; have := ha.ehi; have := hb.elo; have := hb.ehi; first | omega | exact (show 0 < b.m by omega) | exact (show b.m < 18446744073709551616 by omega) | exact (show 0 ≤ IntKind.i64.wrap (a.e - b.e) by (simp only [wi64]; omega)) | exact (show IntKind.i64.wrap (a.e - b.e) < 9223372036854775808 by (simp only [wi64]; omega)) | exact (show 0 ≤ a.m by omega) | (subst_vars; exact lowerP_nn _ _ (by omega))))))
    | (apply E_callX hE (c_Grow _ _ _ _ _); (case hf => rfl); (case hc => (cbv <;> trivial)); (case hle => (repeat' (first | exact u_nil | apply u_cons | apply u2_agg | exact u2_int | exact u1_int | exact u2_bool | exact u1_bool | exact u2_sli | exact u1_sli | exact u2_s0 | exact u1_s0))); intro t ht; cbv)
    | (apply E_pcallX hE (c_Grow _ _ _ _ _); (case hm => rfl); (case hle => (repeat' (first | exact u_nil | apply u_cons | apply u2_agg | exact u2_int | exact u1_int | exact u2_bool | exact u1_bool | exact u2_sli | exact u1_sli | exact u2_s0 | exact u1_s0))); intro t ht; cbv)
    | fail)
  all_goals (subst hE; subst hr)
  all_goals (try simp only [realE, cmp_eql, cmp_neq, cmp_lss, cmp_leq, cmp_gtr, cmp_geq, intBinR, decide_eq_true_eq, decide_eq_false_iff_not, SI.val, SB.val, Num.eta, Iv.eta] at *)
  all_goals (refine Num.fin (t := t) ?_)
  all_goals (subst_vars; dsimp only at *)
  all_goals (have hw : IntKind.i64.wrap (a.e - b.e) = a.e - b.e := by (have := ha.elo; have := ha.ehi; have := hb.elo; have := hb.ehi; rw [wi64]; omega))
  all_goals (simp only [hw] at *)
  all_goals (first | rw [plus_carry ha hb rfl ‹_›] | rw [plus_flat ha hb rfl ‹_›])
  all_goals (first | (simp [*]; done) | (simp [*]; rfl) | trace_state)

end Go.Proofs.Ytincnfjihffllaa.Ev

/- The difference of two numbers: plain Lean. -/
namespace Go.Proofs.Ytincnfjihffllaa.Ev
open Go

def minusZ (a b : Num) : Int := a.m * 18446744073709551616 - b.m * 18446744073709551616 / 2 ^ (a.e - b.e).toNat - (if plusC a b then 1 else 0)
def minusP (a b : Num) (up : Bool) : Num :=
  Num.grow a.neg (minusZ a b * 2 ^ (128 - blen (minusZ a b)).toNat / 18446744073709551616) (a.e - (128 - blen (minusZ a b))) (plusC a b || decide (minusZ a b * 2 ^ (128 - blen (minusZ a b)).toNat % 18446744073709551616 ≠ 0)) (up != a.neg)

theorem lowerP_lo (m k : Int) : 0 ≤ (lowerP m k).lo := Int.emod_nonneg _ (by decide)
theorem lowerP_lo2 (m k : Int) : (lowerP m k).lo < 18446744073709551616 := Int.emod_lt_of_pos _ (by decide)
theorem lowerP_hi2 (m k : Int) (h : 0 ≤ m) (h1 : m < 18446744073709551616) : (lowerP m k).hi < 18446744073709551616 := by
  have l := Int.ediv_le_self (2 ^ k.toNat) (show 0 ≤ m * 18446744073709551616 by omega)
  show m * 18446744073709551616 / 2 ^ k.toNat / 18446744073709551616 < _
  omega
theorem sub_nn (x : Int × Int) (y : Int) : 0 ≤ ((y % 18446744073709551616, x.2) : Int × Int).1 := Int.emod_nonneg _ (by decide)
theorem sub_lt (x : Int × Int) (y : Int) : ((y % 18446744073709551616, x.2) : Int × Int).1 < 18446744073709551616 := Int.emod_lt_of_pos _ (by decide)
theorem borrow_nn (p : Prop) [Decidable p] : (0 : Int) ≤ if p then 1 else 0 := by split <;> decide
theorem borrow_le (p : Prop) [Decidable p] : (if p then 1 else 0 : Int) ≤ 1 := by split <;> decide

theorem or_shift {h l s : Int} (h0 : 0 ≤ h) (h1 : h < 2 ^ (64 - s).toNat) (l0 : 0 ≤ l) (l1 : l < 18446744073709551616) (s0 : 0 < s) (s1 : s < 64) :
    IntKind.u64.wrap ((BitVec.ofInt IntKind.u64.bits (IntKind.u64.wrap (h * 2 ^ s.toNat)) ||| BitVec.ofInt IntKind.u64.bits (l / 2 ^ (64 - s).toNat)).toNat : Int) = h * 2 ^ s.toNat + l / 2 ^ (64 - s).toNat := by
  have p := two_pos s.toNat
  have q := two_pos (64 - s).toNat
  have e := two_64 (k := s) (by omega) (by omega)
  have m1 : h * 2 ^ s.toNat ≤ (2 ^ (64 - s).toNat - 1) * 2 ^ s.toNat := Int.mul_le_mul_of_nonneg_right (by omega) (by omega)
  have m2 : (2 ^ (64 - s).toNat - 1) * (2 : Int) ^ s.toNat = 18446744073709551616 - 2 ^ s.toNat := by rw [e]; grind
  have m3 : 0 ≤ h * 2 ^ s.toNat := Int.mul_nonneg h0 (by omega)
  have d0 : 0 ≤ l / 2 ^ (64 - s).toNat := Int.ediv_nonneg l0 (by omega)
  have d1 : l / 2 ^ (64 - s).toNat < 2 ^ s.toNat := by
    rw [Int.ediv_lt_iff_lt_mul q, Int.mul_comm, ← e]; exact l1
  have e1 : IntKind.u64.wrap (h * 2 ^ s.toNat) = h * 2 ^ s.toNat := by rw [wu64]; omega
  rw [e1]
  show IntKind.u64.wrap ((BitVec.ofInt 64 (h * 2 ^ s.toNat) ||| BitVec.ofInt 64 (l / 2 ^ (64 - s).toNat)).toNat : Int) = _
  rw [BitVec.toNat_or]
  generalize hx : h * 2 ^ s.toNat = x at *
  generalize l / 2 ^ (64 - s).toNat = y at *
  have a1 : (BitVec.ofInt 64 x).toNat = h.toNat <<< s.toNat := by
    have := ofInt_toNat x
    rw [Nat.shiftLeft_eq]
    have c : ((h.toNat * 2 ^ s.toNat : Nat) : Int) = x := by push_cast; rw [Int.toNat_of_nonneg h0]; exact hx
    omega
  have a2 : (BitVec.ofInt 64 y).toNat = y.toNat := by
    have := ofInt_toNat y
    omega
  have a3 : y.toNat < 2 ^ s.toNat := by
    have c : ((2 ^ s.toNat : Nat) : Int) = 2 ^ s.toNat := by push_cast; rfl
    omega
  rw [a1, a2, ← Nat.shiftLeft_add_eq_or_of_lt a3, Nat.shiftLeft_eq, wu64]
  have c : ((h.toNat * 2 ^ s.toNat + y.toNat : Nat) : Int) = x + y := by push_cast; rw [Int.toNat_of_nonneg h0, Int.toNat_of_nonneg d0, hx]
  rw [c]; omega

section
variable {a b : Num} {up : Bool} {D : Dbl}
theorem minus_parts (ha : a.Fin) (hb : b.Fin) (hk : b.e ≤ a.e) (hgt : b.e < a.e ∨ b.m < a.m) (hD : D = lowerP b.m (a.e - b.e)) {c lo br hi : Int} (hc : c = if D.cut then 1 else 0)
    (hlo : lo = (0 - D.lo - c) % 18446744073709551616) (hbr : br = if 0 < D.lo + c then 1 else 0) (hhi : hi = (a.m - D.hi - br) % 18446744073709551616) :
    0 < minusZ a b ∧ minusZ a b < 340282366920938463463374607431768211456 ∧ hi = minusZ a b / 18446744073709551616 ∧ lo = minusZ a b % 18446744073709551616 ∧ D.cut = plusC a b := by
  have := ha.lo; have := ha.hi; have := hb.lo; have := hb.hi
  have p := two_pos (a.e - b.e).toNat
  have n := Int.ediv_nonneg (show 0 ≤ b.m * 18446744073709551616 by omega) (Int.le_of_lt p)
  have l := Int.ediv_mul_le (b.m * 18446744073709551616) (show (2 : Int) ^ (a.e - b.e).toNat ≠ 0 by omega)
  have hcut : D.cut = plusC a b := by rw [hD]; rfl
  have hcc : c = if plusC a b then 1 else 0 := by rw [hc, hcut]
  have key : b.m * 18446744073709551616 / 2 ^ (a.e - b.e).toNat + c < a.m * 18446744073709551616 := by
    by_cases he : a.e = b.e
    · have e0 : (2 : Int) ^ (a.e - b.e).toNat = 1 := by rw [show (a.e - b.e).toNat = 0 by omega]; rfl
      have : plusC a b = false := by unfold plusC; rw [e0]; simp
      rw [this] at hcc
      rw [e0]
      simp at hcc ⊢
      omega
    · have two : (2 : Int) ≤ 2 ^ (a.e - b.e).toNat := by
        have := Nat.pow_le_pow_right (n := 2) (by omega) (show 1 ≤ (a.e - b.e).toNat by omega)
        exact_mod_cast this
      have := Int.mul_le_mul_of_nonneg_left two n
      have c1 : c ≤ 1 := by rw [hc]; split <;> decide
      omega
  have z : minusZ a b = a.m * 18446744073709551616 - b.m * 18446744073709551616 / 2 ^ (a.e - b.e).toNat - c := by unfold minusZ; rw [hcc]
  have h1 : D.hi = b.m * 18446744073709551616 / 2 ^ (a.e - b.e).toNat / 18446744073709551616 := by rw [hD]; rfl
  have h2 : D.lo = b.m * 18446744073709551616 / 2 ^ (a.e - b.e).toNat % 18446744073709551616 := by rw [hD]; rfl
  rw [z]
  have c0 : c = 0 ∨ c = 1 := by rw [hc]; split <;> simp
  generalize b.m * 18446744073709551616 / 2 ^ (a.e - b.e).toNat = L at *
  refine ⟨by omega, by omega, ?_, ?_, hcut⟩
  · rw [hhi, hbr, h1, h2]; split <;> omega
  · rw [hlo, h2]; omega

/-- the two words, moved up as far as may be -/
theorem minus_low {Z : Int} (h0 : 0 < Z) (hh : Z / 18446744073709551616 = 0) :
    128 - blen Z = 64 + (64 - blen (Z % 18446744073709551616)) ∧ Z * 2 ^ (128 - blen Z).toNat / 18446744073709551616 = Z % 18446744073709551616 * 2 ^ (64 - blen (Z % 18446744073709551616)).toNat ∧
      Z * 2 ^ (128 - blen Z).toNat % 18446744073709551616 = 0 ∧ 0 ≤ 64 - blen (Z % 18446744073709551616) ∧ Z % 18446744073709551616 * 2 ^ (64 - blen (Z % 18446744073709551616)).toNat < 18446744073709551616 := by
  have e : Z % 18446744073709551616 = Z := by omega
  rw [e]
  have bl := blen_le 64 (x := Z) (by omega)
  have bn := blen_nonneg Z
  have f : (2 : Int) ^ (128 - blen Z).toNat = 2 ^ (64 - blen Z).toNat * 18446744073709551616 := by
    rw [show (128 - blen Z).toNat = (64 - blen Z).toNat + 64 by omega, Int.pow_add]; rfl
  refine ⟨by omega, ?_, ?_, by omega, ?_⟩
  · rw [f, ← Int.mul_assoc, Int.mul_ediv_cancel _ (by decide)]
  · rw [f, ← Int.mul_assoc, Int.mul_emod_left]
  · obtain ⟨n, n1, n2, n3⟩ := blen_pos h0
    have g : (18446744073709551616 : Int) = 2 ^ (n + 1) * 2 ^ (64 - blen Z).toNat := by
      rw [← Int.pow_add, show n + 1 + (64 - blen Z).toNat = 64 by omega]; rfl
    rw [g]
    exact Int.mul_lt_mul_of_pos_right n3 (two_pos _)
theorem minus_high {Z : Int} (h0 : 0 < Z) (h1 : Z < 340282366920938463463374607431768211456) (hh : Z / 18446744073709551616 ≠ 0) :
    128 - blen Z = 64 - blen (Z / 18446744073709551616) ∧ 0 ≤ 64 - blen (Z / 18446744073709551616) ∧ 64 - blen (Z / 18446744073709551616) < 64 ∧ Z / 18446744073709551616 < 2 ^ (64 - (64 - blen (Z / 18446744073709551616))).toNat := by
  have d := blen_div (x := Z) 64 (by show (18446744073709551616 : Int) ≤ Z; omega)
  rw [show (2 : Int) ^ 64 = 18446744073709551616 by decide] at d
  have q0 : 0 < Z / 18446744073709551616 := by omega
  have bl := blen_le 64 (x := Z / 18446744073709551616) (by omega)
  obtain ⟨n, n1, n2, n3⟩ := blen_pos q0
  refine ⟨by omega, by omega, by omega, ?_⟩
  rw [show (64 - (64 - blen (Z / 18446744073709551616))).toNat = n + 1 by omega]
  exact n3
theorem shift_two {Z s : Int} (s0 : 0 ≤ s) (s1 : s < 64) : Z * 2 ^ s.toNat / 18446744073709551616 = Z / 18446744073709551616 * 2 ^ s.toNat + Z % 18446744073709551616 / 2 ^ (64 - s).toNat ∧
    Z * 2 ^ s.toNat % 18446744073709551616 = Z % 18446744073709551616 * 2 ^ s.toNat % 18446744073709551616 := by
  have p := two_pos s.toNat
  have q := two_pos (64 - s).toNat
  have e := two_64 (k := s) (by omega) (by omega)
  have z : Z = Z / 18446744073709551616 * 18446744073709551616 + Z % 18446744073709551616 := by omega
  generalize hZ : Z % 18446744073709551616 = l at *
  generalize hQ : Z / 18446744073709551616 = h at *
  have e1 : Z * 2 ^ s.toNat = l * 2 ^ s.toNat + (h * 2 ^ s.toNat) * 18446744073709551616 := by rw [z]; grind
  have e2 : l * 2 ^ s.toNat / 18446744073709551616 = l / 2 ^ (64 - s).toNat := by
    rw [e, Int.mul_ediv_mul_of_pos_left _ _ p]
  rw [e1]
  constructor
  · rw [Int.add_mul_ediv_right _ _ (by decide), e2]; omega
  · rw [Int.add_mul_emod_self_right]

theorem min_64 {s : Int} (h : s ≤ 64) : min s.toNat IntKind.u64.bits = s.toNat := by show min s.toNat 64 = _; omega
theorem minus_A_pos (ha : a.Fin) (z0 : 0 < minusZ a b) (hA : minusZ a b / 18446744073709551616 = 0) :
    minusP a b up = Num.grow a.neg (IntKind.u64.wrap ((BitVec.ofInt IntKind.u64.bits (IntKind.u64.wrap (minusZ a b % 18446744073709551616 * 2 ^ min (64 - blen (minusZ a b % 18446744073709551616)).toNat IntKind.u64.bits)) |||
      BitVec.ofInt IntKind.u64.bits (Int.fdiv 0 (2 ^ min (IntKind.i64.wrap (64 - (64 - blen (minusZ a b % 18446744073709551616)))).toNat IntKind.u64.bits))).toNat : Int))
      (IntKind.i64.wrap (IntKind.i64.wrap (a.e - 64) - (64 - blen (minusZ a b % 18446744073709551616)))) (plusC a b || decide (IntKind.u64.wrap (0 * 2 ^ min (64 - blen (minusZ a b % 18446744073709551616)).toNat IntKind.u64.bits) ≠ 0)) (up != a.neg) := by
  obtain ⟨e1, e2, e3, e4, e5⟩ := minus_low z0 hA
  have := ha.elo; have := ha.ehi
  have bn := blen_nonneg (minusZ a b % 18446744073709551616)
  unfold minusP
  rw [e2, e3, min_64 (by omega)]
  have q := two_pos (64 - blen (minusZ a b % 18446744073709551616)).toNat
  have nn := Int.mul_nonneg (Int.emod_nonneg (minusZ a b) (show (18446744073709551616 : Int) ≠ 0 by decide)) (Int.le_of_lt q)
  rw [show (Int.fdiv 0 (2 ^ min (IntKind.i64.wrap (64 - (64 - blen (minusZ a b % 18446744073709551616)))).toNat IntKind.u64.bits)) = 0 by rw [shr_lit (Int.le_of_lt (two_pos _)), Int.zero_ediv]]
  generalize hx : minusZ a b % 18446744073709551616 * 2 ^ (64 - blen (minusZ a b % 18446744073709551616)).toNat = x at *
  rw [show IntKind.u64.wrap x = x by (rw [wu64]; omega), show IntKind.u64.wrap ((BitVec.ofInt IntKind.u64.bits x ||| BitVec.ofInt IntKind.u64.bits 0).toNat : Int) = x from or_0 x nn e5]
  rw [show IntKind.i64.wrap (IntKind.i64.wrap (a.e - 64) - (64 - blen (minusZ a b % 18446744073709551616))) = a.e - (128 - blen (minusZ a b)) by (simp only [wi64]; omega), Int.zero_mul, show IntKind.u64.wrap 0 = 0 by decide]
theorem minus_A_zero (ha : a.Fin) (z0 : 0 < minusZ a b) (hA : minusZ a b / 18446744073709551616 = 0) (hp : ¬ 0 < 64 - blen (minusZ a b % 18446744073709551616)) :
    minusP a b up = Num.grow a.neg (minusZ a b % 18446744073709551616) (IntKind.i64.wrap (a.e - 64)) (plusC a b || decide ((0 : Int) ≠ 0)) (up != a.neg) := by
  obtain ⟨e1, e2, e3, e4, e5⟩ := minus_low z0 hA
  have := ha.elo; have := ha.ehi
  unfold minusP
  rw [e2, e3, show 64 - blen (minusZ a b % 18446744073709551616) = 0 by omega, show IntKind.i64.wrap (a.e - 64) = a.e - (128 - blen (minusZ a b)) by (simp only [wi64]; omega)]
  simp
theorem minus_B_pos (ha : a.Fin) (z0 : 0 < minusZ a b) (z1 : minusZ a b < 340282366920938463463374607431768211456) (hB : minusZ a b / 18446744073709551616 ≠ 0) (hp : 0 < 64 - blen (minusZ a b / 18446744073709551616)) :
    minusP a b up = Num.grow a.neg (IntKind.u64.wrap ((BitVec.ofInt IntKind.u64.bits (IntKind.u64.wrap (minusZ a b / 18446744073709551616 * 2 ^ min (64 - blen (minusZ a b / 18446744073709551616)).toNat IntKind.u64.bits)) |||
      BitVec.ofInt IntKind.u64.bits ((minusZ a b % 18446744073709551616).fdiv (2 ^ min (IntKind.i64.wrap (64 - (64 - blen (minusZ a b / 18446744073709551616)))).toNat IntKind.u64.bits))).toNat : Int))
      (IntKind.i64.wrap (a.e - (64 - blen (minusZ a b / 18446744073709551616)))) (plusC a b || decide (IntKind.u64.wrap (minusZ a b % 18446744073709551616 * 2 ^ min (64 - blen (minusZ a b / 18446744073709551616)).toNat IntKind.u64.bits) ≠ 0)) (up != a.neg) := by
  obtain ⟨e1, e2, e3, e4⟩ := minus_high z0 z1 hB
  have := ha.elo; have := ha.ehi
  unfold minusP
  rw [e1]
  generalize hs : 64 - blen (minusZ a b / 18446744073709551616) = s at *
  obtain ⟨f1, f2⟩ := shift_two (Z := minusZ a b) e2 e3
  rw [f1, f2, min_64 (by omega), show IntKind.i64.wrap (64 - s) = 64 - s by (simp only [wi64]; omega), min_64 (by omega), shr_lit (Int.le_of_lt (two_pos _)), or_shift (by omega) e4 (by omega) (by omega) hp e3, wu64,
    show IntKind.i64.wrap (a.e - s) = a.e - s by (simp only [wi64]; omega)]
theorem minus_B_zero (ha : a.Fin) (z0 : 0 < minusZ a b) (z1 : minusZ a b < 340282366920938463463374607431768211456) (hB : minusZ a b / 18446744073709551616 ≠ 0) (hp : ¬ 0 < 64 - blen (minusZ a b / 18446744073709551616)) :
    minusP a b up = Num.grow a.neg (minusZ a b / 18446744073709551616) a.e (plusC a b || decide (minusZ a b % 18446744073709551616 ≠ 0)) (up != a.neg) := by
  obtain ⟨e1, e2, e3, e4⟩ := minus_high z0 z1 hB
  have e0 : 128 - blen (minusZ a b) = 0 := by omega
  unfold minusP
  rw [e0]
  simp
end
end Go.Proofs.Ytincnfjihffllaa.Ev

/- Contracts: differences. Printed by gen.py out of C15.spec. -/
namespace Go.Proofs.Ytincnfjihffllaa.Ev
open Go Go.Proofs
set_option linter.unusedVariables false
set_option linter.unusedSimpArgs false

set_option maxHeartbeats 4000000 in
theorem c_minus (a : Num) (b : Num) (up : Bool) (ha : a.Fin) (hb : b.Fin) (hk : b.e ≤ a.e) (hgt : b.e < a.e ∨ b.m < a.m) : ∃ t : Num, t = minusP a b up ∧ CallsA Try.prog 174 [a.av, b.av, .bool (.s up)] (t.av) := by
  refine ⟨_, rfl, ?_⟩
  generalize hr : minusP a b up = r
  refine callsA_of hG hm Try.func174 (by kernel_rfl) ?_
  intro E hE lp hl
  cbv
  repeat' (first
    | (apply E_br_t hE; assumption; cbv)
    | (apply E_br_f hE; assumption; cbv)
    | (refine E_br hE (fun h => ?_) (fun h => ?_) <;> cbv)
    | (refine E_nm hE (fun v hv => ?_); cbv)
    | (apply E_callX hE (c_lower _ _ ?_ ?_ ?_ ?_); (case hf => rfl); (case hc => (cbv <;> trivial)); (case hle => (repeat' (first | exact u_nil | apply u_cons | apply u2_agg | exact u2_int | exact u1_int | exact u2_bool | exact u1_bool | exact u2_sli | exact u1_sli | exact u2_s0 | exact u1_s0))); all_goals (first | (intro t ht; cbv) | (subst hE; (try simp only [realE, cmp_eql, cmp_neq, cmp_lss, cmp_leq, cmp_gtr, cmp_geq, intBinR, decide_eq_true_eq, decide_eq_false_iff_not, SI.val, SB.val, Num.eta, Iv.eta] at *); (have := ha.lo; have := ha.hi; have := hb.lo; have := hb.hi; have := ha.elo; have := ha.ehi; have := hb.elo; have := hb.ehi; first | omega | exact (show 0 < b.m by omega) | exact (show b.m < 18446744073709551616 by omega) | exact (show 0 ≤ IntKind.i64.wrap (a.e - b.e) by (simp only [wi64]; omega)) | exact (show IntKind.i64.wrap (a.e - b.e) < 9223372036854775808 by (simp only [wi64]; omega)) | exact (show 0 ≤ a.m by omega) | (subst_vars; first | exact lowerP_nn _ _ (by omega) | exact lowerP_lo _ _ | exact lowerP_lo2 _ _ | exact lowerP_hi2 _ _ (by omega) (by omega) | (dsimp only; first | exact Int.emod_nonneg _ (by decide) | exact Int.emod_lt_of_pos _ (by decide) | exact borrow_nn _ | exact borrow_le _))))))
    | (apply E_pcallX hE (c_lower _ _ ?_ ?_ ?_ ?_); (case hm => rfl); (case hle => (repeat' (first | exact u_nil | apply u_cons | apply u2_agg | exact u2_int | exact u1_int | exact u2_bool | exact u1_bool | exact u2_sli | exact u1_sli | exact u2_s0 | exact u1_s0))); all_goals (first | (intro t ht; cbv) | (subst hE; (try simp only [realE, cmp_eql, cmp_neq, cmp_lss, cmp_leq, cmp_gtr, cmp_geq, intBinR, decide_eq_true_eq, decide_eq_false_iff_not, SI.val, SB.val, Num.eta, Iv.eta] at *); (have := ha.lo; have := ha.hi; have := hb.lo; have := hb.hi; have := ha.elo; have := ha.ehi; have := hb.elo; have := hb.ehi; first | omega | exact (show 0 < b.m by omega) | exact (show b.m < 18446744073709551616 by omega) | exact (show 0 ≤ IntKind.i64.wrap (a.e - b.e) by (simp only [wi64]; omega)) | exact (show IntKind.i64.wrap (a.e - b.e) < 9223372036854775808 by (simp only [wi64]; omega)) | exact (show 0 ≤ a.m by omega) | (subst_vars; first | exact lowerP_nn _ _ (by omega) | exact lowerP_lo _ _ | exact lowerP_lo2 _ _ | exact lowerP_hi2 _ _ (by omega) (by omega) | (dsimp only; first | exact Int.emod_nonneg _ (by decide) | exact Int.emod_lt_of_pos _ (by decide) | exact borrow_nn _ | exact borrow_le _))))))
    | (apply E_callX hE (c_Sub64 _ _ _ ?_ ?_ ?_ ?_ ?_); (case hf => rfl); (case hc => (cbv <;> trivial)); (case hle => (repeat' (first | exact u_nil | apply u_cons | apply u2_agg | exact u2_int | exact u1_int | exact u2_bool | exact u1_bool | exact u2_sli | exact u1_sli | exact u2_s0 | exact u1_s0))); all_goals (first | (intro t ht; cbv) | (subst hE; (try simp only [realE, cmp_eql, cmp_neq, cmp_lss, cmp_leq, cmp_gtr, cmp_geq, intBinR, decide_eq_true_eq, decide_eq_false_iff_not, SI.val, SB.val, Num.eta, Iv.eta] at *); (have := ha.lo; have := ha.hi; have := hb.lo; have := hb.hi; have := ha.elo; have := ha.ehi; have := hb.elo; have := hb.ehi; first | omega | exact (show 0 < b.m by omega) | exact (show b.m < 18446744073709551616 by omega) | exact (show 0 ≤ IntKind.i64.wrap (a.e - b.e) by (simp only [wi64]; omega)) | exact (show IntKind.i64.wrap (a.e - b.e) < 9223372036854775808 by (simp only [wi64]; omega)) | exact (show 0 ≤ a.m by omega) | (subst_vars; first | exact lowerP_nn _ _ (by omega) | exact lowerP_lo _ _ | exact lowerP_lo2 _ _ | exact lowerP_hi2 _ _ (by omega) (by omega) | (dsimp only; first | exact Int.emod_nonneg _ (by decide) | exact Int.emod_lt_of_pos _ (by decide) | exact borrow_nn _ | exact borrow_le _))))))
    | (apply E_pcallX hE (c_Sub64 _ _ _ ?_ ?_ ?_ ?_ ?_); (case hm => rfl); (case hle => (repeat' (first | exact u_nil | apply u_cons | apply u2_agg | exact u2_int | exact u1_int | exact u2_bool | exact u1_bool | exact u2_sli | exact u1_sli | exact u2_s0 | exact u1_s0))); all_goals (first | (intro t ht; cbv) | (subst hE; (try simp only [realE, cmp_eql, cmp_neq, cmp_lss, cmp_leq, cmp_gtr, cmp_geq, intBinR, decide_eq_true_eq, decide_eq_false_iff_not, SI.val, SB.val, Num.eta, Iv.eta] at *); (have := ha.lo; have := ha.hi; have := hb.lo; have := hb.hi; have := ha.elo; have := ha.ehi; have := hb.elo; have := hb.ehi; first | omega | exact (show 0 < b.m by omega) | exact (show b.m < 18446744073709551616 by omega) | exact (show 0 ≤ IntKind.i64.wrap (a.e - b.e) by (simp only [wi64]; omega)) | exact (show IntKind.i64.wrap (a.e - b.e) < 9223372036854775808 by (simp only [wi64]; omega)) | exact (show 0 ≤ a.m by omega) | (subst_vars; first | exact lowerP_nn _ _ (by omega) | exact lowerP_lo _ _ | exact lowerP_lo2 _ _ | exact lowerP_hi2 _ _ (by omega) (by omega) | (dsimp only; first | exact Int.emod_nonneg _ (by decide) | exact Int.emod_lt_of_pos _ (by decide) | exact borrow_nn _ | exact borrow_le _))))))
    | (apply E_callX hE (c_LZ64 _ ?_ ?_); (case hf => rfl); (case hc => (cbv <;> trivial)); (case hle => (repeat' (first | exact u_nil | apply u_cons | apply u2_agg | exact u2_int | exact u1_int | exact u2_bool | exact u1_bool | exact u2_sli | exact u1_sli | exact u2_s0 | exact u1_s0))); all_goals (first | (intro t ht; cbv) | (subst hE; (try simp only [realE, cmp_eql, cmp_neq, cmp_lss, cmp_leq, cmp_gtr, cmp_geq, intBinR, decide_eq_true_eq, decide_eq_false_iff_not, SI.val, SB.val, Num.eta, Iv.eta] at *); (have := ha.lo; have := ha.hi; have := hb.lo; have := hb.hi; have := ha.elo; have := ha.ehi; have := hb.elo; have := hb.ehi; first | omega | exact (show 0 < b.m by omega) | exact (show b.m < 18446744073709551616 by omega) | exact (show 0 ≤ IntKind.i64.wrap (a.e - b.e) by (simp only [wi64]; omega)) | exact (show IntKind.i64.wrap (a.e - b.e) < 9223372036854775808 by (simp only [wi64]; omega)) | exact (show 0 ≤ a.m by omega) | (subst_vars; first | exact lowerP_nn _ _ (by omega) | exact lowerP_lo _ _ | exact lowerP_lo2 _ _ | exact lowerP_hi2 _ _ (by omega) (by omega) | (dsimp only; first | exact Int.emod_nonneg _ (by decide) | exact Int.emod_lt_of_pos _ (by decide) | exact borrow_nn _ | exact borrow_le _))))))
    | (apply E_pcallX hE (c_LZ64 _ ?_ ?_); (case hm => rfl); (case hle => (repeat' (first | exact u_nil | apply u_cons | apply u2_agg | exact u2_int | exact u1_int | exact u2_bool | exact u1_bool | exact u2_sli | exact u1_sli | exact u2_s0 | exact u1_s0))); all_goals (first | (intro t ht; cbv) | (subst hE; (try simp only [realE, cmp_eql, cmp_neq, cmp_lss, cmp_leq, cmp_gtr, cmp_geq, intBinR, decide_eq_true_eq, decide_eq_false_iff_not, SI.val, SB.val, Num.eta, Iv.eta] at *); (have := ha.lo; have := ha.hi; have := hb.lo; have := hb.hi; have := ha.elo; have := ha.ehi; have := hb.elo; have := hb.ehi; first | omega | exact (show 0 < b.m by omega) | exact (show b.m < 18446744073709551616 by omega) | exact (show 0 ≤ IntKind.i64.wrap (a.e - b.e) by (simp only [wi64]; omega)) | exact (show IntKind.i64.wrap (a.e - b.e) < 9223372036854775808 by (simp only [wi64]; omega)) | exact (show 0 ≤ a.m by omega) | (subst_vars; first | exact lowerP_nn _ _ (by omega) | exact lowerP_lo _ _ | exact lowerP_lo2 _ _ | exact lowerP_hi2 _ _ (by omega) (by omega) | (dsimp only; first | exact Int.emod_nonneg _ (by decide) | exact Int.emod_lt_of_pos _ (by decide) | exact borrow_nn _ | exact borrow_le _))))))
    | (apply E_callX hE (c_Grow _ _ _ _ _); (case hf => rfl); (case hc => (cbv <;> trivial)); (case hle => (repeat' (first | exact u_nil | apply u_cons | apply u2_agg | exact u2_int | exact u1_int | exact u2_bool | exact u1_bool | exact u2_sli | exact u1_sli | exact u2_s0 | exact u1_s0))); intro t ht; cbv)
    | (apply E_pcallX hE (c_Grow _ _ _ _ _); (case hm => rfl); (case hle => (repeat' (first | exact u_nil | apply u_cons | apply u2_agg | exact u2_int | exact u1_int | exact u2_bool | exact u1_bool | exact u2_sli | exact u1_sli | exact u2_s0 | exact u1_s0))); intro t ht; cbv)
    | fail)
  all_goals (subst hE; subst hr)
  all_goals (try simp only [realE, cmp_eql, cmp_neq, cmp_lss, cmp_leq, cmp_gtr, cmp_geq, intBinR, decide_eq_true_eq, decide_eq_false_iff_not, SI.val, SB.val, Num.eta, Iv.eta] at *)
  all_goals (try refine Num.fin (t := t) ?_)
  all_goals (subst_vars; dsimp only at *)
  all_goals (have hw : IntKind.i64.wrap (a.e - b.e) = a.e - b.e := by (have := ha.elo; have := ha.ehi; have := hb.elo; have := hb.ehi; rw [wi64]; omega))
  all_goals (simp only [hw] at *)
  all_goals (first
    | (have P := minus_parts (D := lowerP b.m (a.e - b.e)) (c := 1) ha hb hk hgt rfl (by rw [if_pos ‹(lowerP b.m (a.e - b.e)).cut = true›]) rfl rfl rfl)
    | (have P := minus_parts (D := lowerP b.m (a.e - b.e)) (c := 0) ha hb hk hgt rfl (by rw [if_neg (by rw [‹(lowerP b.m (a.e - b.e)).cut = false›]; decide)]) rfl rfl rfl))
  all_goals (obtain ⟨z0, z1, ehi, elo, ecut⟩ := P; simp only [ehi, elo, ecut] at *; clear ehi elo)
  all_goals (have bn := blen_nonneg (minusZ a b % 18446744073709551616); have bn2 := blen_nonneg (minusZ a b / 18446744073709551616))
  all_goals (try (exfalso; (try simp only [wi64] at *); omega))
  all_goals (try (exfalso; exact Bool.noConfusion (‹plusC a b = true›.symm.trans ‹plusC a b = false›)))
  all_goals first
    | rw [minus_A_zero ha z0 (by omega) (by omega)]
    | rw [minus_B_zero ha z0 z1 (by omega) (by omega)]
    | rw [minus_B_pos ha z0 z1 (by omega) (by omega)]
    | rw [minus_A_pos ha z0 (by omega)]
  all_goals first
    | (rw [‹plusC a b = true›]; rfl)
    | (rw [‹plusC a b = false›]; rfl)
    | trace_state

end Go.Proofs.Ytincnfjihffllaa.Ev

/- The sum of two numbers: plain Lean. -/
namespace Go.Proofs.Ytincnfjihffllaa.Ev
open Go

def Num.addS (a b : Num) (up : Bool) : Num := if a.neg = b.neg then plusP a b up else if a.e = b.e ∧ a.m = b.m then Num.zero else minusP a b up
def Num.addF (a b : Num) (up : Bool) : Num := if a.e < b.e ∨ (a.e = b.e ∧ a.m < b.m) then Num.addS b a up else Num.addS a b up
def Num.add (a b : Num) (up : Bool) : Num :=
  if a.fair.kind = 2 ∧ b.fair.kind = 2 ∧ a.fair.neg ≠ b.fair.neg then Num.inf (!up)
  else if a.fair.kind = 2 ∨ b.fair.kind = 0 then a.fair else if b.fair.kind = 2 ∨ a.fair.kind = 0 then b.fair else Num.addF a.fair b.fair up
end Go.Proofs.Ytincnfjihffllaa.Ev

/- Contracts: the sum of two numbers. Printed by gen.py out of C16.spec. -/
namespace Go.Proofs.Ytincnfjihffllaa.Ev
open Go Go.Proofs
set_option linter.unusedVariables false
set_option linter.unusedSimpArgs false

set_option maxHeartbeats 4000000 in
theorem c_arAdd (a : Num) (b : Num) (up : Bool) (ha : a.ok) (hb : b.ok) : ∃ t : Num, t = Num.add a b up ∧ CallsA Try.prog 121 [a.av, b.av, .bool (.s up)] (t.av) := by
  refine ⟨_, rfl, ?_⟩
  generalize hr : Num.add a b up = r
  refine callsA_of hG hm Try.func121 (by kernel_rfl) ?_
  intro E hE lp hl
  cbv
  repeat' (first
    | (apply E_br_t hE; assumption; cbv)
    | (apply E_br_f hE; assumption; cbv)
    | (refine E_br hE (fun h => ?_) (fun h => ?_) <;> cbv)
    | (refine E_nm hE (fun v hv => ?_); cbv)
    | (apply E_callX hE (c_arFair ⟨_, _, _, _⟩); (case hf => rfl); (case hc => (cbv <;> trivial)); (case hle => (repeat' (first | exact u_nil | apply u_cons | apply u2_agg | exact u2_int | exact u1_int | exact u2_bool | exact u1_bool | exact u2_sli | exact u1_sli | exact u2_s0 | exact u1_s0))); intro t ht; cbv)
    | (apply E_pcallX hE (c_arFair ⟨_, _, _, _⟩); (case hm => rfl); (case hle => (repeat' (first | exact u_nil | apply u_cons | apply u2_agg | exact u2_int | exact u1_int | exact u2_bool | exact u1_bool | exact u2_sli | exact u1_sli | exact u2_s0 | exact u1_s0))); intro t ht; cbv)
    | (apply E_callX hE (c_Inf _); (case hf => rfl); (case hc => (cbv <;> trivial)); (case hle => (repeat' (first | exact u_nil | apply u_cons | apply u2_agg | exact u2_int | exact u1_int | exact u2_bool | exact u1_bool | exact u2_sli | exact u1_sli | exact u2_s0 | exact u1_s0))); intro t ht; cbv)
    | (apply E_pcallX hE (c_Inf _); (case hm => rfl); (case hle => (repeat' (first | exact u_nil | apply u_cons | apply u2_agg | exact u2_int | exact u1_int | exact u2_bool | exact u1_bool | exact u2_sli | exact u1_sli | exact u2_s0 | exact u1_s0))); intro t ht; cbv)
    | (apply E_callX hE (c_plus ⟨_, _, _, _⟩ ⟨_, _, _, _⟩ _ ?_ ?_ ?_); (case hf => rfl); (case hc => (cbv <;> trivial)); (case hle => (repeat' (first | exact u_nil | apply u_cons | apply u2_agg | exact u2_int | exact u1_int | exact u2_bool | exact u1_bool | exact u2_sli | exact u1_sli | exact u2_s0 | exact u1_s0))); all_goals (first | (intro t ht; cbv) | (subst hE; (try simp only [realE, cmp_eql, cmp_neq, cmp_lss, cmp_leq, cmp_gtr, cmp_geq, intBinR, decide_eq_true_eq, decide_eq_false_iff_not, SI.val, SB.val, Num.eta, Iv.eta] at *); (subst_vars; have fa := Num.fin_of (n := a) ‹_› ‹_›; have fb := Num.fin_of (n := b) ‹_› ‹_›; have FA : a.fair.Fin := ⟨fa.1, fa.2.1, (Num.fair_ok ha).2, fa.2.2.1, fa.2.2.2⟩; have FB : b.fair.Fin := ⟨fb.1, fb.2.1, (Num.fair_ok hb).2, fb.2.2.1, fb.2.2.2⟩; first | exact FA | exact FB | exact (show b.fair.e ≤ a.fair.e by omega) | exact (show a.fair.e ≤ b.fair.e by omega) | exact (show b.fair.e < a.fair.e ∨ b.fair.m < a.fair.m by omega) | exact (show a.fair.e < b.fair.e ∨ a.fair.m < b.fair.m by omega)))))
    | (apply E_pcallX hE (c_plus ⟨_, _, _, _⟩ ⟨_, _, _, _⟩ _ ?_ ?_ ?_); (case hm => rfl); (case hle => (repeat' (first | exact u_nil | apply u_cons | apply u2_agg | exact u2_int | exact u1_int | exact u2_bool | exact u1_bool | exact u2_sli | exact u1_sli | exact u2_s0 | exact u1_s0))); all_goals (first | (intro t ht; cbv) | (subst hE; (try simp only [realE, cmp_eql, cmp_neq, cmp_lss, cmp_leq, cmp_gtr, cmp_geq, intBinR, decide_eq_true_eq, decide_eq_false_iff_not, SI.val, SB.val, Num.eta, Iv.eta] at *); (subst_vars; have fa := Num.fin_of (n := a) ‹_› ‹_›; have fb := Num.fin_of (n := b) ‹_› ‹_›; have FA : a.fair.Fin := ⟨fa.1, fa.2.1, (Num.fair_ok ha).2, fa.2.2.1, fa.2.2.2⟩; have FB : b.fair.Fin := ⟨fb.1, fb.2.1, (Num.fair_ok hb).2, fb.2.2.1, fb.2.2.2⟩; first | exact FA | exact FB | exact (show b.fair.e ≤ a.fair.e by omega) | exact (show a.fair.e ≤ b.fair.e by omega) | exact (show b.fair.e < a.fair.e ∨ b.fair.m < a.fair.m by omega) | exact (show a.fair.e < b.fair.e ∨ a.fair.m < b.fair.m by omega)))))
    | (apply E_callX hE (c_minus ⟨_, _, _, _⟩ ⟨_, _, _, _⟩ _ ?_ ?_ ?_ ?_); (case hf => rfl); (case hc => (cbv <;> trivial)); (case hle => (repeat' (first | exact u_nil | apply u_cons | apply u2_agg | exact u2_int | exact u1_int | exact u2_bool | exact u1_bool | exact u2_sli | exact u1_sli | exact u2_s0 | exact u1_s0))); all_goals (first | (intro t ht; cbv) | (subst hE; (try simp only [realE, cmp_eql, cmp_neq, cmp_lss, cmp_leq, cmp_gtr, cmp_geq, intBinR, decide_eq_true_eq, decide_eq_false_iff_not, SI.val, SB.val, Num.eta, Iv.eta] at *); (subst_vars; have fa := Num.fin_of (n := a) ‹_› ‹_›; have fb := Num.fin_of (n := b) ‹_› ‹_›; have FA : a.fair.Fin := ⟨fa.1, fa.2.1, (Num.fair_ok ha).2, fa.2.2.1, fa.2.2.2⟩; have FB : b.fair.Fin := ⟨fb.1, fb.2.1, (Num.fair_ok hb).2, fb.2.2.1, fb.2.2.2⟩; first | exact FA | exact FB | exact (show b.fair.e ≤ a.fair.e by omega) | exact (show a.fair.e ≤ b.fair.e by omega) | exact (show b.fair.e < a.fair.e ∨ b.fair.m < a.fair.m by omega) | exact (show a.fair.e < b.fair.e ∨ a.fair.m < b.fair.m by omega)))))
    | (apply E_pcallX hE (c_minus ⟨_, _, _, _⟩ ⟨_, _, _, _⟩ _ ?_ ?_ ?_ ?_); (case hm => rfl); (case hle => (repeat' (first | exact u_nil | apply u_cons | apply u2_agg | exact u2_int | exact u1_int | exact u2_bool | exact u1_bool | exact u2_sli | exact u1_sli | exact u2_s0 | exact u1_s0))); all_goals (first | (intro t ht; cbv) | (subst hE; (try simp only [realE, cmp_eql, cmp_neq, cmp_lss, cmp_leq, cmp_gtr, cmp_geq, intBinR, decide_eq_true_eq, decide_eq_false_iff_not, SI.val, SB.val, Num.eta, Iv.eta] at *); (subst_vars; have fa := Num.fin_of (n := a) ‹_› ‹_›; have fb := Num.fin_of (n := b) ‹_› ‹_›; have FA : a.fair.Fin := ⟨fa.1, fa.2.1, (Num.fair_ok ha).2, fa.2.2.1, fa.2.2.2⟩; have FB : b.fair.Fin := ⟨fb.1, fb.2.1, (Num.fair_ok hb).2, fb.2.2.1, fb.2.2.2⟩; first | exact FA | exact FB | exact (show b.fair.e ≤ a.fair.e by omega) | exact (show a.fair.e ≤ b.fair.e by omega) | exact (show b.fair.e < a.fair.e ∨ b.fair.m < a.fair.m by omega) | exact (show a.fair.e < b.fair.e ∨ a.fair.m < b.fair.m by omega)))))
    | fail)
  all_goals (subst hE; subst hr)
  all_goals (try simp only [realE, cmp_eql, cmp_neq, cmp_lss, cmp_leq, cmp_gtr, cmp_geq, intBinR, decide_eq_true_eq, decide_eq_false_iff_not, SI.val, SB.val, Num.eta, Iv.eta] at *)
  all_goals subst_vars
  all_goals (try (exfalso; omega))
  all_goals (refine Num.fin (t := ⟨_, _, _, _⟩) ?_)
  all_goals (unfold Num.add Num.addF Num.addS)
  all_goals ((repeat' split) <;> first | rfl | (exfalso; omega) | (exfalso; simp_all; done) | (exfalso; simp_all; omega))

end Go.Proofs.Ytincnfjihffllaa.Ev

/- The sum of intervals: plain Lean. -/
namespace Go.Proofs.Ytincnfjihffllaa.Ev
open Go

theorem plusP_ok {a b : Num} (ha : a.Fin) (hb : b.Fin) (up : Bool) : (plusP a b up).ok := by
  obtain ⟨n, _, _, _, l⟩ := plus_parts ha hb rfl
  unfold plusP
  split <;> exact Num.grow_ok (by omega) (by omega)
theorem minusP_ok {a b : Num} (ha : a.Fin) (hb : b.Fin) (hk : b.e ≤ a.e) (hgt : b.e < a.e ∨ b.m < a.m) (up : Bool) : (minusP a b up).ok := by
  obtain ⟨z0, z1, _, _, _⟩ := minus_parts ha hb hk hgt rfl rfl rfl rfl rfl
  unfold minusP
  by_cases h : minusZ a b / 18446744073709551616 = 0
  · obtain ⟨_, e2, _, _, e5⟩ := minus_low z0 h
    rw [e2]
    exact Num.grow_ok (Int.mul_nonneg (by omega) (Int.le_of_lt (two_pos _))) e5
  · obtain ⟨e1, e2, e3, e4⟩ := minus_high z0 z1 h
    rw [e1]
    have q := two_pos (64 - blen (minusZ a b / 18446744073709551616)).toNat
    refine Num.grow_ok (Int.ediv_nonneg (Int.mul_nonneg (by omega) (by omega)) (by decide)) ?_
    generalize hs : 64 - blen (minusZ a b / 18446744073709551616) = s at *
    have e := two_64 (k := s) e2 (by omega)
    obtain ⟨f1, _⟩ := shift_two (Z := minusZ a b) e2 e3
    have q' := two_pos (64 - s).toNat
    have m1 : minusZ a b / 18446744073709551616 * 2 ^ s.toNat ≤ (2 ^ (64 - s).toNat - 1) * 2 ^ s.toNat := Int.mul_le_mul_of_nonneg_right (by omega) (by omega)
    have m2 : (2 ^ (64 - s).toNat - 1) * (2 : Int) ^ s.toNat = 18446744073709551616 - 2 ^ s.toNat := by rw [e]; grind
    have d1 : minusZ a b % 18446744073709551616 / 2 ^ (64 - s).toNat < 2 ^ s.toNat := by
      rw [Int.ediv_lt_iff_lt_mul q', Int.mul_comm, ← e]; omega
    rw [f1]; omega
theorem Num.addS_ok {a b : Num} (ha : a.Fin) (hb : b.Fin) (hk : b.e < a.e ∨ (b.e = a.e ∧ b.m ≤ a.m)) (up : Bool) : (Num.addS a b up).ok := by
  unfold Num.addS
  split
  · exact plusP_ok ha hb up
  · split
    · exact Num.zero_ok
    · exact minusP_ok ha hb (by omega) (by omega) up
theorem Num.add_ok {a b : Num} (ha : a.ok) (hb : b.ok) (up : Bool) : (Num.add a b up).ok := by
  unfold Num.add
  split
  · exact Num.inf_ok _
  · split
    · exact Num.fair_ok ha
    · split
      · exact Num.fair_ok hb
      · have fa := Num.fin_of (n := a) (by omega) (by omega)
        have fb := Num.fin_of (n := b) (by omega) (by omega)
        have FA : a.fair.Fin := ⟨fa.1, fa.2.1, (Num.fair_ok ha).2, fa.2.2.1, fa.2.2.2⟩
        have FB : b.fair.Fin := ⟨fb.1, fb.2.1, (Num.fair_ok hb).2, fb.2.2.1, fb.2.2.2⟩
        unfold Num.addF
        split
        · exact Num.addS_ok FB FA (by omega) up
        · exact Num.addS_ok FA FB (by omega) up

def Iv.addStep (p : Num × Num) (x : Iv) : Num × Num := (Num.add p.1 x.lo false, Num.add p.2 x.hi true)
def Iv.addEnds : List Iv → Num × Num
  | [] => (Num.zero, Num.zero)
  | x :: r => r.foldl Iv.addStep (x.lo, x.hi)
def Iv.addTo (l : List Iv) (i : Int) : Num × Num := Iv.addEnds (l.take i.toNat)
def Iv.add (l : List Iv) : Iv := if Iv.anyBad l then Iv.none else Iv.make (Iv.addEnds l).1 (Iv.addEnds l).2
theorem Iv.addTo_zero (l : List Iv) : Iv.addTo l 0 = (Num.zero, Num.zero) := rfl
theorem Iv.addTo_all (l : List Iv) : Iv.addTo l l.length = Iv.addEnds l := by simp [Iv.addTo]
theorem Iv.addTo_succ (l : List Iv) {i : Int} (h0 : 0 ≤ i) (h1 : i < l.length) :
    Iv.addTo l (i + 1) = if i = 0 then ((l.getD i.toNat Iv.none).lo, (l.getD i.toNat Iv.none).hi) else Iv.addStep (Iv.addTo l i) (l.getD i.toNat Iv.none) := by
  cases l with
  | nil => simp at h1; omega
  | cons x r =>
    by_cases hi : i = 0
    · subst hi; rfl
    · rw [if_neg hi]
      unfold Iv.addTo
      obtain ⟨k, hk⟩ : ∃ k : Nat, i.toNat = k + 1 := ⟨i.toNat - 1, by omega⟩
      have hl : k < r.length := by simp at h1; omega
      rw [show (i + 1).toNat = k + 1 + 1 by omega, hk, List.take_succ_cons, List.take_succ_cons]
      show (r.take (k + 1)).foldl _ _ = Iv.addStep ((r.take k).foldl _ _) _
      rw [List.take_add_one, List.getElem?_eq_getElem hl, Option.toList_some, List.foldl_append]
      simp [List.getD, hl]
theorem Iv.addEnds_ok {l : List Iv} (h : ∀ x ∈ l, x.lo.ok ∧ x.hi.ok) : (Iv.addEnds l).1.ok ∧ (Iv.addEnds l).2.ok := by
  have go : ∀ (r : List Iv) (p : Num × Num), (∀ x ∈ r, x.lo.ok ∧ x.hi.ok) → p.1.ok ∧ p.2.ok → (r.foldl Iv.addStep p).1.ok ∧ (r.foldl Iv.addStep p).2.ok := by
    intro r
    induction r with
    | nil => intro p _ hp; exact hp
    | cons x r ih =>
      intro p hr hp
      have hx := hr x (List.mem_cons_self ..)
      exact ih _ (fun y hy => hr y (List.mem_cons_of_mem _ hy)) ⟨Num.add_ok hp.1 hx.1 false, Num.add_ok hp.2 hx.2 true⟩
  cases l with
  | nil => exact ⟨Num.zero_ok, Num.zero_ok⟩
  | cons x r => exact go r _ (fun y hy => h y (List.mem_cons_of_mem _ hy)) (h x (List.mem_cons_self ..))
end Go.Proofs.Ytincnfjihffllaa.Ev

/- Contracts: the sum of intervals. -/
namespace Go.Proofs.Ytincnfjihffllaa.Ev
open Go Go.Proofs
set_option linter.unusedVariables false
set_option linter.unusedSimpArgs false

def addS (l : List Iv) (n : Int) (z : Iv) : Option (Int × Num × Num) → St
  | none => ⟨[(12, .int .i64 (.s 0)), (11, .int .i64 (.s n)), (10, .slc 9 (.s n) (fun i => Iv.cells (l.getD i z))), (4, .ptr 2 4 (.l 0) 0), (3, .ptr 1 4 (.l 0) 0), (2, .ptr 0 9 (.l 0) 0)],
      [.rows true 9 [.bool (.l false), .int .i64 (.l 0), .bool (.l false), .int .u64 (.l 0), .int .i64 (.l 0), .int .i64 (.l 0), .bool (.l false), .int .u64 (.l 0), .int .i64 (.l 0)]
        [[.bool (.l false), .int .i64 (.l 0), .bool (.l false), .int .u64 (.l 0), .int .i64 (.l 0), .int .i64 (.l 0), .bool (.l false), .int .u64 (.l 0), .int .i64 (.l 0)]],
       .rows true 4 [.int .i64 (.l 0), .bool (.l false), .int .u64 (.l 0), .int .i64 (.l 0)] [[.int .i64 (.l 0), .bool (.l false), .int .u64 (.l 0), .int .i64 (.l 0)]],
       .rows true 4 [.int .i64 (.l 0), .bool (.l false), .int .u64 (.l 0), .int .i64 (.l 0)] [[.int .i64 (.l 0), .bool (.l false), .int .u64 (.l 0), .int .i64 (.l 0)]]]⟩
  | some p => ⟨[(12, .int .i64 (.s p.1)), (11, .int .i64 (.s n)), (10, .slc 9 (.s n) (fun i => Iv.cells (l.getD i z))), (4, .ptr 2 4 (.l 0) 0), (3, .ptr 1 4 (.l 0) 0), (2, .ptr 0 9 (.l 0) 0)],
      [.rows true 9 [.bool (.l false), .int .i64 (.l 0), .bool (.l false), .int .u64 (.l 0), .int .i64 (.l 0), .int .i64 (.l 0), .bool (.l false), .int .u64 (.l 0), .int .i64 (.l 0)]
        [[.bool (.l false), .int .i64 (.l 0), .bool (.l false), .int .u64 (.l 0), .int .i64 (.l 0), .int .i64 (.l 0), .bool (.l false), .int .u64 (.l 0), .int .i64 (.l 0)]],
       .rows true 4 [.int .i64 (.l 0), .bool (.l false), .int .u64 (.l 0), .int .i64 (.l 0)] [Num.cells p.2.1],
       .rows true 4 [.int .i64 (.l 0), .bool (.l false), .int .u64 (.l 0), .int .i64 (.l 0)] [Num.cells p.2.2]]⟩
set_option maxHeartbeats 4000000 in
theorem c_opAdd (l : List Iv) (n : Int) (hn : n = l.length) (hb : n < 9223372036854775808) (hok : ∀ x ∈ l, x.lo.ok ∧ x.hi.ok) :
    ∃ t, t = Iv.add l ∧ CallsA Try.prog 44 [.slc 9 (.s n) (fun i => Iv.cells (l.getD i Iv.none))] t.av := by
  refine ⟨_, rfl, ?_⟩
  generalize hr : Iv.add l = r
  refine callsA_of hG hm Try.func44 (by kernel_rfl) ?_
  intro E hE lp hl
  cbv
  (apply E_callX hE (c_none l n hn hb); (case hf => rfl); (case hc => (cbv <;> trivial)); (case hle => exact ⟨u2_slc', trivial⟩); intro t ht; cbv)
  refine E_br hE (fun h => ?_) (fun h => ?_)
  · cbv
    (apply E_callX hE c_ivNone; (case hf => rfl); (case hc => (cbv <;> trivial)); (case hle => exact trivial); intro t' ht'; cbv)
    have e : t' = r := by rw [← hr, ht']; unfold Iv.add; rw [if_pos (by rw [← ht]; exact h)]
    subst e
    exact ⟨rfl, rfl, rfl, rfl, rfl, rfl, rfl, rfl, rfl, trivial⟩
  have hbad : Iv.anyBad l = false := by rw [← ht]; exact h
  obtain ⟨z, hz⟩ : ∃ z, z = Iv.none := ⟨_, rfl⟩
  rw [← hz]
  cbv
  refine E_loopW hE hG hm hl (ι := Option (Int × Num × Num)) (addS l n z)
    (fun p => match p with | none => n.toNat + 1 | some p => (n - p.1).toNat) (fun p => match p with | none => True | some p => 1 ≤ p.1 ∧ p.1 ≤ n ∧ p.2 = Iv.addTo l p.1) (fun p => by cases p <;> rfl) ⟨none, trivial, stLe rfl ?_⟩ ?_
  · repeat' (first | exact t_nil | apply t_cons | exact u2_int | exact u2_ptr | exact u2_slc')
  rintro (_ | ⟨i, lo, hi⟩) hp
  · clear hp
    cbv
    repeat' (first
      | (apply E_br_t hE; assumption; cbv)
      | (apply E_br_f hE; assumption; cbv)
      | (refine E_br hE (fun h => ?_) (fun h => ?_) <;> cbv)
      | (refine E_nm hE (fun v hv => ?_); cbv)
      | (refine E_row hE (cell := Iv.cells) (fun x ex => ?_); cbv)
      | (apply E_callX hE (c_ivMake ⟨_, _, _, _⟩ ⟨_, _, _, _⟩); (case hf => rfl); (case hc => (cbv <;> trivial)); (case hle => (repeat' (first | exact u_nil | apply u_cons | apply u2_agg | exact u2_int | exact u1_int | exact u2_bool | exact u1_bool | exact u2_sli | exact u1_sli | exact u2_s0 | exact u1_s0))); intro t ht; cbv)
      | fail)
    all_goals (try refine ⟨some (E.bin .add .i64 0 1, x.lo, x.hi), ?_, ⟨?_, ?_, ?_⟩, stLeW rfl ⟨rfl, rfl, rfl, trivial⟩ ?_⟩)
    all_goals (try (refine w_cons ?_ rfl ?_; (repeat' (first | exact w_nil | refine w_cons ?_ rfl ?_ | exact u2_int | exact u2_ptr | exact u2_slc')); done))
    all_goals (try (exfalso; subst hE; simp only [realE, cmp_lss, cmp_leq, cmp_eql, intBinR, decide_eq_true_eq, decide_eq_false_iff_not, SI.val, SB.val, Num.eta, Iv.eta] at h; omega))
    all_goals (subst hE; simp only [realE, cmp_lss, cmp_leq, cmp_eql, intBinR, decide_eq_true_eq, decide_eq_false_iff_not, SI.val, SB.val, Num.eta, Iv.eta] at *)
    all_goals (replace hn : n = (l.length : Int) := hn)
    case none.refine_2.hK =>
      have hl : l = [] := List.length_eq_zero_iff.1 (by omega)
      have e : t = r := by
        rw [← hr, ht]; unfold Iv.add
        rw [if_neg (by rw [hbad]; decide), hl]; rfl
      subst e
      exact ⟨rfl, rfl, rfl, rfl, rfl, rfl, rfl, rfl, rfl, trivial⟩
    all_goals (rw [show IntKind.i64.wrap (0 + 1) = 1 by decide])
    · omega
    · decide
    · omega
    · rw [show (1 : Int) = 0 + 1 by rfl, Iv.addTo_succ l (by omega) (by omega), if_pos rfl, ← hz, ← ex]
  · obtain ⟨h1, h2, h3⟩ := hp
    dsimp only at h1 h2 h3
    replace hn : n = (l.length : Int) := hn
    have hx : ∀ x, i < n → x = l.getD i.toNat z → x.lo.ok ∧ x.hi.ok := by
      intro x hi e
      have hl : i.toNat < l.length := by omega
      rw [e]
      have : l.getD i.toNat z = l[i.toNat] := by simp [List.getD, List.getElem?_eq_getElem hl]
      rw [this]
      exact hok _ (List.getElem_mem hl)
    have hlh : lo.ok ∧ hi.ok := by
      have := Iv.addEnds_ok (l := l.take i.toNat) (fun y hy => hok y (List.mem_of_mem_take hy))
      rw [show Iv.addEnds (l.take i.toNat) = (lo, hi) from h3.symm] at this
      exact this
    have hlt : E.cmp .lss i n = true → i < n := by intro h; subst hE; simpa only [realE, cmp_lss, decide_eq_true_eq] using h
    cbv
    repeat' (first
      | (apply E_br_t hE; assumption; cbv)
      | (apply E_br_f hE; assumption; cbv)
      | (refine E_br hE (fun h => ?_) (fun h => ?_) <;> cbv)
      | (refine E_nm hE (fun v hv => ?_); cbv)
      | (refine E_row hE (cell := Iv.cells) (fun x ex => ?_); cbv)
      | (apply E_pcallX hE (c_arAdd ⟨_, _, _, _⟩ ⟨_, _, _, _⟩ _ ?_ ?_); (case hm => rfl); (case hle => (repeat' (first | exact u_nil | apply u_cons | apply u2_agg | exact u2_int | exact u1_int | exact u2_bool | exact u1_bool | exact u2_sli | exact u1_sli | exact u2_s0 | exact u1_s0))); all_goals (first | (intro t ht; cbv) | exact hlh.1 | exact hlh.2 | (have q := hx _ (hlt ‹E.cmp .lss i n = true›) ‹_ = l.getD i.toNat z›; first | exact q.1 | exact q.2)))
      | (apply E_callX hE (c_ivMake ⟨_, _, _, _⟩ ⟨_, _, _, _⟩); (case hf => rfl); (case hc => (cbv <;> trivial)); (case hle => (repeat' (first | exact u_nil | apply u_cons | apply u2_agg | exact u2_int | exact u1_int | exact u2_bool | exact u1_bool | exact u2_sli | exact u1_sli | exact u2_s0 | exact u1_s0))); intro t ht; cbv)
      | fail)
    clear hlt
    all_goals (try (exfalso; subst hE; simp only [realE, cmp_lss, cmp_leq, cmp_eql, intBinR, decide_eq_true_eq, decide_eq_false_iff_not, SI.val, SB.val, Num.eta, Iv.eta] at h; omega))
    all_goals (try refine ⟨some (E.bin .add .i64 i 1, _, _), ?_, ⟨?_, ?_, ?_⟩, stLeW rfl ⟨rfl, rfl, rfl, trivial⟩ ?_⟩)
    all_goals (try (refine w_cons ?_ rfl ?_; (repeat' (first | exact w_nil | refine w_cons ?_ rfl ?_ | exact u2_int | exact u2_ptr | exact u2_slc')); done))
    all_goals (subst hE; simp only [realE, cmp_lss, cmp_leq, cmp_eql, intBinR, decide_eq_true_eq, decide_eq_false_iff_not, SI.val, SB.val, Num.eta, Iv.eta] at *)
    all_goals (replace hn : n = (l.length : Int) := hn)
    case some.refine_2.hK =>
      have hi' : i = (l.length : Int) := by omega
      have e : t = r := by
        rw [← hr, ht]; unfold Iv.add
        rw [if_neg (by rw [hbad]; decide), ← Iv.addTo_all, ← hi', ← h3]
      subst e
      exact ⟨rfl, rfl, rfl, rfl, rfl, rfl, rfl, rfl, rfl, trivial⟩
    all_goals (rw [wi64_succ (by omega) ‹i < n› hb])
    · omega
    · omega
    · omega
    · rw [Iv.addTo_succ l (by omega) (by omega), if_neg (by omega), ← h3, ← hz, ← ex]
      exact Prod.ext ‹_ = lo.add x.lo false› ht
end Go.Proofs.Ytincnfjihffllaa.Ev

/- Contracts: the difference of intervals. Printed by gen.py out of C18.spec. -/
namespace Go.Proofs.Ytincnfjihffllaa.Ev
open Go Go.Proofs
set_option linter.unusedVariables false
set_option linter.unusedSimpArgs false
def Iv.sub (a b : Iv) : Iv := Iv.add [a, Iv.neg b]
theorem slcG2 {a b z : Iv} : sle2 (.slc 9 (.l 2) (fun i => getRow [a.cells, b.cells] (Int.ofNat i))) (.slc 9 (.s 2) (fun i => Iv.cells ([a, b].getD i z))) := by
  refine ⟨rfl, rfl, fun i hi => ?_⟩
  match i, hi with
  | 0, _ => exact iv_cells_self
  | 1, _ => exact iv_cells_self
  | i + 2, hi => exact absurd hi (by simp [SI.val])

theorem c_opSub (a : Iv) (b : Iv) (h1 : a.lo.ok) (h2 : a.hi.ok) (h3 : b.lo.ok) (h4 : b.hi.ok) : ∃ t : Iv, t = Iv.sub a b ∧ CallsA Try.prog 46 [a.av, b.av] (t.av) := by
  refine ⟨_, rfl, ?_⟩
  generalize hr : Iv.sub a b = r
  refine callsA_of hG hm Try.func46 (by kernel_rfl) ?_
  intro E hE lp hl
  cbv
  repeat' (first
    | (refine E_br hE (fun h => ?_) (fun h => ?_) <;> cbv)
    | (refine E_nm hE (fun v hv => ?_); cbv)
    | (apply E_pcallX hE (c_opAdd [a, ⟨_, ⟨_, _, _, _⟩, ⟨_, _, _, _⟩⟩] 2 rfl (by decide) ?_); (case hm => rfl); (case hle => exact ⟨slcG2, trivial⟩); all_goals (first | (subst_vars; intro x hx; simp only [List.mem_cons, List.not_mem_nil, or_false] at hx; rcases hx with rfl | rfl <;> first | exact ⟨h1, h2⟩ | exact Iv.neg_ok h3 h4) | (intro t ht; cbv)))
    | (apply E_callX hE (c_opNeg ⟨_, ⟨_, _, _, _⟩, ⟨_, _, _, _⟩⟩); (case hf => rfl); (case hc => (cbv <;> trivial)); (case hle => (repeat' (first | exact u_nil | apply u_cons | apply u2_agg | exact u2_int | exact u1_int | exact u2_bool | exact u1_bool | exact u2_sli | exact u1_sli | exact u2_s0 | exact u1_s0))); intro t ht; cbv)
    | (apply E_pcallX hE (c_opNeg ⟨_, ⟨_, _, _, _⟩, ⟨_, _, _, _⟩⟩); (case hm => rfl); (case hle => (repeat' (first | exact u_nil | apply u_cons | apply u2_agg | exact u2_int | exact u1_int | exact u2_bool | exact u1_bool | exact u2_sli | exact u1_sli | exact u2_s0 | exact u1_s0))); intro t ht; cbv)
    | fail)
  all_goals (subst hE; subst hr)
  all_goals (try simp only [realE, cmp_eql, cmp_neq, cmp_lss, cmp_leq, cmp_gtr, cmp_geq, intBinR, decide_eq_true_eq, decide_eq_false_iff_not, SI.val, SB.val, Num.eta, Iv.eta] at *)
  all_goals (try refine Iv.fin (t := ⟨_, ⟨_, _, _, _⟩, ⟨_, _, _, _⟩⟩) ?_)
  all_goals (change t = _; subst_vars; rfl)

end Go.Proofs.Ytincnfjihffllaa.Ev

/- Whole numbers as numbers are exact: plain Lean. -/
namespace Go.Proofs.Ytincnfjihffllaa.Ev
open Go

theorem norm_64 {x : Int} (h : 0 < x) (h' : x < 18446744073709551616) : 0 ≤ 64 - blen x ∧ 64 - blen x < 64 ∧ 9223372036854775808 ≤ x * 2 ^ (64 - blen x).toNat ∧ x * 2 ^ (64 - blen x).toNat < 18446744073709551616 := by
  obtain ⟨n, n1, n2, n3⟩ := blen_pos h
  have bl := blen_le 64 (x := x) (by omega)
  have q := two_pos (64 - blen x).toNat
  refine ⟨by omega, by omega, ?_, ?_⟩
  · have g : (9223372036854775808 : Int) = 2 ^ n * 2 ^ (64 - blen x).toNat := by
      rw [← Int.pow_add, show n + (64 - blen x).toNat = 63 by omega]; rfl
    rw [g]
    exact Int.mul_le_mul_of_nonneg_right n2 (Int.le_of_lt q)
  · have g : (18446744073709551616 : Int) = 2 ^ (n + 1) * 2 ^ (64 - blen x).toNat := by
      rw [← Int.pow_add, show n + 1 + (64 - blen x).toNat = 64 by omega]; rfl
    rw [g]
    exact Int.mul_lt_mul_of_pos_right n3 q
theorem ofInt_fin {n : Int} (h : n ≠ 0) (h' : n.natAbs < 18446744073709551616) : (Num.ofInt n).Fin ∧ (Num.ofInt n).W = n.natAbs * pw 0 ∧ (Num.ofInt n).neg = decide (n < 0) := by
  obtain ⟨a1, a2, a3, a4⟩ := norm_64 (x := (n.natAbs : Int)) (by omega) (by omega)
  have e : Num.ofInt n = ⟨1, decide (n < 0), (n.natAbs : Int) * 2 ^ (64 - blen n.natAbs).toNat, -(64 - blen n.natAbs)⟩ := by
    unfold Num.ofInt
    rw [if_neg h, min_64 (by omega), show IntKind.u64.wrap ((n.natAbs : Int) * 2 ^ (64 - blen n.natAbs).toNat) = (n.natAbs : Int) * 2 ^ (64 - blen n.natAbs).toNat by (rw [wu64]; omega),
      show IntKind.i64.wrap (0 - (64 - blen n.natAbs)) = -(64 - blen n.natAbs) by (rw [wi64]; omega)]
  rw [e]
  have f : (Num.mk 1 (decide (n < 0)) ((n.natAbs : Int) * 2 ^ (64 - blen n.natAbs).toNat) (-(64 - blen n.natAbs))).Fin := ⟨rfl, a3, a4, by show -1048576 ≤ -(64 - blen n.natAbs); omega, by show -(64 - blen n.natAbs) ≤ 1048576; omega⟩
  refine ⟨f, ?_, rfl⟩
  rw [f.W]
  show (n.natAbs : Int) * 2 ^ (64 - blen n.natAbs).toNat * pw (-(64 - blen n.natAbs)) = _
  have p := pw_add (e := -(64 - blen n.natAbs)) (f := 64 - blen n.natAbs) (by omega) a1
  rw [show -(64 - blen (n.natAbs : Int)) + (64 - blen n.natAbs) = 0 by omega] at p
  rw [p]; grind
theorem ofInt_val {n : Int} (h' : n.natAbs < 18446744073709551616) : (Num.ofInt n).val = n * pw 0 := by
  by_cases h : n = 0
  · subst h; show Num.zero.val = _; rw [Num.val_zero, Int.zero_mul]
  · obtain ⟨_, w, s⟩ := ofInt_fin h h'
    unfold Num.val
    rw [w, s]
    by_cases hn : n < 0
    · rw [if_pos (by simpa using hn), show n = -(n.natAbs : Int) by omega]
      rw [show ((-(n.natAbs : Int)).natAbs : Int) = n.natAbs by omega, Int.neg_mul]
    · rw [if_neg (by simpa using hn), show (n.natAbs : Int) = n by omega]

/-- nothing is cut off, and the exponent is within the bounds -/
theorem grow_plain {neg away : Bool} {m e : Int} (h : -1048576 ≤ e) (h' : e ≤ 1048576) : Num.grow neg m e false away = ⟨1, neg, m, e⟩ := by
  unfold Num.grow Num.bound
  rw [if_neg (by simp), if_neg (by omega), if_neg (by omega)]
end Go.Proofs.Ytincnfjihffllaa.Ev

/- What a rounded number is: of all numbers on its side of the exact one the nearest. Plain Lean. -/
namespace Go.Proofs.Ytincnfjihffllaa.Ev
open Go

/-- the nearest one on a side of t / c -/
structure Best (r : Num) (up : Bool) (t c : Int) : Prop where
  may : r.may = true
  ok : r.ok
  down : up = false → r ≠ Num.inf false ∧ (r = Num.inf true ∨ r.val * c ≤ t)
  dopt : up = false → ∀ s : Num, s.may = true → s.ok → s ≠ Num.inf false → s.val * c ≤ t → s.val ≤ r.val
  uopt : up = true → ∀ s : Num, s.may = true → s.ok → s ≠ Num.inf true → t ≤ s.val * c → r.val ≤ s.val
  hi : up = true → r ≠ Num.inf true ∧ (r = Num.inf false ∨ t ≤ r.val * c)

theorem Best.side {r : Num} {up : Bool} {t c : Int} (h : Best r up t c) : Side r up t c := ⟨h.may, h.ok, h.down, h.hi⟩

theorem Best.mono {r r' : Num} {up : Bool} {t c t' c' : Int} (h : Best r up t c) (h' : Best r' up t' c') (hc : 0 < c) (hc' : 0 < c') (ht : t * c' ≤ t' * c) : r.val ≤ r'.val := by
  have key : ∀ v : Int, v * c ≤ t → v * c' ≤ t' := by
    intro v hv
    have h1 : v * c * c' ≤ t * c' := Int.mul_le_mul_of_nonneg_right hv (Int.le_of_lt hc')
    refine Int.le_of_mul_le_mul_right (a := c) ?_ hc
    have : v * c' * c = v * c * c' := by grind
    omega
  have key2 : ∀ v : Int, t' ≤ v * c' → t ≤ v * c := by
    intro v hv
    have h1 : t' * c ≤ v * c' * c := Int.mul_le_mul_of_nonneg_right hv (Int.le_of_lt hc)
    refine Int.le_of_mul_le_mul_right (a := c') ?_ hc'
    have : v * c' * c = v * c * c' := by grind
    omega
  cases up with
  | false =>
    obtain ⟨d1, d2⟩ := h.down rfl
    rcases d2 with d2 | d2
    · have := (Num.val_le h'.may h'.ok).1
      rw [d2, Num.val_inf]
      simpa using this
    · exact h'.dopt rfl r h.may h.ok d1 (key _ d2)
  | true =>
    obtain ⟨d1, d2⟩ := h'.hi rfl
    rcases d2 with d2 | d2
    · have := (Num.val_le h.may h.ok).2
      rw [d2, Num.val_inf]
      simpa using this
    · exact h.uopt rfl r' h'.may h'.ok d1 (key2 _ d2)

theorem Best.uniq {r r' : Num} {up : Bool} {t c t' c' : Int} (h : Best r up t c) (h' : Best r' up t' c') (hc : 0 < c) (hc' : 0 < c') (ht : t * c' = t' * c) : r = r' :=
  Num.val_inj h.may h'.may h.ok h'.ok (Int.le_antisymm (h.mono h' hc hc' (by omega)) (h'.mono h hc' hc (by omega)))

/-- what is a number is not rounded -/
theorem Best.exact {r s : Num} {up : Bool} {t c : Int} (h : Best r up t c) (hc : 0 < c) (ms : s.may = true) (os : s.ok) (ks : s.kind ≠ 2) (ht : s.val * c = t) : r = s := by
  have n : ∀ b, s ≠ Num.inf b := fun b g => ks (by rw [g]; rfl)
  refine h.uniq (t' := s.val) (c' := 1) ⟨ms, os, fun _ => ⟨n _, .inr (by omega)⟩, fun _ x _ _ _ hx => by omega, fun _ x _ _ _ hx => by omega, fun _ => ⟨n _, .inr (by omega)⟩⟩ hc (by decide) (by omega)

/-- down is not above up -/
theorem Best.le {r r' : Num} {t c : Int} (h : Best r false t c) (h' : Best r' true t c) (hc : 0 < c) : r.val ≤ r'.val := by
  obtain ⟨d1, d2⟩ := h.down rfl
  obtain ⟨e1, e2⟩ := h'.hi rfl
  rcases d2 with d2 | d2
  · have := (Num.val_le h'.may h'.ok).1
    rw [d2, Num.val_inf]
    simpa using this
  · rcases e2 with e2 | e2
    · have := (Num.val_le h.may h.ok).2
      rw [e2, Num.val_inf]
      simpa using this
    · exact Int.le_of_mul_le_mul_right (a := c) (by omega) hc

/-! ### the grid of numbers of 64 bits -/
theorem pw_split {e f : Int} (h : -8388608 ≤ e) (h2 : e ≤ f) : pw f = 2 ^ (f - e).toNat * pw e := by
  have := pw_add (e := e) (f := f - e) h (by omega)
  rw [show e + (f - e) = f by omega] at this
  rw [this, Int.mul_comm]

theorem grid_dn {s : Num} (ms : s.may = true) (os : s.ok) (ks : s.kind ≠ 2) {m e : Int} (hm : 9223372036854775808 ≤ m) (he : -4194303 ≤ e) (h : s.W < (m + 1) * pw e) : s.W ≤ m * pw e := by
  have p := pw_pos e
  rcases Num.may3 ms os with k | k | k
  · rw [k, Num.zero_W]; exact Int.mul_nonneg (by omega) (Int.le_of_lt p)
  · rw [k.W] at h ⊢
    have := k.hi; have := k.elo
    rcases Int.lt_or_le s.e e with g | g
    · exact Int.le_of_lt (lex_lt hm k.hi (by omega) g)
    · rw [pw_split (by omega) g, ← Int.mul_assoc] at h ⊢
      have := Int.lt_of_mul_lt_mul_right h (Int.le_of_lt p)
      exact Int.mul_le_mul_of_nonneg_right (by omega) (Int.le_of_lt p)
  · rw [k] at ks; simp [Num.inf] at ks

theorem grid_up {s : Num} (ms : s.may = true) (os : s.ok) {m e : Int} (hm : 9223372036854775808 ≤ m) (he : -4194303 ≤ e) (h : m * pw e < s.W) : (m + 1) * pw e ≤ s.W := by
  have p := pw_pos e
  have up : ∀ (N f : Int), e ≤ f → m * pw e < N * pw f → (m + 1) * pw e ≤ N * pw f := by
    intro N f hf hN
    rw [pw_split (by omega) hf, ← Int.mul_assoc] at hN ⊢
    have := Int.lt_of_mul_lt_mul_right hN (Int.le_of_lt p)
    exact Int.mul_le_mul_of_nonneg_right (by omega) (Int.le_of_lt p)
  rcases Num.may3 ms os with k | k | k
  · rw [k, Num.zero_W] at h
    have := Int.mul_nonneg (show 0 ≤ m by omega) (Int.le_of_lt p)
    omega
  · rw [k.W] at h ⊢
    have := k.hi; have := k.elo
    rcases Int.lt_or_le s.e e with g | g
    · have := lex_lt hm k.hi (by omega) g
      omega
    · exact up _ _ g h
  · rw [k, Num.inf_W] at h ⊢
    rcases Int.lt_or_le 1048640 e with g | g
    · have h1 := pw_lt (e := 1048640) (by decide) g
      have h2 : 1 * pw e ≤ m * pw e := Int.mul_le_mul_of_nonneg_right (by omega) (Int.le_of_lt p)
      have := pw_pos 1048640
      omega
    · have := up 1 1048640 g (by omega)
      omega

theorem W_top {s : Num} (ms : s.may = true) (os : s.ok) : s.W ≤ pw 1048640 := by
  rcases Num.may3 ms os with k | k | k
  · rw [k, Num.zero_W]; exact Int.le_of_lt (pw_pos _)
  · exact Int.le_of_lt k.lt.2
  · rw [k, Num.inf_W]; exact Int.le_refl _

theorem W_nn (s : Num) (ms : s.may = true) (os : s.ok) : 0 ≤ s.W := by
  rcases Num.may3 ms os with k | k | k
  · rw [k, Num.zero_W]; exact Int.le_refl _
  · exact Int.le_of_lt k.lt.1
  · rw [k, Num.inf_W]; exact Int.le_of_lt (pw_pos _)

theorem W_huge {s : Num} (ms : s.may = true) (os : s.ok) (ks : s.kind ≠ 2) : s.W ≤ 18446744073709551615 * pw 1048576 := by
  rcases Num.may3 ms os with k | k | k
  · rw [k, Num.zero_W]; exact Int.mul_nonneg (by decide) (Int.le_of_lt (pw_pos _))
  · rw [k.W]
    have h1 := k.hi; have h2 := k.lo; have h3 := k.elo; have h4 := k.ehi
    have h5 : s.m * pw s.e ≤ 18446744073709551615 * pw s.e := Int.mul_le_mul_of_nonneg_right (by omega) (Int.le_of_lt (pw_pos _))
    have h6 : 18446744073709551615 * pw s.e ≤ 18446744073709551615 * pw 1048576 := Int.mul_le_mul_of_nonneg_left (pw_mono (by omega) h4) (by decide)
    omega
  · rw [k] at ks; simp [Num.inf] at ks

theorem W_tiny {s : Num} (ms : s.may = true) (os : s.ok) (h : 0 < s.W) : 9223372036854775808 * pw (-1048576) ≤ s.W := by
  rcases Num.may3 ms os with k | k | k
  · rw [k, Num.zero_W] at h; omega
  · rw [k.W]
    have h1 := k.hi; have h2 := k.lo; have h3 := k.elo; have h4 := k.ehi
    have h5 : 9223372036854775808 * pw s.e ≤ s.m * pw s.e := Int.mul_le_mul_of_nonneg_right h2 (Int.le_of_lt (pw_pos _))
    have h6 : 9223372036854775808 * pw (-1048576) ≤ 9223372036854775808 * pw s.e := Int.mul_le_mul_of_nonneg_left (pw_mono (by decide) h3) (by decide)
    omega
  · rw [k, Num.inf_W]
    have h6 : pw (-1048576 + 63) ≤ pw 1048640 := pw_mono (by decide) (by decide)
    rw [pw_63 (by decide)] at h6
    omega

theorem mag_dn {neg cut : Bool} {m e : Int} (hm : 9223372036854775808 ≤ m) (hm' : m < 18446744073709551616) (he : -4194303 ≤ e) {s : Num} (ms : s.may = true) (os : s.ok) (ks : s.kind ≠ 2)
    (h : s.W < (m + 1) * pw e) : s.W ≤ (Num.grow neg m e cut false).W := by
  unfold Num.grow
  rw [if_neg (by simp)]
  unfold Num.bound
  by_cases h1 : 1048576 < e
  · rw [if_pos h1, if_neg (by decide)]
    exact W_huge ms os ks
  · rw [if_neg h1]
    by_cases h2 : e < -1048576
    · rw [if_pos h2, if_neg (by decide), Num.zero_W]
      rcases Int.lt_or_le 0 s.W with h3 | h3
      · have h4 := W_tiny ms os h3
        have h5 : (m + 1) * pw e ≤ 18446744073709551616 * pw e := Int.mul_le_mul_of_nonneg_right (by omega) (Int.le_of_lt (pw_pos _))
        have h6 := pw_lt (e := e) (f := -1048576) (by omega) h2
        omega
      · exact h3
    · rw [if_neg h2]
      have f : (Num.mk 1 neg m e).Fin := ⟨rfl, hm, hm', by show -1048576 ≤ e; omega, by show e ≤ 1048576; omega⟩
      rw [f.W]
      exact grid_dn ms os ks hm he h

theorem bound_up {neg : Bool} {m e : Int} (hm : 9223372036854775808 ≤ m) (hm' : m < 18446744073709551616) (he : -4194303 ≤ e) {s : Num} (ms : s.may = true) (os : s.ok)
    (h : m * pw e ≤ s.W) : (Num.bound neg m e true).W ≤ s.W := by
  unfold Num.bound
  by_cases h1 : 1048576 < e
  · rw [if_pos h1, if_pos rfl, Num.inf_W]
    have h2 : pw (1048577 + 63) ≤ pw (e + 63) := pw_mono (by decide) (by omega)
    rw [pw_63 (e := e) (by omega), show (1048577 + 63 : Int) = 1048640 by decide] at h2
    have h3 : 9223372036854775808 * pw e ≤ m * pw e := Int.mul_le_mul_of_nonneg_right hm (Int.le_of_lt (pw_pos _))
    omega
  · rw [if_neg h1]
    by_cases h2 : e < -1048576
    · rw [if_pos h2, if_pos rfl]
      have h3 : 0 < m * pw e := Int.mul_pos (by omega) (pw_pos _)
      exact W_tiny ms os (by omega)
    · rw [if_neg h2]
      have f : (Num.mk 1 neg m e).Fin := ⟨rfl, hm, hm', by show -1048576 ≤ e; omega, by show e ≤ 1048576; omega⟩
      rw [f.W]
      exact h

theorem mag_up {neg cut : Bool} {m e : Int} (hm : 9223372036854775808 ≤ m) (hm' : m < 18446744073709551616) (he : -4194303 ≤ e) (he' : e ≤ 4194303) {s : Num} (ms : s.may = true) (os : s.ok)
    (h : if cut then m * pw e < s.W else m * pw e ≤ s.W) : (Num.grow neg m e cut true).W ≤ s.W := by
  unfold Num.grow
  cases cut with
  | false =>
    rw [if_neg (by decide)] at h
    rw [if_neg (by decide)]
    exact bound_up hm hm' he ms os h
  | true =>
    rw [if_pos rfl] at h
    rw [if_pos (by decide)]
    have h' := grid_up ms os hm he h
    by_cases h0 : IntKind.u64.wrap (m + 1) = 0
    · rw [if_pos h0]
      have em : m + 1 = 18446744073709551616 := by rw [wu64] at h0; omega
      have ee : IntKind.i64.wrap (e + 1) = e + 1 := by rw [wi64]; omega
      rw [ee]
      have et : Num.top = 9223372036854775808 := rfl
      rw [et]
      refine bound_up (by omega) (by omega) (by omega) ms os ?_
      rw [pw_succ (by omega)]
      rw [em] at h'
      omega
    · rw [if_neg h0]
      have em : IntKind.u64.wrap (m + 1) = m + 1 := by rw [wu64] at h0 ⊢; omega
      have hlt : m + 1 < 18446744073709551616 := by rw [wu64] at h0; omega
      rw [em]
      exact bound_up (by omega) hlt (by omega) ms os h'

theorem Num.val_of {s : Num} (ms : s.may = true) (os : s.ok) : (0 ≤ s.val ∧ s.val = s.W) ∨ (s.val < 0 ∧ s.val = -s.W) := by
  have := W_nn s ms os
  unfold Num.val
  by_cases h : s.neg = true
  · rw [if_pos h]
    rcases Int.lt_or_le 0 s.W with g | g
    · right; omega
    · left; omega
  · rw [if_neg h]; left; omega

/-- THE RULE OF ROUNDING. -/
theorem grow_best {neg cut up : Bool} {m e T c : Int} (hm : 9223372036854775808 ≤ m) (hm' : m < 18446744073709551616) (he : -4194303 ≤ e) (he' : e ≤ 4194303) (hc : 0 < c)
    (h : if cut then m * pw e * c < T ∧ T < (m + 1) * pw e * c else T = m * pw e * c) : Best (Num.grow neg m e cut (up != neg)) up (if neg then -T else T) c := by
  have p := pw_pos e
  have p1 : 0 < m * pw e := Int.mul_pos (by omega) p
  have p2 : 0 < m * pw e * c := Int.mul_pos p1 hc
  have p3 : m * pw e * c ≤ T ∧ T < (m + 1) * pw e * c := by
    cases cut with
    | true => exact ⟨Int.le_of_lt h.1, h.2⟩
    | false =>
      have h : T = m * pw e * c := h
      have : (m + 1) * pw e * c = m * pw e * c + pw e * c := by grind
      have : 0 < pw e * c := Int.mul_pos p hc
      omega
  have S : Side (Num.grow neg m e cut (up != neg)) up (if neg then -T else T) c := by
    refine (grow_rnd (neg := neg) (cut := cut) (away := up != neg) hm hm' (e := e) he he').side p3.1 ?_ (by omega) (Int.le_of_lt hc)
    cases cut with
    | true => rw [if_pos rfl]; exact Int.le_of_lt p3.2
    | false => rw [if_neg (by decide)]; exact Int.le_of_eq h
  have dn : ∀ s : Num, s.may = true → s.ok → s.kind ≠ 2 → s.W * c ≤ T → s.W ≤ (Num.grow neg m e cut false).W := by
    intro s ms os ks hs
    refine mag_dn hm hm' he ms os ks ?_
    exact Int.lt_of_mul_lt_mul_right (a := c) (by omega) (Int.le_of_lt hc)
  have upw : ∀ s : Num, s.may = true → s.ok → T ≤ s.W * c → (Num.grow neg m e cut true).W ≤ s.W := by
    intro s ms os hs
    refine mag_up hm hm' he he' ms os ?_
    cases cut with
    | true => exact Int.lt_of_mul_lt_mul_right (a := c) (by have := h.1; omega) (Int.le_of_lt hc)
    | false =>
      have h : T = m * pw e * c := h
      exact Int.le_of_mul_le_mul_right (a := c) (by omega) hc
  have neg_mul : ∀ s : Num, -s.W * c = -(s.W * c) := fun s => Int.neg_mul _ _
  refine ⟨S.may, S.ok, S.down, ?_, ?_, S.up⟩
  · intro hu s ms os hs hv
    subst hu
    have R := grow_rnd (neg := neg) (cut := cut) (away := false != neg) hm hm' (e := e) he he'
    cases neg with
    | false =>
      have hr : (Num.grow false m e cut (false != false)).val = (Num.grow false m e cut false).W := by
        rcases R.neg with k | k
        · have : (Num.grow false m e cut (false != false)).W = 0 := by unfold Num.W; rw [if_pos k]
          rcases Num.val_of R.may R.ok with q | q
          · exact q.2
          · show _ = (Num.grow false m e cut (false != false)).W
            omega
        · unfold Num.val; rw [if_neg (by rw [k]; decide)]; rfl
      rw [hr]
      have r0 := W_nn _ R.may R.ok
      rcases Num.val_of ms os with q | q
      · rw [q.2]
        refine dn s ms os ?_ (by rw [← q.2]; exact hv)
        intro k
        have e1 := Num.inf_of ms os k
        cases hn : s.neg with
        | false => exact hs (by rw [e1, hn])
        | true =>
          rw [e1, hn, Num.val_inf] at q
          have := pw_pos 1048640
          simp at q
          omega
      · have : 0 ≤ s.W := W_nn s ms os
        show s.val ≤ (Num.grow false m e cut (false != false)).W
        omega
    | true =>
      have hr : (Num.grow true m e cut (false != true)).val = -(Num.grow true m e cut true).W := by
        rcases R.neg with k | k
        · exact absurd k (R.up rfl).1
        · unfold Num.val; rw [if_pos k]; rfl
      rw [hr]
      simp only [if_true] at hv
      rcases Num.val_of ms os with q | q
      · exfalso
        have := Int.mul_nonneg q.1 (Int.le_of_lt hc)
        omega
      · rw [q.2] at hv ⊢
        rw [neg_mul] at hv
        have := upw s ms os (by omega)
        omega
  · intro hu s ms os hs hv
    subst hu
    have R := grow_rnd (neg := neg) (cut := cut) (away := true != neg) hm hm' (e := e) he he'
    cases neg with
    | false =>
      have hr : (Num.grow false m e cut (true != false)).val = (Num.grow false m e cut true).W := by
        rcases R.neg with k | k
        · exact absurd k (R.up rfl).1
        · unfold Num.val; rw [if_neg (by rw [k]; decide)]; rfl
      rw [hr]
      simp only [Bool.false_eq_true, if_false] at hv
      rcases Num.val_of ms os with q | q
      · rw [q.2] at hv ⊢
        exact upw s ms os hv
      · exfalso
        have := Int.mul_nonneg (W_nn s ms os) (Int.le_of_lt hc)
        rw [q.2, neg_mul] at hv
        omega
    | true =>
      have hr : (Num.grow true m e cut (true != true)).val = -(Num.grow true m e cut false).W := by
        rcases R.neg with k | k
        · have : (Num.grow true m e cut (true != true)).W = 0 := by unfold Num.W; rw [if_pos k]
          rcases Num.val_of R.may R.ok with q | q
          · show _ = -(Num.grow true m e cut (true != true)).W
            omega
          · exact q.2
        · unfold Num.val; rw [if_pos k]; rfl
      rw [hr]
      have r0 := W_nn _ R.may R.ok
      simp only [if_true] at hv
      rcases Num.val_of ms os with q | q
      · have : 0 ≤ s.W := W_nn s ms os
        show -(Num.grow true m e cut (true != true)).W ≤ s.val
        omega
      · rw [q.2] at hv ⊢
        rw [neg_mul] at hv
        have := dn s ms os (by
          intro k
          have e1 := Num.inf_of ms os k
          cases hn : s.neg with
          | true => exact hs (by rw [e1, hn])
          | false =>
            rw [e1, hn, Num.val_inf] at q
            have := pw_pos 1048640
            simp at q
            omega) (by omega)
        omega
end Go.Proofs.Ytincnfjihffllaa.Ev

/- Products, quotients and sums are rounded as they ought to be: plain Lean. -/
namespace Go.Proofs.Ytincnfjihffllaa.Ev
open Go

theorem cut_div {N d P e c : Int} (hd : 0 < d) (hP : 0 < P) (hs : pw e * c = d * P) :
    if decide (N % d ≠ 0) = true then N / d * pw e * c < N * P ∧ N * P < (N / d + 1) * pw e * c else N * P = N / d * pw e * c := by
  have e1 := Int.mul_ediv_add_emod N d
  have e2 := Int.emod_nonneg N (show d ≠ 0 by omega)
  have e3 := Int.emod_lt_of_pos N hd
  have a1 : ∀ q : Int, q * pw e * c = d * q * P := fun q => by rw [Int.mul_assoc, hs]; grind
  rw [a1, a1]
  split
  · rename_i h
    simp only [decide_eq_true_eq] at h
    constructor
    · exact Int.mul_lt_mul_of_pos_right (by omega) hP
    · refine Int.mul_lt_mul_of_pos_right ?_ hP
      have : d * (N / d + 1) = d * (N / d) + d := by grind
      omega
  · rename_i h
    simp only [decide_eq_true_eq, Classical.not_not] at h
    congr 1
    omega

/-- rounded to 64 bits: N / d, of a scale -/
theorem grow_div {neg up : Bool} {N d P e c : Int} (hd : 0 < d) (hP : 0 < P) (hs : pw e * c = d * P) (hc : 0 < c) (h1 : 9223372036854775808 ≤ N / d) (h2 : N / d < 18446744073709551616) (he : -4194303 ≤ e) (he' : e ≤ 4194303) :
    Best (Num.grow neg (N / d) e (decide (N % d ≠ 0)) (up != neg)) up (if neg then -(N * P) else N * P) c :=
  grow_best h1 h2 he he' hc (cut_div hd hP hs)

theorem mulF_best {a b : Num} (ha : a.Fin) (hb : b.Fin) (up : Bool) : Best (Num.mulF a b up) up (a.val * b.val) (pw 0) := by
  rw [Num.Fin.val_mul]
  have := ha.lo; have := ha.hi; have := ha.elo; have := ha.ehi
  have := hb.lo; have := hb.hi; have := hb.elo; have := hb.ehi
  have m1 : 9223372036854775808 * 9223372036854775808 ≤ a.m * b.m := Int.mul_le_mul ha.lo hb.lo (by decide) (by omega)
  have m2 : a.m * b.m ≤ 18446744073709551615 * 18446744073709551615 := Int.mul_le_mul (by omega) (by omega) (by omega) (by decide)
  have eW : a.W * b.W = a.m * b.m * (pw (a.e + b.e) * pw 0) := by
    rw [ha.W, hb.W]
    have e := pw_mul (e := a.e) (f := b.e) (by omega) (by omega) (by omega)
    have e1 : a.m * pw a.e * (b.m * pw b.e) = a.m * b.m * (pw a.e * pw b.e) := by grind
    rw [e1, e]; grind
  have p := pw_pos (a.e + b.e)
  have p0 := pw_pos 0
  have pp := Int.mul_pos p p0
  unfold Num.mulF
  rw [eW]
  generalize a.m * b.m = p' at *
  split
  · exact grow_div (by decide) pp (by rw [pw_63 (by omega)]; grind) p0 (by omega) (by omega) (by omega) (by omega)
  · exact grow_div (by decide) pp (by rw [pw_64 (by omega)]; grind) p0 (by omega) (by omega) (by omega) (by omega)

theorem div_bounds {N d : Int} (hd : 0 < d) {l u : Int} (h1 : d * l ≤ N) (h2 : N < d * u) : l ≤ N / d ∧ N / d < u :=
  ⟨(Int.le_ediv_iff_mul_le hd).2 (by rw [Int.mul_comm]; exact h1), Int.ediv_lt_of_lt_mul hd (by rw [Int.mul_comm]; exact h2)⟩

theorem divF_best {a b : Num} (ha : a.Fin) (hb : b.Fin) (up : Bool) : Best (Num.divF a b up) up (if (a.neg != b.neg) then -(a.W * pw 0) else a.W * pw 0) b.W := by
  have := ha.lo; have := ha.hi; have := ha.elo; have := ha.ehi
  have := hb.lo; have := hb.hi; have := hb.elo; have := hb.ehi
  have p0 := pw_pos 0
  have hb0 : 0 < b.m := by omega
  unfold Num.divF
  split
  · rename_i h
    have ET : a.W * pw 0 = (a.m * 9223372036854775808) * (pw (a.e - 63) * pw 0) := by
      rw [ha.W]
      have e := pw_63 (e := a.e - 63) (by omega)
      rw [show a.e - 63 + 63 = a.e by omega] at e
      rw [e]; grind
    have pp : 0 < pw (a.e - 63) * pw 0 := Int.mul_pos (pw_pos _) p0
    obtain ⟨q1, q2⟩ := div_bounds (N := a.m * 9223372036854775808) hb0 (l := 9223372036854775808) (u := 18446744073709551616) (by omega) (by omega)
    rw [ET]
    refine grow_div hb0 pp ?_ hb.lt.1 q1 q2 (by omega) (by omega)
    rw [hb.W]
    have e := pw_mul (e := b.e) (f := a.e - b.e - 63) (by omega) (by omega) (by omega)
    rw [show b.e + (a.e - b.e - 63) = a.e - 63 by omega] at e
    have e' : pw (a.e - b.e - 63) * (b.m * pw b.e) = b.m * (pw b.e * pw (a.e - b.e - 63)) := by grind
    rw [e', e]; grind
  · rename_i h
    have ET : a.W * pw 0 = (a.m * 18446744073709551616) * (pw (a.e - 64) * pw 0) := by
      rw [ha.W]
      have e := pw_64 (e := a.e - 64) (by omega)
      rw [show a.e - 64 + 64 = a.e by omega] at e
      rw [e]; grind
    have pp : 0 < pw (a.e - 64) * pw 0 := Int.mul_pos (pw_pos _) p0
    obtain ⟨q1, q2⟩ := div_bounds (N := a.m * 18446744073709551616) hb0 (l := 9223372036854775808) (u := 18446744073709551616) (by omega) (by omega)
    rw [ET]
    refine grow_div hb0 pp ?_ hb.lt.1 q1 q2 (by omega) (by omega)
    rw [hb.W]
    have e := pw_mul (e := b.e) (f := a.e - b.e - 64) (by omega) (by omega) (by omega)
    rw [show b.e + (a.e - b.e - 64) = a.e - 64 by omega] at e
    have e' : pw (a.e - b.e - 64) * (b.m * pw b.e) = b.m * (pw b.e * pw (a.e - b.e - 64)) := by grind
    rw [e', e]; grind

/-! ### sums -/
/-- what is cut off in two steps is what is cut off in one -/
theorem cut_two {N K D : Int} (hK : 0 < K) (hD : 0 < D) : N / K / D = N / (K * D) ∧ (decide (N % K ≠ 0) || decide (N / K % D ≠ 0)) = decide (N % (K * D) ≠ 0) := by
  have h0 : N / K / D = N / (K * D) := Int.ediv_ediv_of_nonneg (Int.le_of_lt hK)
  refine ⟨h0, ?_⟩
  have h : N % (K * D) = N % K + K * (N / K % D) := by
    have e1 := Int.mul_ediv_add_emod N K
    have e2 := Int.mul_ediv_add_emod (N / K) D
    have e3 := Int.mul_ediv_add_emod N (K * D)
    rw [h0] at e2
    have e4 : K * (D * (N / (K * D)) + N / K % D) = K * D * (N / (K * D)) + K * (N / K % D) := by rw [Int.mul_add, Int.mul_assoc]
    rw [e2] at e4
    omega
  have h1 := Int.emod_nonneg N (show K ≠ 0 by omega)
  have h2 := Int.emod_nonneg (N / K) (show D ≠ 0 by omega)
  have h3 : 0 ≤ K * (N / K % D) := Int.mul_nonneg (Int.le_of_lt hK) h2
  have h4 : N / K % D ≠ 0 → 0 < K * (N / K % D) := fun g => Int.mul_pos hK (by omega)
  rw [← Bool.decide_or, decide_eq_decide, h]
  generalize N / K % D = y at *
  by_cases g : y = 0
  · subst g; simp
  · have := h4 g
    constructor
    · intro _; omega
    · intro _; exact .inr g

theorem plus_eq {a b : Num} : plusX a b = (a.m * 2 ^ (a.e - b.e).toNat + b.m) * 18446744073709551616 / 2 ^ (a.e - b.e).toNat ∧ plusC a b = decide ((a.m * 2 ^ (a.e - b.e).toNat + b.m) * 18446744073709551616 % 2 ^ (a.e - b.e).toNat ≠ 0) := by
  have p := two_pos (a.e - b.e).toNat
  have e : (a.m * 2 ^ (a.e - b.e).toNat + b.m) * 18446744073709551616 = b.m * 18446744073709551616 + a.m * 18446744073709551616 * 2 ^ (a.e - b.e).toNat := by grind
  unfold plusX plusC
  rw [e]
  constructor
  · rw [Int.add_mul_ediv_right _ _ (by omega), Int.add_comm]
  · rw [Int.add_mul_emod_self_right]

theorem same_div {N M K D : Int} (hM : 0 < M) : N * M / (K * (M * D)) = N / (K * D) ∧ decide (N * M % (K * (M * D)) ≠ 0) = decide (N % (K * D) ≠ 0) := by
  have e : K * (M * D) = M * (K * D) := Int.mul_left_comm ..
  rw [e, Int.mul_comm N M]
  constructor
  · exact Int.mul_ediv_mul_of_pos _ _ hM
  · rw [Int.mul_emod_mul_of_pos _ _ hM, decide_eq_decide]
    constructor
    · intro h g; exact h (by rw [g]; simp)
    · intro h g
      rcases Int.mul_eq_zero.1 g with q | q
      · omega
      · exact h q

theorem plusP_best {a b : Num} (ha : a.Fin) (hb : b.Fin) (hk : b.e ≤ a.e) (hs : a.neg = b.neg) (up : Bool) : Best (plusP a b up) up (a.val + b.val) 1 := by
  have := ha.lo; have := ha.hi; have := ha.elo; have := ha.ehi
  have := hb.lo; have := hb.hi; have := hb.elo; have := hb.ehi
  have p := two_pos (a.e - b.e).toNat
  have pb := pw_pos b.e
  have ea := pw_split (e := b.e) (f := a.e) (by omega) hk
  have hv : a.val + b.val = if a.neg then -((a.m * 2 ^ (a.e - b.e).toNat + b.m) * pw b.e) else (a.m * 2 ^ (a.e - b.e).toNat + b.m) * pw b.e := by
    unfold Num.val
    rw [← hs, ha.W, hb.W, ea]
    cases a.neg <;> simp <;> grind
  rw [hv]
  unfold plusP
  rw [plus_eq.1, plus_eq.2]
  generalize hN : a.m * 2 ^ (a.e - b.e).toNat + b.m = N at *
  have b1 : 2 ^ (a.e - b.e).toNat * 9223372036854775808 ≤ N := by
    have : 9223372036854775808 * 2 ^ (a.e - b.e).toNat ≤ a.m * 2 ^ (a.e - b.e).toNat := Int.mul_le_mul_of_nonneg_right (by omega) (Int.le_of_lt p)
    omega
  have b2 : N < 2 ^ (a.e - b.e).toNat * 36893488147419103232 := by
    have h1 : a.m * 2 ^ (a.e - b.e).toNat ≤ 18446744073709551615 * 2 ^ (a.e - b.e).toNat := Int.mul_le_mul_of_nonneg_right (by omega) (Int.le_of_lt p)
    omega
  generalize (2 : Int) ^ (a.e - b.e).toNat = K at *
  obtain ⟨q1, q2⟩ := cut_two (N := N * 18446744073709551616) (K := K) (D := 18446744073709551616) p (by decide)
  obtain ⟨q3, q4⟩ := cut_two (N := N * 18446744073709551616) (K := K) (D := 36893488147419103232) p (by decide)
  obtain ⟨r1, r2⟩ := same_div (N := N) (M := 18446744073709551616) (K := K) (D := 1) (by decide)
  obtain ⟨r3, r4⟩ := same_div (N := N) (M := 18446744073709551616) (K := K) (D := 2) (by decide)
  rw [show (18446744073709551616 : Int) * 1 = 18446744073709551616 by decide] at r1 r2
  rw [show (18446744073709551616 : Int) * 2 = 36893488147419103232 by decide] at r3 r4
  rw [q2, q4, q1, q3, r1, r2, r3, r4, Int.mul_one]
  split
  · rename_i h
    have h3 : N / K < 18446744073709551616 := by
      rw [← Int.mul_one K, ← r1, ← q1]
      exact Int.ediv_lt_of_lt_mul (by decide) (by omega)
    exact grow_div p pb (by rw [ea]; grind) (by decide) (div_bounds p b1 b2).1 h3 (by omega) (by omega)
  · rename_i h
    have h3 : 9223372036854775808 ≤ N / (K * 2) := by
      rw [← r3, ← q3]
      exact (Int.le_ediv_iff_mul_le (by decide)).2 (by omega)
    exact grow_div (by omega) pb (by rw [pw_succ (by omega), ea]; grind) (by decide) h3 (Int.ediv_lt_of_lt_mul (by omega) (by omega)) (by omega) (by omega)

theorem neg_div {x K : Int} (hK : 0 < K) : (-x) / K = -(x / K) - (if decide (x % K ≠ 0) = true then 1 else 0) ∧ decide ((-x) % K ≠ 0) = decide (x % K ≠ 0) := by
  have e1 := Int.mul_ediv_add_emod x K
  have e2 := Int.emod_nonneg x (show K ≠ 0 by omega)
  have e3 := Int.emod_lt_of_pos x hK
  have f1 := Int.mul_ediv_add_emod (-x) K
  have f2 := Int.emod_nonneg (-x) (show K ≠ 0 by omega)
  have f3 := Int.emod_lt_of_pos (-x) hK
  have g : K * (x / K + (-x) / K) = -(x % K + (-x) % K) := by rw [Int.mul_add]; omega
  generalize x / K = p at *
  generalize (-x) / K = q at *
  generalize x % K = r at *
  generalize (-x) % K = s at *
  have h1 : p + q ≤ 0 := by
    rcases Int.lt_or_le 0 (p + q) with h | h
    · have := Int.mul_le_mul_of_nonneg_left (c := K) (show 1 ≤ p + q by omega) (by omega)
      omega
    · exact h
  have h2 : -1 ≤ p + q := by
    rcases Int.lt_or_le (p + q) (-1) with h | h
    · have := Int.mul_le_mul_of_nonneg_left (c := K) (show p + q ≤ -2 by omega) (by omega)
      omega
    · exact h
  rcases (show p + q = 0 ∨ p + q = -1 by omega) with h | h
  · rw [h] at g
    simp only [Int.mul_zero] at g
    have hr : r = 0 := by omega
    have hs : s = 0 := by omega
    subst hr; subst hs
    exact ⟨by simp; omega, rfl⟩
  · rw [h] at g
    have hr : r ≠ 0 := by intro hr; omega
    have hs : s ≠ 0 := by intro hs; omega
    exact ⟨by simp [hr]; omega, by simp [hr, hs]⟩

theorem minus_eq {a b : Num} : minusZ a b = (a.m * 2 ^ (a.e - b.e).toNat - b.m) * 18446744073709551616 / 2 ^ (a.e - b.e).toNat ∧
    plusC a b = decide ((a.m * 2 ^ (a.e - b.e).toNat - b.m) * 18446744073709551616 % 2 ^ (a.e - b.e).toNat ≠ 0) := by
  have p := two_pos (a.e - b.e).toNat
  have e : (a.m * 2 ^ (a.e - b.e).toNat - b.m) * 18446744073709551616 = -(b.m * 18446744073709551616) + a.m * 18446744073709551616 * 2 ^ (a.e - b.e).toNat := by grind
  obtain ⟨n1, n2⟩ := neg_div (x := b.m * 18446744073709551616) p
  unfold minusZ plusC
  rw [e]
  constructor
  · rw [Int.add_mul_ediv_right _ _ (by omega), n1]
    omega
  · rw [Int.add_mul_emod_self_right, n2]

theorem minusP_best {a b : Num} (ha : a.Fin) (hb : b.Fin) (hk : b.e ≤ a.e) (hgt : b.e < a.e ∨ b.m < a.m) (hs : a.neg ≠ b.neg) (up : Bool) : Best (minusP a b up) up (a.val + b.val) 1 := by
  have := ha.lo; have := ha.hi; have := ha.elo; have := ha.ehi
  have := hb.lo; have := hb.hi; have := hb.elo; have := hb.ehi
  have p := two_pos (a.e - b.e).toNat
  have ea := pw_split (e := b.e) (f := a.e) (by omega) hk
  have hv : a.val + b.val = if a.neg then -((a.m * 2 ^ (a.e - b.e).toNat - b.m) * 18446744073709551616 * pw (b.e - 64)) else (a.m * 2 ^ (a.e - b.e).toNat - b.m) * 18446744073709551616 * pw (b.e - 64) := by
    have e64 := pw_64 (e := b.e - 64) (by omega)
    rw [show b.e - 64 + 64 = b.e by omega] at e64
    have : (a.m * 2 ^ (a.e - b.e).toNat - b.m) * 18446744073709551616 * pw (b.e - 64) = a.m * pw a.e - b.m * pw b.e := by rw [ea, e64]; grind
    rw [this]
    unfold Num.val
    rw [ha.W, hb.W]
    have hbn : b.neg = !a.neg := by cases h : a.neg <;> cases h2 : b.neg <;> simp_all
    rw [hbn]
    cases a.neg <;> simp <;> omega
  obtain ⟨z0, z1, _, _, _⟩ := minus_parts ha hb hk hgt rfl rfl rfl rfl rfl
  obtain ⟨n, k1, k2, k3⟩ := blen_pos z0
  have bl := blen_le 128 (x := minusZ a b) (by exact z1)
  have pb := pw_pos (b.e - 64)
  rw [hv]
  unfold minusP
  obtain ⟨hZ, hC⟩ := minus_eq (a := a) (b := b)
  have hKN : a.m * 2 ^ (a.e - b.e).toNat - b.m ≥ 9223372036854775808 * 2 ^ (a.e - b.e).toNat - 18446744073709551616 := by
    have : 9223372036854775808 * 2 ^ (a.e - b.e).toNat ≤ a.m * 2 ^ (a.e - b.e).toNat := Int.mul_le_mul_of_nonneg_right (by omega) (Int.le_of_lt p)
    omega
  rw [hC]
  generalize hN : (a.m * 2 ^ (a.e - b.e).toNat - b.m) * 18446744073709551616 = N at *
  generalize minusZ a b = Z at *
  have big1 : 170141183460469231731687303715884105728 ≤ Z * 2 ^ (128 - blen Z).toNat := by
    have g : (170141183460469231731687303715884105728 : Int) = 2 ^ n * 2 ^ (128 - blen Z).toNat := by
      rw [← Int.pow_add, show n + (128 - blen Z).toNat = 127 by omega]; rfl
    rw [g]
    exact Int.mul_le_mul_of_nonneg_right k2 (Int.le_of_lt (two_pos _))
  have big2 : Z * 2 ^ (128 - blen Z).toNat < 340282366920938463463374607431768211456 := by
    have g : (340282366920938463463374607431768211456 : Int) = 2 ^ (n + 1) * 2 ^ (128 - blen Z).toNat := by
      rw [← Int.pow_add, show n + 1 + (128 - blen Z).toNat = 128 by omega]; rfl
    rw [g]
    exact Int.mul_lt_mul_of_pos_right k3 (two_pos _)
  have m1 : 9223372036854775808 ≤ Z * 2 ^ (128 - blen Z).toNat / 18446744073709551616 := by omega
  have m2 : Z * 2 ^ (128 - blen Z).toNat / 18446744073709551616 < 18446744073709551616 := by omega
  generalize hS : 128 - blen Z = s at *
  have s0 : 0 ≤ s := by omega
  by_cases h64 : s ≤ 64
  · have e64 := two_64 (k := s) s0 h64
    have q := two_pos s.toNat
    have q' := two_pos (64 - s).toNat
    obtain ⟨r1, r2⟩ := same_div (N := Z) (M := 2 ^ s.toNat) (K := 1) (D := 2 ^ (64 - s).toNat) q
    rw [Int.one_mul, Int.one_mul, Int.mul_comm (2 ^ s.toNat) (2 ^ (64 - s).toNat), ← e64] at r1 r2
    rw [r1] at m1 m2 ⊢
    rw [r2]
    obtain ⟨c1, c2⟩ := cut_two (N := N) (K := 2 ^ (a.e - b.e).toNat) (D := 2 ^ (64 - s).toNat) p q'
    rw [hZ] at m1 m2 ⊢
    rw [c1] at m1 m2
    rw [c1, c2]
    refine grow_div (Int.mul_pos p q') pb ?_ (by decide) m1 m2 (by omega) (by omega)
    rw [Int.mul_one, pw_split (e := b.e - 64) (f := a.e - s) (by omega) (by omega)]
    congr 1
    rw [← Int.pow_add]
    congr 1
    omega
  · have hz64 : Z < 18446744073709551616 := by
      have : (2 : Int) ^ (n + 1) ≤ 2 ^ 64 := by
        have := Nat.pow_le_pow_right (n := 2) (by omega) (show n + 1 ≤ 64 by omega)
        have e1 : ((2 ^ (n + 1) : Nat) : Int) = (2 : Int) ^ (n + 1) := by push_cast; rfl
        rw [← e1]; exact Int.ofNat_le.2 this
      have e2 : (2 : Int) ^ 64 = 18446744073709551616 := by decide
      omega
    have hcf : N % 2 ^ (a.e - b.e).toNat = 0 := by
      by_cases hk64 : a.e - b.e ≤ 64
      · have e64 := two_64 (k := a.e - b.e) (by omega) hk64
        rw [← hN, e64, ← Int.mul_assoc, Int.mul_emod_left]
      · exfalso
        have hK : 36893488147419103232 ≤ (2 : Int) ^ (a.e - b.e).toNat := by
          have := Nat.pow_le_pow_right (n := 2) (by omega) (show 65 ≤ (a.e - b.e).toNat by omega)
          have e1 : ((2 ^ (a.e - b.e).toNat : Nat) : Int) = (2 : Int) ^ (a.e - b.e).toNat := by push_cast; rfl
          rw [← e1]; exact Int.ofNat_le.2 this
        have : 18446744073709551616 ≤ N / 2 ^ (a.e - b.e).toNat := by
          refine (Int.le_ediv_iff_mul_le p).2 ?_
          rw [← hN]
          generalize (2 : Int) ^ (a.e - b.e).toNat = K at *
          generalize a.m * K - b.m = M at *
          omega
        omega
    have e1 : Z * 2 ^ s.toNat = Z * 2 ^ (s - 64).toNat * 18446744073709551616 := by
      rw [Int.mul_assoc]
      congr 1
      rw [show (18446744073709551616 : Int) = 2 ^ 64 by decide, ← Int.pow_add]
      congr 1
      omega
    have e2 : Z * 2 ^ s.toNat % 18446744073709551616 = 0 := by rw [e1]; exact Int.mul_emod_left _ _
    have e3 : Z * 2 ^ s.toNat / 18446744073709551616 = Z * 2 ^ (s - 64).toNat := by rw [e1]; exact Int.mul_ediv_cancel _ (by decide)
    rw [hcf, e2]
    refine grow_best (cut := _) m1 m2 (by omega) (by omega) (by decide) ?_
    simp only [ne_eq, not_true_eq_false, decide_false, Bool.or_self, Bool.false_eq_true, if_false]
    rw [e3, Int.mul_one]
    have e4 : N = Z * 2 ^ (a.e - b.e).toNat := by
      have := Int.mul_ediv_add_emod N (2 ^ (a.e - b.e).toNat)
      rw [← hZ, hcf] at this
      rw [Int.mul_comm Z]
      omega
    have e5 := pw_split (e := b.e - 64) (f := a.e - 64) (by omega) (by omega)
    rw [show a.e - 64 - (b.e - 64) = a.e - b.e by omega] at e5
    have e6 := pw_split (e := a.e - s) (f := a.e - 64) (by omega) (by omega)
    rw [show a.e - 64 - (a.e - s) = s - 64 by omega] at e6
    rw [e4, Int.mul_assoc, ← e5, e6, Int.mul_assoc]

/-! ### the operations on any numbers -/
theorem Best.self {r : Num} {up : Bool} (m : r.may = true) (o : r.ok) (k : r.kind ≠ 2) {t c : Int} (hc : 0 < c) (ht : r.val * c = t) : Best r up t c := by
  have n : ∀ b, r ≠ Num.inf b := fun b g => k (by rw [g]; rfl)
  refine ⟨m, o, fun _ => ⟨n _, .inr (by omega)⟩, fun _ x _ _ _ hx => ?_, fun _ x _ _ _ hx => ?_, fun _ => ⟨n _, .inr (by omega)⟩⟩
  · exact Int.le_of_mul_le_mul_right (a := c) (by omega) hc
  · exact Int.le_of_mul_le_mul_right (a := c) (by omega) hc

theorem Num.fair_fin {a : Num} (oa : a.ok) (k0 : a.fair.kind ≠ 0) (k2 : a.fair.kind ≠ 2) : a.fair.Fin := by
  rcases Num.may3 a.fair_may (Num.fair_ok oa) with h | h | h
  · rw [h] at k0; simp [Num.zero] at k0
  · exact h
  · rw [h] at k2; simp [Num.inf] at k2
theorem Num.fair_zero {a : Num} (oa : a.ok) (k0 : a.fair.kind = 0) : a.fair = Num.zero := by
  rcases Num.may3 a.fair_may (Num.fair_ok oa) with h | h | h
  · exact h
  · have := h.kind; omega
  · rw [h] at k0; simp [Num.inf] at k0

theorem mul_best {a b : Num} (oa : a.ok) (ob : b.ok) (ka : a.fair.kind ≠ 2) (kb : b.fair.kind ≠ 2) (up : Bool) : Best (Num.mul a b up) up (a.fair.val * b.fair.val) (pw 0) := by
  unfold Num.mul
  by_cases h : a.fair.kind = 0 ∨ b.fair.kind = 0
  · rw [if_pos h]
    refine Best.self Num.zero_may Num.zero_ok (by decide) (pw_pos 0) ?_
    rw [Num.val_zero]
    rcases h with h | h
    · rw [Num.fair_zero oa h, Num.val_zero]; simp
    · rw [Num.fair_zero ob h, Num.val_zero]; simp
  · rw [if_neg h, if_neg (by omega)]
    exact mulF_best (Num.fair_fin oa (by omega) ka) (Num.fair_fin ob (by omega) kb) up

theorem addS_best {a b : Num} (ha : a.Fin) (hb : b.Fin) (hk : b.e < a.e ∨ (b.e = a.e ∧ b.m ≤ a.m)) (up : Bool) : Best (Num.addS a b up) up (a.val + b.val) 1 := by
  unfold Num.addS
  split
  · exact plusP_best ha hb (by omega) ‹_› up
  · rename_i hn
    split
    · rename_i h
      refine Best.self Num.zero_may Num.zero_ok (by decide) (by decide) ?_
      rw [Num.val_zero]
      unfold Num.val
      rw [ha.W, hb.W, h.1, h.2]
      have hbn : b.neg = !a.neg := by cases h : a.neg <;> cases h2 : b.neg <;> simp_all
      rw [hbn]
      cases a.neg <;> simp <;> omega
    · exact minusP_best ha hb (by omega) (by omega) hn up

theorem add_best {a b : Num} (oa : a.ok) (ob : b.ok) (ka : a.fair.kind ≠ 2) (kb : b.fair.kind ≠ 2) (up : Bool) : Best (Num.add a b up) up (a.fair.val + b.fair.val) 1 := by
  unfold Num.add
  rw [if_neg (by omega)]
  split
  · rename_i h
    have h : b.fair.kind = 0 := by omega
    exact Best.self a.fair_may (Num.fair_ok oa) ka (by decide) (by rw [Num.fair_zero ob h, Num.val_zero]; omega)
  · split
    · rename_i h
      have h : a.fair.kind = 0 := by omega
      exact Best.self b.fair_may (Num.fair_ok ob) kb (by decide) (by rw [Num.fair_zero oa h, Num.val_zero]; omega)
    · have FA := Num.fair_fin oa (by omega) ka
      have FB := Num.fair_fin ob (by omega) kb
      unfold Num.addF
      split
      · rw [Int.add_comm]; exact addS_best FB FA (by omega) up
      · exact addS_best FA FB (by omega) up

theorem div_best {a b : Num} (oa : a.ok) (ob : b.ok) (ka : a.fair.kind ≠ 2) (kb : b.fair.kind = 1) (up : Bool) : Best (Num.div a b up) up (if b.fair.neg then -(a.fair.val * pw 0) else a.fair.val * pw 0) b.fair.W := by
  have FB := Num.fair_fin ob (by omega) (by omega)
  unfold Num.div
  rw [if_neg (by omega)]
  split
  · rename_i h
    have h : a.fair.kind = 0 := by omega
    refine Best.self Num.zero_may Num.zero_ok (by decide) FB.lt.1 ?_
    rw [Num.fair_zero oa h, Num.val_zero]
    split <;> simp
  · have FA := Num.fair_fin oa (by omega) ka
    have := divF_best FA FB up
    have e : (if b.fair.neg then -(a.fair.val * pw 0) else a.fair.val * pw 0) = (if (a.fair.neg != b.fair.neg) then -(a.fair.W * pw 0) else a.fair.W * pw 0) := by
      unfold Num.val
      cases a.fair.neg <;> cases b.fair.neg <;> simp [Int.neg_mul]
    rw [e]
    exact this
end Go.Proofs.Ytincnfjihffllaa.Ev

/- What intervals have together, and the least one that has all of some: plain Lean. -/
namespace Go.Proofs.Ytincnfjihffllaa.Ev
open Go

/-- those that are not empty, and may be -/
def Iv.goods : List Iv → List Iv
  | [] => []
  | x :: r => if x.fair.empty then goods r else x.fair :: goods r
def Iv.los (l : List Iv) : List Num := (Iv.goods l).map Iv.lo
def Iv.his (l : List Iv) : List Num := (Iv.goods l).map Iv.hi
def Iv.allGood (l : List Iv) : Bool := l.all (fun x => !x.fair.empty)
theorem Iv.goods_append : ∀ (l m : List Iv), Iv.goods (l ++ m) = Iv.goods l ++ Iv.goods m
  | [], m => rfl
  | x :: r, m => by
    simp only [List.cons_append, Iv.goods, Iv.goods_append r m]
    split <;> rfl
theorem Iv.goods_len : ∀ (l : List Iv), (Iv.goods l).length ≤ l.length
  | [] => Nat.le_refl _
  | x :: r => by
    have := Iv.goods_len r
    simp only [Iv.goods]
    split <;> simp <;> omega
theorem Iv.los_len (l : List Iv) : (Iv.los l).length ≤ l.length := by simp [Iv.los, Iv.goods_len]
theorem Iv.his_len (l : List Iv) : (Iv.his l).length ≤ l.length := by simp [Iv.his, Iv.goods_len]
theorem take_next {l : List Iv} {i : Int} (h0 : 0 ≤ i) (h1 : i < l.length) : l.take (i + 1).toNat = l.take i.toNat ++ [l.getD i.toNat Iv.none] := by
  have : i.toNat < l.length := by omega
  rw [show (i + 1).toNat = i.toNat + 1 by omega, List.take_add_one, List.getElem?_eq_getElem this]
  simp [List.getD, List.getElem?_eq_getElem this]
theorem Iv.goods_next {l : List Iv} {i : Int} (h0 : 0 ≤ i) (h1 : i < l.length) : Iv.goods (l.take (i + 1).toNat) =
    if (l.getD i.toNat Iv.none).fair.empty then Iv.goods (l.take i.toNat) else Iv.goods (l.take i.toNat) ++ [(l.getD i.toNat Iv.none).fair] := by
  rw [take_next h0 h1, Iv.goods_append]
  simp only [Iv.goods]
  split <;> simp
theorem Iv.allGood_next {l : List Iv} {i : Int} (h0 : 0 ≤ i) (h1 : i < l.length) : Iv.allGood (l.take (i + 1).toNat) = (Iv.allGood (l.take i.toNat) && !(l.getD i.toNat Iv.none).fair.empty) := by
  rw [take_next h0 h1]
  simp [Iv.allGood]
def Iv.meet (l : List Iv) : Iv := if Iv.allGood l then Iv.make (Num.most (Iv.los l)) (Num.least (Iv.his l)) else Iv.none
def Iv.hull (l : List Iv) : Iv := if (Iv.los l).length = 0 then Iv.none else Iv.make (Num.least (Iv.los l)) (Num.most (Iv.his l))

theorem rows_rn (ρ : List Nat) (L : List Num) : mapB (mapB (rn1 ρ)) (L.map Num.cells) = L.map Num.cells := by
  rw [mapB_eq, List.map_map]
  refine List.map_congr_left (fun x _ => ?_)
  rfl
theorem rows_in (k : Nat) (L : List Num) : allB (allB (in1 k)) (L.map Num.cells) = true := by
  rw [allB_eq, List.all_eq_true]
  intro r hr
  obtain ⟨x, _, rfl⟩ := List.mem_map.1 hr
  rfl
theorem Iv.los_next {l : List Iv} {i : Int} (h0 : 0 ≤ i) (h1 : i < l.length) (h : (l.getD i.toNat Iv.none).fair.empty = false) : Iv.los (l.take (i + 1).toNat) = Iv.los (l.take i.toNat) ++ [(l.getD i.toNat Iv.none).fair.lo] := by
  unfold Iv.los
  rw [Iv.goods_next h0 h1, if_neg (by rw [h]; decide)]
  simp
theorem Iv.his_next {l : List Iv} {i : Int} (h0 : 0 ≤ i) (h1 : i < l.length) (h : (l.getD i.toNat Iv.none).fair.empty = false) : Iv.his (l.take (i + 1).toNat) = Iv.his (l.take i.toNat) ++ [(l.getD i.toNat Iv.none).fair.hi] := by
  unfold Iv.his
  rw [Iv.goods_next h0 h1, if_neg (by rw [h]; decide)]
  simp
theorem app_rows (M : List Num) (x : Num) : ((M.map Num.cells).drop (0 : Int).toNat).take ((M.length : Int)).toNat ++ [x.cells] = (M ++ [x]).map Num.cells := by
  simp
  rw [List.take_of_length_le (by simp)]
theorem rows_mf (L : List Num) : allB (allB AV.mf1) (L.map Num.cells) = true := by
  rw [allB_eq, List.all_eq_true]
  intro r hr
  obtain ⟨x, _, rfl⟩ := List.mem_map.1 hr
  rfl
theorem rows_getD (M : List Num) (d : List AV) {i : Nat} (h : i < M.length) : (M.map Num.cells).getD ((0 : Int).toNat + i) d = (M.getD i Num.zero).cells := by
  rw [show (0 : Int).toNat + i = i by simp]
  simp [List.getD, List.getElem?_eq_getElem h]
theorem num_cells_self {x : Num} : sleL sle0 x.cells x.cells := ⟨⟨rfl, rfl⟩, rfl, ⟨rfl, rfl⟩, ⟨rfl, rfl⟩, trivial⟩
end Go.Proofs.Ytincnfjihffllaa.Ev

/- Contracts: the ends of some intervals. -/
namespace Go.Proofs.Ytincnfjihffllaa.Ev
open Go Go.Proofs
set_option linter.unusedVariables false
set_option linter.unusedSimpArgs false

def endsS (l : List Iv) (n : Int) (z : Iv) : Int × Option (List (List AV) × List (List AV) × Int × Int) × Bool → St
  | (i, none, b) => ⟨[(9, .int .i64 (.s i)), (8, .int .i64 (.s n)), (7, .slc 9 (.s n) (fun i => Iv.cells (l.getD i z))), (4, .bool (.s b)), (3, .s0), (2, .s0)], []⟩
  | (i, some (L, H, k, m), b) => ⟨[(9, .int .i64 (.s i)), (8, .int .i64 (.s n)), (7, .slc 9 (.s n) (fun i => Iv.cells (l.getD i z))), (4, .bool (.s b)), (3, .ms 1 4 (.l 0) (.s m)), (2, .ms 0 4 (.l 0) (.s k))],
      [.rows true 4 [.int .i64 (.l 0), .bool (.l false), .int .u64 (.l 0), .int .i64 (.l 0)] L, .rows true 4 [.int .i64 (.l 0), .bool (.l false), .int .u64 (.l 0), .int .i64 (.l 0)] H]⟩
def endsOK (l : List Iv) (n : Int) : Int × Option (List (List AV) × List (List AV) × Int × Int) × Bool → Prop
  | (i, none, b) => 0 ≤ i ∧ i ≤ n ∧ Iv.goods (l.take i.toNat) = [] ∧ b = Iv.allGood (l.take i.toNat)
  | (i, some (L, H, k, m), b) => 0 ≤ i ∧ i ≤ n ∧ L = (Iv.los (l.take i.toNat)).map Num.cells ∧ H = (Iv.his (l.take i.toNat)).map Num.cells ∧ k = (Iv.los (l.take i.toNat)).length ∧ m = (Iv.his (l.take i.toNat)).length ∧ b = Iv.allGood (l.take i.toNat)

theorem c_ends (l : List Iv) (n : Int) (hn : n = l.length) (hb : n ≤ 17179869184) : ∃ t : List Num × List Num × Bool × Int × Int, t = (Iv.los l, Iv.his l, Iv.allGood l, ((Iv.los l).length : Int), ((Iv.his l).length : Int)) ∧
    CallsA Try.prog 124 [.slc 9 (.s n) (fun i => Iv.cells (l.getD i Iv.none))]
      (.tup [.slc 4 (.s t.2.2.2.1) (fun i => Num.cells (t.1.getD i Num.zero)), .slc 4 (.s t.2.2.2.2) (fun i => Num.cells (t.2.1.getD i Num.zero)), .bool (.s t.2.2.1)]) := by
  refine ⟨_, rfl, ?_⟩
  generalize hr : (Iv.los l, Iv.his l, Iv.allGood l, ((Iv.los l).length : Int), ((Iv.his l).length : Int)) = r
  obtain ⟨z, hz⟩ : ∃ z, z = Iv.none := ⟨_, rfl⟩
  rw [← hz]
  refine callsA_of hG hm Try.func124 (by kernel_rfl) ?_
  intro E hE lp hl
  cbv
  refine E_loopM hE hG hm hl (endsS l n z) (fun p => (n - p.1).toNat) (endsOK l n) ⟨(0, none, true), [], ⟨Int.le_refl 0, (by show (0 : Int) ≤ n; rw [hn]; exact Int.natCast_nonneg _), rfl, rfl⟩, stLeM trivial rfl rfl rfl trivial ?_⟩ ?_
  · repeat' (first | exact m_nil | refine m_cons ?_ rfl ?_ | exact u2_int | exact u2_bool | exact u2_slc' | exact (rfl : sle2 .s0 .s0))
  have wi : ∀ i : Int, 0 ≤ i → i < n → IntKind.i64.wrap (i + 1) = i + 1 := fun i h0 h1 => wi64_succ h0 h1 (by omega)
  rintro ⟨i, (_ | ⟨L, H, k, m⟩), b⟩ hok
  · obtain ⟨h1, h2, h3, h4⟩ := hok
    cbv
    repeat' (first
      | (refine E_br hE (fun h => ?_) (fun h => ?_) <;> cbv)
      | (refine E_nm hE (fun v hv => ?_); cbv)
      | (refine E_row hE (cell := Iv.cells) (fun t ht => ?_); cbv)
      | (apply E_callX hE (c_ivFair ⟨_, ⟨_, _, _, _⟩, ⟨_, _, _, _⟩⟩); (case hf => rfl); (case hc => (cbv <;> trivial)); (case hle => (repeat' (first | exact u_nil | apply u_cons | apply u2_agg | exact u2_int | exact u1_int | exact u2_bool | exact u1_bool | exact u2_sli | exact u1_sli | exact u2_s0 | exact u1_s0))); intro t ht; cbv)
      | fail)
    case refine_2.none.refine_1.refine_1.refine_1.hK.refine_1 =>
      refine ⟨(E.bin .add .i64 i 1, none, false), [], ?_, ⟨?_, ?_, ?_, ?_⟩, stLeM trivial rfl rfl rfl trivial ?_⟩
      rotate_right
      · repeat' (first | exact m_nil | refine m_cons ?_ rfl ?_ | exact u2_int | exact u2_bool | exact u2_slc' | exact (rfl : sle2 .s0 .s0))
      all_goals (subst hE; simp only [realE, cmp_lss, cmp_leq, cmp_eql, intBinR, decide_eq_true_eq, decide_eq_false_iff_not, SI.val, SB.val, Num.eta, Iv.eta] at *)
      all_goals (replace hn : n = (l.length : Int) := hn)
      all_goals (rw [wi i h1 ‹i < n›])
      · omega
      · omega
      · omega
      · rw [Iv.goods_next h1 (by omega), ← hz, ← ‹_ = l.getD i.toNat z›, ← ht, if_pos ‹_›, h3]
      · rw [Iv.allGood_next h1 (by omega), ← hz, ← ‹_ = l.getD i.toNat z›, ← ht, ‹t.empty = true›]; simp
    case refine_2.none.refine_1.refine_1.refine_1.hK.refine_2 =>
      refine ⟨(E.bin .add .i64 i 1, some ([t.lo.cells], [t.hi.cells], 1, 1), b), [1, 2], ?_, ⟨?_, ?_, ?_, ?_, ?_, ?_, ?_⟩, stLeM ⟨rfl, rfl, trivial⟩ rfl rfl rfl ⟨rfl, rfl, trivial⟩ ?_⟩
      rotate_right
      · repeat' (first | exact m_nil | refine m_consA (ms_le rfl rfl) rfl ?_ | refine m_cons ?_ rfl ?_ | exact u2_int | exact u2_bool | exact u2_slc' | exact (rfl : sle2 .s0 .s0))
      all_goals (subst hE; simp only [realE, cmp_lss, cmp_leq, cmp_eql, intBinR, decide_eq_true_eq, decide_eq_false_iff_not, SI.val, SB.val, Num.eta, Iv.eta] at *)
      all_goals (replace hn : n = (l.length : Int) := hn)
      all_goals (try rw [wi i h1 ‹i < n›])
      · omega
      · omega
      · omega
      · unfold Iv.los; rw [Iv.goods_next h1 (by omega), ← hz, ← ‹_ = l.getD i.toNat z›, ← ht, if_neg (by rw [‹t.empty = false›]; decide), h3]; rfl
      · unfold Iv.his; rw [Iv.goods_next h1 (by omega), ← hz, ← ‹_ = l.getD i.toNat z›, ← ht, if_neg (by rw [‹t.empty = false›]; decide), h3]; rfl
      · unfold Iv.los; rw [Iv.goods_next h1 (by omega), ← hz, ← ‹_ = l.getD i.toNat z›, ← ht, if_neg (by rw [‹t.empty = false›]; decide), h3]; rfl
      · unfold Iv.his; rw [Iv.goods_next h1 (by omega), ← hz, ← ‹_ = l.getD i.toNat z›, ← ht, if_neg (by rw [‹t.empty = false›]; decide), h3]; rfl
      · rw [Iv.allGood_next h1 (by omega), ← hz, ← ‹_ = l.getD i.toNat z›, ← ht, ‹t.empty = false›, h4]; simp
    all_goals (try (exfalso; subst hE; simp only [realE, cmp_lss, cmp_leq, cmp_eql, intBinR, decide_eq_true_eq, decide_eq_false_iff_not, SI.val, SB.val, Num.eta, Iv.eta] at *; omega))
    subst hE
    simp only [realE, cmp_lss, cmp_leq, cmp_eql, intBinR, decide_eq_true_eq, decide_eq_false_iff_not, SI.val, SB.val, Num.eta, Iv.eta] at *
    replace hn : n = (l.length : Int) := hn
    have hi : i.toNat = l.length := by omega
    rw [hi, List.take_length] at h3 h4
    rw [← hr]
    simp [Iv.los, Iv.his, h3, h4]
  · obtain ⟨h1, h2, h3, h4, h5, h6, h7⟩ := hok
    cbv
    repeat' (first
      | (refine E_br hE (fun h => ?_) (fun h => ?_) <;> cbv)
      | (refine E_nm hE (fun v hv => ?_); cbv)
      | (refine E_row hE (cell := Iv.cells) (fun t ht => ?_); cbv)
      | (apply E_callX hE (c_ivFair ⟨_, ⟨_, _, _, _⟩, ⟨_, _, _, _⟩⟩); (case hf => rfl); (case hc => (cbv <;> trivial)); (case hle => (repeat' (first | exact u_nil | apply u_cons | apply u2_agg | exact u2_int | exact u1_int | exact u2_bool | exact u1_bool | exact u2_sli | exact u1_sli | exact u2_s0 | exact u1_s0))); intro t ht; cbv)
      | fail)
    case refine_2.some.refine_1.refine_1.refine_1.hK.refine_1 =>
      refine ⟨(E.bin .add .i64 i 1, some (L, H, k, m), false), [0, 1], ?_, ⟨?_, ?_, ?_, ?_, ?_, ?_, ?_⟩, stLeM ⟨?_, ?_, trivial⟩ rfl rfl rfl ⟨?_, ?_, trivial⟩ ?_⟩
      rotate_right
      · repeat' (first | exact m_nil | refine m_consA (ms_le rfl rfl) rfl ?_ | refine m_cons ?_ rfl ?_ | exact u2_int | exact u2_bool | exact u2_slc')
      all_goals (subst hE; simp only [realE, cmp_lss, cmp_leq, cmp_eql, intBinR, decide_eq_true_eq, decide_eq_false_iff_not, SI.val, SB.val, Num.eta, Iv.eta] at *)
      all_goals (replace hn : n = (l.length : Int) := hn)
      all_goals (try rw [wi i h1 ‹i < n›])
      · omega
      · omega
      · omega
      · rw [h3]; unfold Iv.los; rw [Iv.goods_next h1 (by omega), ← hz, ← ‹_ = l.getD i.toNat z›, ← ht, if_pos ‹_›]
      · rw [h4]; unfold Iv.his; rw [Iv.goods_next h1 (by omega), ← hz, ← ‹_ = l.getD i.toNat z›, ← ht, if_pos ‹_›]
      · rw [h5]; unfold Iv.los; rw [Iv.goods_next h1 (by omega), ← hz, ← ‹_ = l.getD i.toNat z›, ← ht, if_pos ‹_›]
      · rw [h6]; unfold Iv.his; rw [Iv.goods_next h1 (by omega), ← hz, ← ‹_ = l.getD i.toNat z›, ← ht, if_pos ‹_›]
      · rw [Iv.allGood_next h1 (by omega), ← hz, ← ‹_ = l.getD i.toNat z›, ← ht, ‹t.empty = true›]; simp
      · show Blk.rows true 4 _ _ = Blk.rows true 4 _ _; rw [h3, rows_rn]
      · show Blk.rows true 4 _ _ = Blk.rows true 4 _ _; rw [h4, rows_rn]
      · rw [h3]; exact rows_in _ _
      · rw [h4]; exact rows_in _ _
    case refine_2.some.refine_1.refine_1.refine_1.hK.refine_2.refine_1.refine_1 =>
      refine ⟨(E.bin .add .i64 i 1, some (E.rapp (E.rsub L 0 k) [t.lo.cells], E.rapp (E.rsub H 0 m) [t.hi.cells], E.plus k 1, E.plus m 1), b), [3, 4], ?_, ⟨?_, ?_, ?_, ?_, ?_, ?_, ?_⟩, stLeM ⟨?_, ?_, trivial⟩ rfl rfl rfl ⟨?_, ?_, trivial⟩ ?_⟩
      rotate_right
      · repeat' (first | exact m_nil | refine m_consA (ms_le rfl rfl) rfl ?_ | refine m_cons ?_ rfl ?_ | exact u2_int | exact u2_bool | exact u2_slc')
      all_goals (subst hE; simp only [realE, cmp_lss, cmp_leq, cmp_eql, intBinR, decide_eq_true_eq, decide_eq_false_iff_not, SI.val, SB.val, Num.eta, Iv.eta] at *)
      all_goals (replace hn : n = (l.length : Int) := hn)
      all_goals (try rw [wi i h1 ‹i < n›])
      · omega
      · omega
      · omega
      · rw [h3, h5, app_rows, Iv.los_next h1 (by omega) (by rw [← hz, ← ‹_ = l.getD i.toNat z›, ← ht]; assumption), ← hz, ← ‹_ = l.getD i.toNat z›, ← ht]
      · rw [h4, h6, app_rows, Iv.his_next h1 (by omega) (by rw [← hz, ← ‹_ = l.getD i.toNat z›, ← ht]; assumption), ← hz, ← ‹_ = l.getD i.toNat z›, ← ht]
      · rw [h5, Iv.los_next h1 (by omega) (by rw [← hz, ← ‹_ = l.getD i.toNat z›, ← ht]; assumption)]; simp
      · rw [h6, Iv.his_next h1 (by omega) (by rw [← hz, ← ‹_ = l.getD i.toNat z›, ← ht]; assumption)]; simp
      · rw [Iv.allGood_next h1 (by omega), ← hz, ← ‹_ = l.getD i.toNat z›, ← ht, ‹t.empty = false›, h7]; simp
      · show Blk.rows true 4 _ _ = Blk.rows true 4 _ _; rw [h3, h5, app_rows, rows_rn]; exact congrArg (Blk.rows true 4 _) (app_rows _ _)
      · show Blk.rows true 4 _ _ = Blk.rows true 4 _ _; rw [h4, h6, app_rows, rows_rn]; exact congrArg (Blk.rows true 4 _) (app_rows _ _)
      · rw [h3, h5, app_rows]; exact rows_in _ _
      · rw [h4, h6, app_rows]; exact rows_in _ _
    case refine_2.some.refine_1.refine_1.refine_1.hK.refine_2.refine_1.refine_2 =>
      exfalso; subst hE; simp only [realE, cmp_lss, cmp_leq, cmp_eql, intBinR, decide_eq_true_eq, decide_eq_false_iff_not, SI.val, SB.val, Num.eta, Iv.eta] at *
      have := Iv.his_len (l.take i.toNat)
      rw [List.length_take] at this
      have e1 : Int.ofNat 1 = 1 := rfl
      replace h6 : _ = ((Iv.his (l.take i.toNat)).length : Int) := h6
      replace hn : n = (l.length : Int) := hn
      omega
    case refine_2.some.refine_1.refine_1.refine_1.hK.refine_2.refine_2 =>
      exfalso; subst hE; simp only [realE, cmp_lss, cmp_leq, cmp_eql, intBinR, decide_eq_true_eq, decide_eq_false_iff_not, SI.val, SB.val, Num.eta, Iv.eta] at *
      have := Iv.los_len (l.take i.toNat)
      rw [List.length_take] at this
      have e1 : Int.ofNat 1 = 1 := rfl
      replace h5 : _ = ((Iv.los (l.take i.toNat)).length : Int) := h5
      replace hn : n = (l.length : Int) := hn
      omega
    all_goals (try (exfalso; subst hE; simp only [realE, cmp_lss, cmp_leq, cmp_eql, intBinR, decide_eq_true_eq, decide_eq_false_iff_not, SI.val, SB.val, Num.eta, Iv.eta] at *; omega))
    subst hE
    simp only [realE, cmp_lss, cmp_leq, cmp_eql, intBinR, decide_eq_true_eq, decide_eq_false_iff_not, SI.val, SB.val, Num.eta, Iv.eta] at *
    replace hn : n = (l.length : Int) := hn
    have hi : i.toNat = l.length := by omega
    rw [hi, List.take_length] at h3 h4 h5 h6 h7
    replace h5 : k = ((Iv.los l).length : Int) := h5
    replace h6 : m = ((Iv.his l).length : Int) := h6
    rw [← hr]
    have qL : allB (allB AV.mf1) L = true := h3 ▸ rows_mf _
    have qH : allB (allB AV.mf1) H = true := h4 ▸ rows_mf _
    refine ⟨⟨by cases L <;> exact qL, by cases H <;> exact qH, trivial⟩, ⟨h5, fun i (hi : i < k.toNat) => ?_⟩, ⟨h6, fun i (hi : i < m.toNat) => ?_⟩, h7, trivial⟩
    · rw [h3, rows_getD _ _ (by omega)]; exact num_cells_self
    · rw [h4, rows_getD _ _ (by omega)]; exact num_cells_self
end Go.Proofs.Ytincnfjihffllaa.Ev

/- Contracts: what intervals have together, and their hull. -/
namespace Go.Proofs.Ytincnfjihffllaa.Ev
open Go Go.Proofs
set_option linter.unusedVariables false
set_option linter.unusedSimpArgs false

theorem Iv.fin9 {t r : Iv} (h : t = r) : t.empty = r.empty ∧ (t.lo.kind = r.lo.kind) ∧ t.lo.neg = r.lo.neg ∧ t.lo.m = r.lo.m ∧ t.lo.e = r.lo.e ∧ t.hi.kind = r.hi.kind ∧ t.hi.neg = r.hi.neg ∧ t.hi.m = r.hi.m ∧ t.hi.e = r.hi.e ∧ True := by
  subst h; exact ⟨rfl, rfl, rfl, rfl, rfl, rfl, rfl, rfl, rfl, trivial⟩
theorem c_meet (l : List Iv) (n : Int) (hn : n = l.length) (hb : n ≤ 17179869184) : ∃ t, t = Iv.meet l ∧ CallsA Try.prog 128 [.slc 9 (.s n) (fun i => Iv.cells (l.getD i Iv.none))] t.av := by
  refine ⟨_, rfl, ?_⟩
  generalize hr : Iv.meet l = r
  refine callsA_of hG hm Try.func128 (by kernel_rfl) ?_
  intro E hE lp hl
  cbv
  (apply E_callX hE (c_ends l n hn hb); (case hf => rfl); (case hc => (cbv <;> trivial)); (case hle => exact ⟨u2_slc', trivial⟩); rintro ⟨L, H, g, k, m⟩ ht; cbv)
  simp only [Prod.mk.injEq] at ht
  obtain ⟨e1, e2, e3, e4, e5⟩ := ht
  replace e4 : k = ((Iv.los l).length : Int) := e4
  replace e5 : m = ((Iv.his l).length : Int) := e5
  replace hn : n = (l.length : Int) := hn
  have q1 := Iv.los_len l
  have q2 := Iv.his_len l
  have k1 : k = (L.length : Int) := by rw [e4, e1]
  have m1 : m = (H.length : Int) := by rw [e5, e2]
  have k2 : k < 9223372036854775808 := by omega
  have k3 : (Iv.los l).length = 0 ↔ k = 0 := by omega
  have m2 : m < 9223372036854775808 := by omega
  refine E_br hE (fun h => ?_) (fun h => ?_) <;> cbv
  · (apply E_callX hE c_ivNone; (case hf => rfl); (case hc => (cbv <;> trivial)); (case hle => exact trivial); intro t' ht'; cbv)
    have e : t' = r := by
      subst hE
      replace h : (!g) = true := h
      rw [← hr, ht']; unfold Iv.meet; rw [if_neg (by rw [← e3]; simpa using h)]
    exact Iv.fin9 e
  · (apply E_callX hE (c_Most L k k1 k2); (case hf => rfl); (case hc => (cbv <;> trivial)); (case hle => exact ⟨u2_slc', trivial⟩); intro a ha; cbv)
    (apply E_callX hE (c_Least H m m1 m2); (case hf => rfl); (case hc => (cbv <;> trivial)); (case hle => exact ⟨u2_slc', trivial⟩); intro b hb; cbv)
    (apply E_callX hE (c_ivMake ⟨_, _, _, _⟩ ⟨_, _, _, _⟩); (case hf => rfl); (case hc => (cbv <;> trivial)); (case hle => (repeat' (first | exact u_nil | apply u_cons | apply u2_agg | exact u2_int | exact u1_int | exact u2_bool | exact u1_bool))); intro t ht; cbv)
    have e : t = r := by
      subst hE
      replace h : (!g) = false := h
      rw [← hr, ht]; unfold Iv.meet; rw [if_pos (by rw [← e3]; simpa using h)]
      show Iv.make a b = _
      rw [ha, hb, e1, e2]
    exact Iv.fin9 e

theorem c_hull (l : List Iv) (n : Int) (hn : n = l.length) (hb : n ≤ 17179869184) : ∃ t, t = Iv.hull l ∧ CallsA Try.prog 50 [.slc 9 (.s n) (fun i => Iv.cells (l.getD i Iv.none))] t.av := by
  refine ⟨_, rfl, ?_⟩
  generalize hr : Iv.hull l = r
  refine callsA_of hG hm Try.func50 (by kernel_rfl) ?_
  intro E hE lp hl
  cbv
  (apply E_callX hE (c_ends l n hn hb); (case hf => rfl); (case hc => (cbv <;> trivial)); (case hle => exact ⟨u2_slc', trivial⟩); rintro ⟨L, H, g, k, m⟩ ht; cbv)
  simp only [Prod.mk.injEq] at ht
  obtain ⟨e1, e2, e3, e4, e5⟩ := ht
  replace e4 : k = ((Iv.los l).length : Int) := e4
  replace e5 : m = ((Iv.his l).length : Int) := e5
  replace hn : n = (l.length : Int) := hn
  have q1 := Iv.los_len l
  have q2 := Iv.his_len l
  have k1 : k = (L.length : Int) := by rw [e4, e1]
  have m1 : m = (H.length : Int) := by rw [e5, e2]
  have k2 : k < 9223372036854775808 := by omega
  have k3 : (Iv.los l).length = 0 ↔ k = 0 := by omega
  have m2 : m < 9223372036854775808 := by omega
  refine E_br hE (fun h => ?_) (fun h => ?_) <;> cbv
  · (apply E_callX hE c_ivNone; (case hf => rfl); (case hc => (cbv <;> trivial)); (case hle => exact trivial); intro t' ht'; cbv)
    have e : t' = r := by
      subst hE
      simp only [realE, cmp_eql, decide_eq_true_eq] at h
      rw [← hr, ht']; unfold Iv.hull; rw [if_pos (k3.2 h)]
    exact Iv.fin9 e
  · (apply E_callX hE (c_Least L k k1 k2); (case hf => rfl); (case hc => (cbv <;> trivial)); (case hle => exact ⟨u2_slc', trivial⟩); intro a ha; cbv)
    (apply E_callX hE (c_Most H m m1 m2); (case hf => rfl); (case hc => (cbv <;> trivial)); (case hle => exact ⟨u2_slc', trivial⟩); intro b hb; cbv)
    (apply E_callX hE (c_ivMake ⟨_, _, _, _⟩ ⟨_, _, _, _⟩); (case hf => rfl); (case hc => (cbv <;> trivial)); (case hle => (repeat' (first | exact u_nil | apply u_cons | apply u2_agg | exact u2_int | exact u1_int | exact u2_bool | exact u1_bool))); intro t ht; cbv)
    have e : t = r := by
      subst hE
      simp only [realE, cmp_eql, decide_eq_false_iff_not] at h
      rw [← hr, ht]; unfold Iv.hull; rw [if_neg (fun q => h (k3.1 q))]
      show Iv.make a b = _
      rw [ha, hb, e1, e2]
    exact Iv.fin9 e
end Go.Proofs.Ytincnfjihffllaa.Ev
