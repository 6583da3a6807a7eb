/- Texts of the proof, joined: C8 C22 N5 N6 Ev28 N7 N8 N9 N10 C9 N11 W2 N12 W5 C9h C11 D2 W10 D3 Pu18 Pu19 Pu40 Pu41 D5 D6 Pu20 Pu21 Pu22 Pu23 C10 C12a C13 C14 C15 C16 C17 C18 C19 C20 Ok1 C23 Pu24 Pu25 Pu26 Pu28a Pu28 Pu29 Pu30 Pu31 Pu32 -/
import Derived.Test.YtpadpcjdakfokaaDoorB4
import Derived.Laws.Externs
set_option linter.unusedVariables false
set_option linter.unusedSimpArgs false

/- Contracts: a division of two words by one. -/
namespace Go.Proofs.YtpadpcjdakfokaaDoor.Ev
open Go Go.Proofs
set_option linter.unusedVariables false
set_option maxHeartbeats 4000000 in
theorem c_Div64 (hi lo y : Int) (h1 : 0 ≤ hi) (h2 : hi < y) (h3 : 9223372036854775808 ≤ y) (h4 : y < 18446744073709551616) (h5 : 0 ≤ lo) (h6 : lo < 18446744073709551616) :
    ∃ t : Int × Int, t = ((hi * 18446744073709551616 + lo) / y, (hi * 18446744073709551616 + lo) % y) ∧
      CallsA Tryd.prog 107 [.int .u64 (.s hi), .int .u64 (.s lo), .int .u64 (.s y)] (.tup [.int .u64 (.s t.1), .int .u64 (.s t.2)]) := by
  refine ⟨_, rfl, ?_⟩
  generalize hr : ((hi * 18446744073709551616 + lo) / y, (hi * 18446744073709551616 + lo) % y) = r
  refine callsA_of hG hm Tryd.func107 (by kernel_rfl) ?_
  intro E hE lp hl
  cbv
  refine E_br hE (fun a => ?_) (fun a => ?_)
  · exfalso; subst hE; simp only [realE, cmp_eql, decide_eq_true_eq] at a; omega
  clear a; cbv
  refine E_br hE (fun a => ?_) (fun a => ?_)
  · exfalso; subst hE; simp only [realE, cmp_leq, decide_eq_true_eq] at a; omega
  clear a; cbv
  refine E_br hE (fun a => ?_) (fun a => ?_)
  · have e : hi = 0 := by subst hE; simpa only [realE, cmp_eql, decide_eq_true_eq] using a
    cbv
    refine E_br hE (fun a => ?_) (fun a => ?_)
    · exfalso; subst hE; simp only [realE, cmp_eql, decide_eq_true_eq] at a; omega
    cbv
    repeat' (first
      | (refine E_nm hE (fun v hv => ?_); cbv)
      | (refine E_br hE (fun a => ?_) (fun a => ?_); (exfalso; subst hE; simp only [realE, cmp_eql, decide_eq_true_eq] at a; omega); cbv)
      | fail)
    rename_i v1 hv1
    subst hE
    have b1 := Int.ediv_nonneg h5 (show (0 : Int) ≤ y by omega)
    have b2 := Int.ediv_le_self y h5
    have e1 : v1 = lo / y := by
      rw [hv1]; show IntKind.u64.wrap (lo.tdiv y) = _; rw [Int.tdiv_eq_ediv_of_nonneg h5, wu64]; omega
    have e2 : v = lo % y := by rw [hv]; show lo.tmod y = _; rw [Int.tmod_eq_emod_of_nonneg h5]
    rw [← hr, e, e1, e2]
    simp
  clear a; cbv
  (apply E_callX hE (c_LZ64 y (by omega) (by omega)); (case hf => rfl); (case hc => (cbv <;> trivial)); (case hle => exact ⟨u2_int, trivial⟩); intro t ht; cbv)
  have ht0 : t = 0 := by rw [ht, blen_top h3 h4]; rfl
  subst ht0
  refine E_nm hE (fun s hs => ?_)
  have e : s = 0 := by subst hE; rw [hs]; rfl
  subst e; cbv
  refine E_br hE (fun a => ?_) (fun a => ?_)
  · exfalso; subst hE; simp only [realE, cmp_lss, decide_eq_true_eq] at a; omega
  cbv
  refine E_nm hE (fun y' hy' => ?_)
  have e : y' = y := by subst hE; rw [hy']; exact shl0 y (by omega) h4
  subst e; cbv
  refine E_nm hE (fun yh hyh => ?_)
  have e1 : yh = y' / 4294967296 := by subst hE; rw [hyh]; exact shr32 y'
  clear hyh; cbv
  refine E_nm hE (fun yl hyl => ?_)
  have e2 : yl = y' % 4294967296 := by subst hE; rw [hyl]; exact and_32' y'
  clear hyl; cbv
  refine E_br hE (fun a => ?_) (fun a => ?_)
  · exfalso; subst hE; simp only [realE, cmp_lss, decide_eq_true_eq] at a; omega
  cbv
  refine E_br hE (fun a => ?_) (fun a => ?_)
  · exfalso; subst hE; simp only [realE, cmp_lss, decide_eq_true_eq, intBinR] at a; rw [show IntKind.u64.wrap (64 - 0) = 64 by decide] at a; omega
  cbv
  refine E_nm hE (fun u hu => ?_)
  have e : u = hi := by
    subst hE; rw [hu]
    show IntKind.u64.wrap ((BitVec.ofInt IntKind.u64.bits (IntKind.u64.wrap (hi * 2 ^ min (Int.toNat 0) IntKind.u64.bits)) ||| BitVec.ofInt IntKind.u64.bits (lo.fdiv (2 ^ min (Int.toNat 64) IntKind.u64.bits))).toNat : Int) = hi
    rw [shl0 hi h1 (by omega), shr64 lo h5 h6, or_0 hi h1 (by omega)]
  subst e; cbv
  refine E_br hE (fun a => ?_) (fun a => ?_)
  · exfalso; subst hE; simp only [realE, cmp_lss, decide_eq_true_eq] at a; omega
  cbv
  refine E_nm hE (fun l' hl' => ?_)
  have e : l' = lo := by subst hE; rw [hl']; exact shl0 lo h5 h6
  subst e; cbv
  refine E_nm hE (fun lh hlh => ?_)
  have e3 : lh = l' / 4294967296 := by subst hE; rw [hlh]; exact shr32 l'
  clear hlh; cbv
  refine E_nm hE (fun ll hll => ?_)
  have e4 : ll = l' % 4294967296 := by subst hE; rw [hll]; exact and_32' l'
  clear hll; cbv
  refine E_br hE (fun a => ?_) (fun a => ?_)
  · exfalso; subst hE; simp only [realE, cmp_eql, decide_eq_true_eq] at a; omega
  cbv
  refine E_nm hE (fun q0 hq0 => ?_)
  have e5 : q0 = u / yh := by
    subst hE; rw [hq0]; show IntKind.u64.wrap (u.tdiv yh) = _
    have b1 := Int.ediv_nonneg h1 (show (0 : Int) ≤ yh by omega)
    have b2 := Int.ediv_le_self yh h1
    rw [Int.tdiv_eq_ediv_of_nonneg h1, wu64]; omega
  clear hq0; cbv
  refine E_nm hE (fun r0 hr0 => ?_)
  have D0 : Dig y' u lh q0 (u - q0 * yh) := by
    have := dig_start (y := y') (u := u) (un := lh) h3 h4 h1 h2 (by omega) (by omega)
    rw [← e1, ← e5] at this; exact this
  have e6 : r0 = u - q0 * yh := by
    subst hE; rw [hr0]; show IntKind.u64.wrap (u - IntKind.u64.wrap (q0 * yh)) = _
    have b1 := D0.pos
    have b2 := Int.mul_nonneg D0.nn (show (0 : Int) ≤ yh by omega)
    rw [wu64, wu64]
    generalize q0 * yh = p at *
    omega
  rw [← e6] at D0
  clear hr0 e6; cbv
  clear hs ht hy' hu hl' e5 a
  refine E_loop hE hG hm hl (ι := Int × Int) (fun p => ⟨[(2, .int .u64 (.s y')), (8, .int .u64 (.s 0)), (9, .int .u64 (.s yh)), (10, .int .u64 (.s yl)), (11, .int .u64 (.s u)), (12, .int .u64 (.s l')), (13, .int .u64 (.s lh)), (14, .int .u64 (.s ll)), (15, .int .u64 (.s p.1)), (16, .int .u64 (.s p.2))], []⟩)
    (fun p => p.1.toNat) (fun p => Dig y' u lh p.1 p.2) ⟨(q0, r0), D0, stLe rfl ?_⟩ ?_
  · repeat' (first | exact t_nil | apply t_cons | exact u2_int)
  rintro ⟨q, r'⟩ D
  dsimp only at D
  cbv
  have W := dig_words h3 h4 (show 0 ≤ lh by omega) (by omega) D
  rw [← e1, ← e2] at W
  have less : (4294967296 ≤ q ∨ r' * 4294967296 + lh < q * yl) → u * 4294967296 + lh < (q - 1 + 1) * y' ∧ r' + yh = u - (q - 1) * yh ∧ 1 ≤ q := by
    intro h; rw [e1]; exact dig_less h3 h4 h1 h2 (by omega) (by omega) D (by rw [← e2]; exact h)
  refine E_br hE (fun a => ?_) (fun a => ?_)
  · have H' : 4294967296 ≤ q ∨ r' * 4294967296 + lh < q * yl := .inl (by subst hE; simpa only [realE, cmp_geq, decide_eq_true_eq] using a)
    clear a
    cbv
    refine E_nm hE (fun qn hqn => ?_)
    cbv
    refine E_nm hE (fun rn hrn => ?_)
    obtain ⟨l1, l2, l3⟩ := less H'
    have eqn : qn = q - 1 := by
      subst hE; rw [hqn]; show IntKind.u64.wrap (q - 1) = _
      have := D.top
      rw [wu64]; omega
    have ern : rn = r' + yh := by subst hE; rw [hrn]; exact W.2.2
    rw [← eqn] at l1 l2
    rw [← ern] at l2
    cbv
    refine E_br hE (fun c => ?_) (fun c => ?_)
    · have c' : 4294967296 ≤ rn := by subst hE; simpa only [realE, cmp_geq, decide_eq_true_eq] using c
      have dt := D.top
      have R : Right y' u lh qn := right_of h3 h2 (by omega) (dig_right h3 h4 (by rw [← e1]; exact l2) (dig_break h4 (by omega) (by omega) (by omega) c')) l1 (by omega)
      clear hqn hrn c c' l1 l2 l3 H'
      cbv
      refine E_nm hE (fun w hw => ?_)
      have ew : w = u * 4294967296 + lh - qn * y' := by subst hE; rw [hw]; exact right_wrap h4 R
      have lw := right_left R
      rw [← ew] at lw
      clear hw
      cbv
      refine E_br hE (fun a => ?_) (fun a => ?_)
      · exfalso; subst hE; simp only [realE, cmp_eql, decide_eq_true_eq] at a; omega
      cbv
      refine E_nm hE (fun p0 hp0 => ?_)
      have e5 : p0 = w / yh := by
        subst hE; rw [hp0]; show IntKind.u64.wrap (w.tdiv yh) = _
        have b1 := Int.ediv_nonneg lw.1 (show (0 : Int) ≤ yh by omega)
        have b2 := Int.ediv_le_self yh lw.1
        rw [Int.tdiv_eq_ediv_of_nonneg lw.1, wu64]; omega
      clear hp0; cbv
      refine E_nm hE (fun s0 hs0 => ?_)
      have D1 : Dig y' w ll p0 (w - p0 * yh) := by
        have := dig_start (y := y') (u := w) (un := ll) h3 h4 lw.1 lw.2 (by omega) (by omega)
        rw [← e1, ← e5] at this; exact this
      have e6 : s0 = w - p0 * yh := by
        subst hE; rw [hs0]; show IntKind.u64.wrap (w - IntKind.u64.wrap (p0 * yh)) = _
        have b1 := D1.pos
        have b2 := Int.mul_nonneg D1.nn (show (0 : Int) ≤ yh by omega)
        rw [wu64, wu64]
        generalize p0 * yh = p at *
        omega
      rw [← e6] at D1
      clear hs0 e6 e5 a
      cbv
      refine E_loop hE hG hm hl (ι := Int × Int) (fun p => ⟨[(2, .int .u64 (.s y')), (8, .int .u64 (.s 0)), (9, .int .u64 (.s yh)), (10, .int .u64 (.s yl)), (14, .int .u64 (.s ll)), (15, .int .u64 (.s qn)), (17, .int .u64 (.s w)), (18, .int .u64 (.s p.1)), (16, .int .u64 (.s p.2))], []⟩)
        (fun p => p.1.toNat) (fun p => Dig y' w ll p.1 p.2) ⟨(p0, s0), D1, stLe rfl (by repeat' (first | exact t_nil | apply t_cons | exact u2_int))⟩ ?_
      rintro ⟨p, s⟩ D2
      dsimp only at D2
      cbv
      have W2 := dig_words h3 h4 (show 0 ≤ ll by omega) (by omega) D2
      rw [← e1, ← e2] at W2
      have less2 : (4294967296 ≤ p ∨ s * 4294967296 + ll < p * yl) → w * 4294967296 + ll < (p - 1 + 1) * y' ∧ s + yh = w - (p - 1) * yh ∧ 1 ≤ p := by
        intro h; rw [e1]; exact dig_less h3 h4 lw.1 lw.2 (by omega) (by omega) D2 (by rw [← e2]; exact h)
      have dt2 := D2.top
      have dp2 := D2.pos
      refine E_br hE (fun a => ?_) (fun a => ?_)
      · have H2 : 4294967296 ≤ p ∨ s * 4294967296 + ll < p * yl := .inl (by subst hE; simpa only [realE, cmp_geq, decide_eq_true_eq] using a)
        clear a
        cbv
        refine E_nm hE (fun pn hpn => ?_)
        cbv
        refine E_nm hE (fun sn hsn => ?_)
        obtain ⟨l1, l2, l3⟩ := less2 H2
        have epn : pn = p - 1 := by
          subst hE; rw [hpn]; show IntKind.u64.wrap (p - 1) = _
          rw [wu64]; omega
        have esn : sn = s + yh := by subst hE; rw [hsn]; exact W2.2.2
        rw [← epn] at l1 l2
        rw [← esn] at l2
        cbv
        refine E_br hE (fun c => ?_) (fun c => ?_)
        · have c' : 4294967296 ≤ sn := by subst hE; simpa only [realE, cmp_geq, decide_eq_true_eq] using c
          have R2 : Right y' w ll pn := right_of h3 lw.2 (by omega) (dig_right h3 h4 (by rw [← e1]; exact l2) (dig_break h4 (by omega) (by omega) (by omega) c')) l1 (by omega)
          clear hpn hsn c c' l1 l2 l3 H2
          cbv
          refine E_br hE (fun a => ?_) (fun a => ?_)
          · exfalso; subst hE; simp only [realE, cmp_lss, decide_eq_true_eq] at a; omega
          clear a; cbv
          repeat' (first
            | (refine E_nm hE (fun v hv => ?_); cbv)
            | fail)
          rename_i v1 hv1
          obtain ⟨f1, f2⟩ := two_digits (y := y') (by omega) ew R R2
          subst hE
          have g1 : v1 = qn * 4294967296 + pn := by
            rw [hv1]; show IntKind.u64.wrap (IntKind.u64.wrap (qn * 4294967296) + pn) = _
            have := R.small; have := R2.small; have := R.nn; have := R2.nn
            rw [wu64, wu64]; omega
          have g2 : v = w * 4294967296 + ll - pn * y' := by
            rw [hv]; show (IntKind.u64.wrap (IntKind.u64.wrap (IntKind.u64.wrap (w * 4294967296) + ll) - IntKind.u64.wrap (pn * y'))).fdiv (2 ^ min (Int.toNat 0) IntKind.u64.bits) = _
            rw [right_wrap h4 R2, show (2 : Int) ^ min (Int.toNat 0) IntKind.u64.bits = 1 by decide, shr_lit (by decide), Int.ediv_one]
          have el : l' = lh * 4294967296 + ll := by omega
          rw [← el] at f1 f2
          rw [← hr, g1, g2]
          exact ⟨f1.symm, f2.symm, trivial⟩
        · have c' : sn < 4294967296 := by
            have : ¬ 4294967296 ≤ sn := by subst hE; simpa only [realE, cmp_geq, decide_eq_false_iff_not] using c
            omega
          clear hpn hsn
          cbv
          exact ⟨(pn, sn), by (show pn.toNat < p.toNat; omega), ⟨l1, by rw [← e1]; exact l2, by (show 0 ≤ sn; omega), c', by (show pn ≤ 4294967297; omega), by (show 0 ≤ pn; omega)⟩, stLe rfl (by repeat' (first | exact t_nil | apply t_cons | exact u2_int))⟩
      have a2 : p < 4294967296 := by
        have : ¬ 4294967296 ≤ p := by subst hE; simpa only [realE, cmp_geq, decide_eq_false_iff_not] using a
        omega
      cbv
      refine E_br hE (fun b => ?_) (fun b => ?_)
      · have H2 : 4294967296 ≤ p ∨ s * 4294967296 + ll < p * yl := .inr (by
          subst hE; simp only [realE, cmp_gtr, intBinR, decide_eq_true_eq] at b
          rw [W2.1 a2, W2.2.1] at b; exact b)
        clear b
        cbv
        refine E_nm hE (fun pn hpn => ?_)
        cbv
        refine E_nm hE (fun sn hsn => ?_)
        obtain ⟨l1, l2, l3⟩ := less2 H2
        have epn : pn = p - 1 := by
          subst hE; rw [hpn]; show IntKind.u64.wrap (p - 1) = _
          rw [wu64]; omega
        have esn : sn = s + yh := by subst hE; rw [hsn]; exact W2.2.2
        rw [← epn] at l1 l2
        rw [← esn] at l2
        cbv
        refine E_br hE (fun c => ?_) (fun c => ?_)
        · have c' : 4294967296 ≤ sn := by subst hE; simpa only [realE, cmp_geq, decide_eq_true_eq] using c
          have R2 : Right y' w ll pn := right_of h3 lw.2 (by omega) (dig_right h3 h4 (by rw [← e1]; exact l2) (dig_break h4 (by omega) (by omega) (by omega) c')) l1 (by omega)
          clear hpn hsn c c' l1 l2 l3 H2
          cbv
          refine E_br hE (fun a => ?_) (fun a => ?_)
          · exfalso; subst hE; simp only [realE, cmp_lss, decide_eq_true_eq] at a; omega
          clear a; cbv
          repeat' (first
            | (refine E_nm hE (fun v hv => ?_); cbv)
            | fail)
          rename_i v1 hv1
          obtain ⟨f1, f2⟩ := two_digits (y := y') (by omega) ew R R2
          subst hE
          have g1 : v1 = qn * 4294967296 + pn := by
            rw [hv1]; show IntKind.u64.wrap (IntKind.u64.wrap (qn * 4294967296) + pn) = _
            have := R.small; have := R2.small; have := R.nn; have := R2.nn
            rw [wu64, wu64]; omega
          have g2 : v = w * 4294967296 + ll - pn * y' := by
            rw [hv]; show (IntKind.u64.wrap (IntKind.u64.wrap (IntKind.u64.wrap (w * 4294967296) + ll) - IntKind.u64.wrap (pn * y'))).fdiv (2 ^ min (Int.toNat 0) IntKind.u64.bits) = _
            rw [right_wrap h4 R2, show (2 : Int) ^ min (Int.toNat 0) IntKind.u64.bits = 1 by decide, shr_lit (by decide), Int.ediv_one]
          have el : l' = lh * 4294967296 + ll := by omega
          rw [← el] at f1 f2
          rw [← hr, g1, g2]
          exact ⟨f1.symm, f2.symm, trivial⟩
        · have c' : sn < 4294967296 := by
            have : ¬ 4294967296 ≤ sn := by subst hE; simpa only [realE, cmp_geq, decide_eq_false_iff_not] using c
            omega
          clear hpn hsn
          cbv
          exact ⟨(pn, sn), by (show pn.toNat < p.toNat; omega), ⟨l1, by rw [← e1]; exact l2, by (show 0 ≤ sn; omega), c', by (show pn ≤ 4294967297; omega), by (show 0 ≤ pn; omega)⟩, stLe rfl (by repeat' (first | exact t_nil | apply t_cons | exact u2_int))⟩
      have b2 : p * yl ≤ s * 4294967296 + ll := by
        subst hE; simp only [realE, cmp_gtr, intBinR, decide_eq_false_iff_not] at b
        rw [W2.1 a2, W2.2.1] at b; omega
      have R2 : Right y' w ll p := right_of h3 lw.2 (by omega) (dig_right h3 h4 D2.rest (by rw [← e2]; exact b2)) D2.lt D2.nn
      cbv
      refine E_br hE (fun a => ?_) (fun a => ?_)
      · exfalso; subst hE; simp only [realE, cmp_lss, decide_eq_true_eq] at a; omega
      clear a; cbv
      repeat' (first
        | (refine E_nm hE (fun v hv => ?_); cbv)
        | fail)
      rename_i v1 hv1
      obtain ⟨f1, f2⟩ := two_digits (y := y') (by omega) ew R R2
      subst hE
      have g1 : v1 = qn * 4294967296 + p := by
        rw [hv1]; show IntKind.u64.wrap (IntKind.u64.wrap (qn * 4294967296) + p) = _
        have := R.small; have := R2.small; have := R.nn; have := R2.nn
        rw [wu64, wu64]; omega
      have g2 : v = w * 4294967296 + ll - p * y' := by
        rw [hv]; show (IntKind.u64.wrap (IntKind.u64.wrap (IntKind.u64.wrap (w * 4294967296) + ll) - IntKind.u64.wrap (p * y'))).fdiv (2 ^ min (Int.toNat 0) IntKind.u64.bits) = _
        rw [right_wrap h4 R2, show (2 : Int) ^ min (Int.toNat 0) IntKind.u64.bits = 1 by decide, shr_lit (by decide), Int.ediv_one]
      have el : l' = lh * 4294967296 + ll := by omega
      rw [← el] at f1 f2
      rw [← hr, g1, g2]
      exact ⟨f1.symm, f2.symm, trivial⟩
    · have c' : rn < 4294967296 := by
        have : ¬ 4294967296 ≤ rn := by subst hE; simpa only [realE, cmp_geq, decide_eq_false_iff_not] using c
        omega
      have dt := D.top
      have dp := D.pos
      clear hqn hrn
      cbv
      exact ⟨(qn, rn), by (show qn.toNat < q.toNat; omega), ⟨l1, by rw [← e1]; exact l2, by (show 0 ≤ rn; omega), c', by (show qn ≤ 4294967297; omega), by (show 0 ≤ qn; omega)⟩, stLe rfl (by repeat' (first | exact t_nil | apply t_cons | exact u2_int))⟩
  have a' : q < 4294967296 := by
    have : ¬ 4294967296 ≤ q := by subst hE; simpa only [realE, cmp_geq, decide_eq_false_iff_not] using a
    omega
  cbv
  refine E_br hE (fun b => ?_) (fun b => ?_)
  · have H' : 4294967296 ≤ q ∨ r' * 4294967296 + lh < q * yl := .inr (by
      subst hE; simp only [realE, cmp_gtr, intBinR, decide_eq_true_eq] at b
      rw [W.1 a', W.2.1] at b; exact b)
    clear b
    cbv
    refine E_nm hE (fun qn hqn => ?_)
    cbv
    refine E_nm hE (fun rn hrn => ?_)
    obtain ⟨l1, l2, l3⟩ := less H'
    have eqn : qn = q - 1 := by
      subst hE; rw [hqn]; show IntKind.u64.wrap (q - 1) = _
      have := D.top
      rw [wu64]; omega
    have ern : rn = r' + yh := by subst hE; rw [hrn]; exact W.2.2
    rw [← eqn] at l1 l2
    rw [← ern] at l2
    cbv
    refine E_br hE (fun c => ?_) (fun c => ?_)
    · have c' : 4294967296 ≤ rn := by subst hE; simpa only [realE, cmp_geq, decide_eq_true_eq] using c
      have dt := D.top
      have R : Right y' u lh qn := right_of h3 h2 (by omega) (dig_right h3 h4 (by rw [← e1]; exact l2) (dig_break h4 (by omega) (by omega) (by omega) c')) l1 (by omega)
      clear hqn hrn c c' l1 l2 l3 H'
      cbv
      refine E_nm hE (fun w hw => ?_)
      have ew : w = u * 4294967296 + lh - qn * y' := by subst hE; rw [hw]; exact right_wrap h4 R
      have lw := right_left R
      rw [← ew] at lw
      clear hw
      cbv
      refine E_br hE (fun a => ?_) (fun a => ?_)
      · exfalso; subst hE; simp only [realE, cmp_eql, decide_eq_true_eq] at a; omega
      cbv
      refine E_nm hE (fun p0 hp0 => ?_)
      have e5 : p0 = w / yh := by
        subst hE; rw [hp0]; show IntKind.u64.wrap (w.tdiv yh) = _
        have b1 := Int.ediv_nonneg lw.1 (show (0 : Int) ≤ yh by omega)
        have b2 := Int.ediv_le_self yh lw.1
        rw [Int.tdiv_eq_ediv_of_nonneg lw.1, wu64]; omega
      clear hp0; cbv
      refine E_nm hE (fun s0 hs0 => ?_)
      have D1 : Dig y' w ll p0 (w - p0 * yh) := by
        have := dig_start (y := y') (u := w) (un := ll) h3 h4 lw.1 lw.2 (by omega) (by omega)
        rw [← e1, ← e5] at this; exact this
      have e6 : s0 = w - p0 * yh := by
        subst hE; rw [hs0]; show IntKind.u64.wrap (w - IntKind.u64.wrap (p0 * yh)) = _
        have b1 := D1.pos
        have b2 := Int.mul_nonneg D1.nn (show (0 : Int) ≤ yh by omega)
        rw [wu64, wu64]
        generalize p0 * yh = p at *
        omega
      rw [← e6] at D1
      clear hs0 e6 e5 a
      cbv
      refine E_loop hE hG hm hl (ι := Int × Int) (fun p => ⟨[(2, .int .u64 (.s y')), (8, .int .u64 (.s 0)), (9, .int .u64 (.s yh)), (10, .int .u64 (.s yl)), (14, .int .u64 (.s ll)), (15, .int .u64 (.s qn)), (17, .int .u64 (.s w)), (18, .int .u64 (.s p.1)), (16, .int .u64 (.s p.2))], []⟩)
        (fun p => p.1.toNat) (fun p => Dig y' w ll p.1 p.2) ⟨(p0, s0), D1, stLe rfl (by repeat' (first | exact t_nil | apply t_cons | exact u2_int))⟩ ?_
      rintro ⟨p, s⟩ D2
      dsimp only at D2
      cbv
      have W2 := dig_words h3 h4 (show 0 ≤ ll by omega) (by omega) D2
      rw [← e1, ← e2] at W2
      have less2 : (4294967296 ≤ p ∨ s * 4294967296 + ll < p * yl) → w * 4294967296 + ll < (p - 1 + 1) * y' ∧ s + yh = w - (p - 1) * yh ∧ 1 ≤ p := by
        intro h; rw [e1]; exact dig_less h3 h4 lw.1 lw.2 (by omega) (by omega) D2 (by rw [← e2]; exact h)
      have dt2 := D2.top
      have dp2 := D2.pos
      refine E_br hE (fun a => ?_) (fun a => ?_)
      · have H2 : 4294967296 ≤ p ∨ s * 4294967296 + ll < p * yl := .inl (by subst hE; simpa only [realE, cmp_geq, decide_eq_true_eq] using a)
        clear a
        cbv
        refine E_nm hE (fun pn hpn => ?_)
        cbv
        refine E_nm hE (fun sn hsn => ?_)
        obtain ⟨l1, l2, l3⟩ := less2 H2
        have epn : pn = p - 1 := by
          subst hE; rw [hpn]; show IntKind.u64.wrap (p - 1) = _
          rw [wu64]; omega
        have esn : sn = s + yh := by subst hE; rw [hsn]; exact W2.2.2
        rw [← epn] at l1 l2
        rw [← esn] at l2
        cbv
        refine E_br hE (fun c => ?_) (fun c => ?_)
        · have c' : 4294967296 ≤ sn := by subst hE; simpa only [realE, cmp_geq, decide_eq_true_eq] using c
          have R2 : Right y' w ll pn := right_of h3 lw.2 (by omega) (dig_right h3 h4 (by rw [← e1]; exact l2) (dig_break h4 (by omega) (by omega) (by omega) c')) l1 (by omega)
          clear hpn hsn c c' l1 l2 l3 H2
          cbv
          refine E_br hE (fun a => ?_) (fun a => ?_)
          · exfalso; subst hE; simp only [realE, cmp_lss, decide_eq_true_eq] at a; omega
          clear a; cbv
          repeat' (first
            | (refine E_nm hE (fun v hv => ?_); cbv)
            | fail)
          rename_i v1 hv1
          obtain ⟨f1, f2⟩ := two_digits (y := y') (by omega) ew R R2
          subst hE
          have g1 : v1 = qn * 4294967296 + pn := by
            rw [hv1]; show IntKind.u64.wrap (IntKind.u64.wrap (qn * 4294967296) + pn) = _
            have := R.small; have := R2.small; have := R.nn; have := R2.nn
            rw [wu64, wu64]; omega
          have g2 : v = w * 4294967296 + ll - pn * y' := by
            rw [hv]; show (IntKind.u64.wrap (IntKind.u64.wrap (IntKind.u64.wrap (w * 4294967296) + ll) - IntKind.u64.wrap (pn * y'))).fdiv (2 ^ min (Int.toNat 0) IntKind.u64.bits) = _
            rw [right_wrap h4 R2, show (2 : Int) ^ min (Int.toNat 0) IntKind.u64.bits = 1 by decide, shr_lit (by decide), Int.ediv_one]
          have el : l' = lh * 4294967296 + ll := by omega
          rw [← el] at f1 f2
          rw [← hr, g1, g2]
          exact ⟨f1.symm, f2.symm, trivial⟩
        · have c' : sn < 4294967296 := by
            have : ¬ 4294967296 ≤ sn := by subst hE; simpa only [realE, cmp_geq, decide_eq_false_iff_not] using c
            omega
          clear hpn hsn
          cbv
          exact ⟨(pn, sn), by (show pn.toNat < p.toNat; omega), ⟨l1, by rw [← e1]; exact l2, by (show 0 ≤ sn; omega), c', by (show pn ≤ 4294967297; omega), by (show 0 ≤ pn; omega)⟩, stLe rfl (by repeat' (first | exact t_nil | apply t_cons | exact u2_int))⟩
      have a2 : p < 4294967296 := by
        have : ¬ 4294967296 ≤ p := by subst hE; simpa only [realE, cmp_geq, decide_eq_false_iff_not] using a
        omega
      cbv
      refine E_br hE (fun b => ?_) (fun b => ?_)
      · have H2 : 4294967296 ≤ p ∨ s * 4294967296 + ll < p * yl := .inr (by
          subst hE; simp only [realE, cmp_gtr, intBinR, decide_eq_true_eq] at b
          rw [W2.1 a2, W2.2.1] at b; exact b)
        clear b
        cbv
        refine E_nm hE (fun pn hpn => ?_)
        cbv
        refine E_nm hE (fun sn hsn => ?_)
        obtain ⟨l1, l2, l3⟩ := less2 H2
        have epn : pn = p - 1 := by
          subst hE; rw [hpn]; show IntKind.u64.wrap (p - 1) = _
          rw [wu64]; omega
        have esn : sn = s + yh := by subst hE; rw [hsn]; exact W2.2.2
        rw [← epn] at l1 l2
        rw [← esn] at l2
        cbv
        refine E_br hE (fun c => ?_) (fun c => ?_)
        · have c' : 4294967296 ≤ sn := by subst hE; simpa only [realE, cmp_geq, decide_eq_true_eq] using c
          have R2 : Right y' w ll pn := right_of h3 lw.2 (by omega) (dig_right h3 h4 (by rw [← e1]; exact l2) (dig_break h4 (by omega) (by omega) (by omega) c')) l1 (by omega)
          clear hpn hsn c c' l1 l2 l3 H2
          cbv
          refine E_br hE (fun a => ?_) (fun a => ?_)
          · exfalso; subst hE; simp only [realE, cmp_lss, decide_eq_true_eq] at a; omega
          clear a; cbv
          repeat' (first
            | (refine E_nm hE (fun v hv => ?_); cbv)
            | fail)
          rename_i v1 hv1
          obtain ⟨f1, f2⟩ := two_digits (y := y') (by omega) ew R R2
          subst hE
          have g1 : v1 = qn * 4294967296 + pn := by
            rw [hv1]; show IntKind.u64.wrap (IntKind.u64.wrap (qn * 4294967296) + pn) = _
            have := R.small; have := R2.small; have := R.nn; have := R2.nn
            rw [wu64, wu64]; omega
          have g2 : v = w * 4294967296 + ll - pn * y' := by
            rw [hv]; show (IntKind.u64.wrap (IntKind.u64.wrap (IntKind.u64.wrap (w * 4294967296) + ll) - IntKind.u64.wrap (pn * y'))).fdiv (2 ^ min (Int.toNat 0) IntKind.u64.bits) = _
            rw [right_wrap h4 R2, show (2 : Int) ^ min (Int.toNat 0) IntKind.u64.bits = 1 by decide, shr_lit (by decide), Int.ediv_one]
          have el : l' = lh * 4294967296 + ll := by omega
          rw [← el] at f1 f2
          rw [← hr, g1, g2]
          exact ⟨f1.symm, f2.symm, trivial⟩
        · have c' : sn < 4294967296 := by
            have : ¬ 4294967296 ≤ sn := by subst hE; simpa only [realE, cmp_geq, decide_eq_false_iff_not] using c
            omega
          clear hpn hsn
          cbv
          exact ⟨(pn, sn), by (show pn.toNat < p.toNat; omega), ⟨l1, by rw [← e1]; exact l2, by (show 0 ≤ sn; omega), c', by (show pn ≤ 4294967297; omega), by (show 0 ≤ pn; omega)⟩, stLe rfl (by repeat' (first | exact t_nil | apply t_cons | exact u2_int))⟩
      have b2 : p * yl ≤ s * 4294967296 + ll := by
        subst hE; simp only [realE, cmp_gtr, intBinR, decide_eq_false_iff_not] at b
        rw [W2.1 a2, W2.2.1] at b; omega
      have R2 : Right y' w ll p := right_of h3 lw.2 (by omega) (dig_right h3 h4 D2.rest (by rw [← e2]; exact b2)) D2.lt D2.nn
      cbv
      refine E_br hE (fun a => ?_) (fun a => ?_)
      · exfalso; subst hE; simp only [realE, cmp_lss, decide_eq_true_eq] at a; omega
      clear a; cbv
      repeat' (first
        | (refine E_nm hE (fun v hv => ?_); cbv)
        | fail)
      rename_i v1 hv1
      obtain ⟨f1, f2⟩ := two_digits (y := y') (by omega) ew R R2
      subst hE
      have g1 : v1 = qn * 4294967296 + p := by
        rw [hv1]; show IntKind.u64.wrap (IntKind.u64.wrap (qn * 4294967296) + p) = _
        have := R.small; have := R2.small; have := R.nn; have := R2.nn
        rw [wu64, wu64]; omega
      have g2 : v = w * 4294967296 + ll - p * y' := by
        rw [hv]; show (IntKind.u64.wrap (IntKind.u64.wrap (IntKind.u64.wrap (w * 4294967296) + ll) - IntKind.u64.wrap (p * y'))).fdiv (2 ^ min (Int.toNat 0) IntKind.u64.bits) = _
        rw [right_wrap h4 R2, show (2 : Int) ^ min (Int.toNat 0) IntKind.u64.bits = 1 by decide, shr_lit (by decide), Int.ediv_one]
      have el : l' = lh * 4294967296 + ll := by omega
      rw [← el] at f1 f2
      rw [← hr, g1, g2]
      exact ⟨f1.symm, f2.symm, trivial⟩
    · have c' : rn < 4294967296 := by
        have : ¬ 4294967296 ≤ rn := by subst hE; simpa only [realE, cmp_geq, decide_eq_false_iff_not] using c
        omega
      have dt := D.top
      have dp := D.pos
      clear hqn hrn
      cbv
      exact ⟨(qn, rn), by (show qn.toNat < q.toNat; omega), ⟨l1, by rw [← e1]; exact l2, by (show 0 ≤ rn; omega), c', by (show qn ≤ 4294967297; omega), by (show 0 ≤ qn; omega)⟩, stLe rfl (by repeat' (first | exact t_nil | apply t_cons | exact u2_int))⟩
  have b' : q * yl ≤ r' * 4294967296 + lh := by
    subst hE; simp only [realE, cmp_gtr, intBinR, decide_eq_false_iff_not] at b
    rw [W.1 a', W.2.1] at b; omega
  have R : Right y' u lh q := right_of h3 h2 (by omega) (dig_right h3 h4 D.rest (by rw [← e2]; exact b')) D.lt D.nn
  cbv
  refine E_nm hE (fun w hw => ?_)
  have ew : w = u * 4294967296 + lh - q * y' := by subst hE; rw [hw]; exact right_wrap h4 R
  have lw := right_left R
  rw [← ew] at lw
  clear hw
  cbv
  refine E_br hE (fun a => ?_) (fun a => ?_)
  · exfalso; subst hE; simp only [realE, cmp_eql, decide_eq_true_eq] at a; omega
  cbv
  refine E_nm hE (fun p0 hp0 => ?_)
  have e5 : p0 = w / yh := by
    subst hE; rw [hp0]; show IntKind.u64.wrap (w.tdiv yh) = _
    have b1 := Int.ediv_nonneg lw.1 (show (0 : Int) ≤ yh by omega)
    have b2 := Int.ediv_le_self yh lw.1
    rw [Int.tdiv_eq_ediv_of_nonneg lw.1, wu64]; omega
  clear hp0; cbv
  refine E_nm hE (fun s0 hs0 => ?_)
  have D1 : Dig y' w ll p0 (w - p0 * yh) := by
    have := dig_start (y := y') (u := w) (un := ll) h3 h4 lw.1 lw.2 (by omega) (by omega)
    rw [← e1, ← e5] at this; exact this
  have e6 : s0 = w - p0 * yh := by
    subst hE; rw [hs0]; show IntKind.u64.wrap (w - IntKind.u64.wrap (p0 * yh)) = _
    have b1 := D1.pos
    have b2 := Int.mul_nonneg D1.nn (show (0 : Int) ≤ yh by omega)
    rw [wu64, wu64]
    generalize p0 * yh = p at *
    omega
  rw [← e6] at D1
  clear hs0 e6 e5 a
  cbv
  refine E_loop hE hG hm hl (ι := Int × Int) (fun p => ⟨[(2, .int .u64 (.s y')), (8, .int .u64 (.s 0)), (9, .int .u64 (.s yh)), (10, .int .u64 (.s yl)), (14, .int .u64 (.s ll)), (15, .int .u64 (.s q)), (17, .int .u64 (.s w)), (18, .int .u64 (.s p.1)), (16, .int .u64 (.s p.2))], []⟩)
    (fun p => p.1.toNat) (fun p => Dig y' w ll p.1 p.2) ⟨(p0, s0), D1, stLe rfl (by repeat' (first | exact t_nil | apply t_cons | exact u2_int))⟩ ?_
  rintro ⟨p, s⟩ D2
  dsimp only at D2
  cbv
  have W2 := dig_words h3 h4 (show 0 ≤ ll by omega) (by omega) D2
  rw [← e1, ← e2] at W2
  have less2 : (4294967296 ≤ p ∨ s * 4294967296 + ll < p * yl) → w * 4294967296 + ll < (p - 1 + 1) * y' ∧ s + yh = w - (p - 1) * yh ∧ 1 ≤ p := by
    intro h; rw [e1]; exact dig_less h3 h4 lw.1 lw.2 (by omega) (by omega) D2 (by rw [← e2]; exact h)
  have dt2 := D2.top
  have dp2 := D2.pos
  refine E_br hE (fun a => ?_) (fun a => ?_)
  · have H2 : 4294967296 ≤ p ∨ s * 4294967296 + ll < p * yl := .inl (by subst hE; simpa only [realE, cmp_geq, decide_eq_true_eq] using a)
    clear a
    cbv
    refine E_nm hE (fun pn hpn => ?_)
    cbv
    refine E_nm hE (fun sn hsn => ?_)
    obtain ⟨l1, l2, l3⟩ := less2 H2
    have epn : pn = p - 1 := by
      subst hE; rw [hpn]; show IntKind.u64.wrap (p - 1) = _
      rw [wu64]; omega
    have esn : sn = s + yh := by subst hE; rw [hsn]; exact W2.2.2
    rw [← epn] at l1 l2
    rw [← esn] at l2
    cbv
    refine E_br hE (fun c => ?_) (fun c => ?_)
    · have c' : 4294967296 ≤ sn := by subst hE; simpa only [realE, cmp_geq, decide_eq_true_eq] using c
      have R2 : Right y' w ll pn := right_of h3 lw.2 (by omega) (dig_right h3 h4 (by rw [← e1]; exact l2) (dig_break h4 (by omega) (by omega) (by omega) c')) l1 (by omega)
      clear hpn hsn c c' l1 l2 l3 H2
      cbv
      refine E_br hE (fun a => ?_) (fun a => ?_)
      · exfalso; subst hE; simp only [realE, cmp_lss, decide_eq_true_eq] at a; omega
      clear a; cbv
      repeat' (first
        | (refine E_nm hE (fun v hv => ?_); cbv)
        | fail)
      rename_i v1 hv1
      obtain ⟨f1, f2⟩ := two_digits (y := y') (by omega) ew R R2
      subst hE
      have g1 : v1 = q * 4294967296 + pn := by
        rw [hv1]; show IntKind.u64.wrap (IntKind.u64.wrap (q * 4294967296) + pn) = _
        have := R.small; have := R2.small; have := R.nn; have := R2.nn
        rw [wu64, wu64]; omega
      have g2 : v = w * 4294967296 + ll - pn * y' := by
        rw [hv]; show (IntKind.u64.wrap (IntKind.u64.wrap (IntKind.u64.wrap (w * 4294967296) + ll) - IntKind.u64.wrap (pn * y'))).fdiv (2 ^ min (Int.toNat 0) IntKind.u64.bits) = _
        rw [right_wrap h4 R2, show (2 : Int) ^ min (Int.toNat 0) IntKind.u64.bits = 1 by decide, shr_lit (by decide), Int.ediv_one]
      have el : l' = lh * 4294967296 + ll := by omega
      rw [← el] at f1 f2
      rw [← hr, g1, g2]
      exact ⟨f1.symm, f2.symm, trivial⟩
    · have c' : sn < 4294967296 := by
        have : ¬ 4294967296 ≤ sn := by subst hE; simpa only [realE, cmp_geq, decide_eq_false_iff_not] using c
        omega
      clear hpn hsn
      cbv
      exact ⟨(pn, sn), by (show pn.toNat < p.toNat; omega), ⟨l1, by rw [← e1]; exact l2, by (show 0 ≤ sn; omega), c', by (show pn ≤ 4294967297; omega), by (show 0 ≤ pn; omega)⟩, stLe rfl (by repeat' (first | exact t_nil | apply t_cons | exact u2_int))⟩
  have a2 : p < 4294967296 := by
    have : ¬ 4294967296 ≤ p := by subst hE; simpa only [realE, cmp_geq, decide_eq_false_iff_not] using a
    omega
  cbv
  refine E_br hE (fun b => ?_) (fun b => ?_)
  · have H2 : 4294967296 ≤ p ∨ s * 4294967296 + ll < p * yl := .inr (by
      subst hE; simp only [realE, cmp_gtr, intBinR, decide_eq_true_eq] at b
      rw [W2.1 a2, W2.2.1] at b; exact b)
    clear b
    cbv
    refine E_nm hE (fun pn hpn => ?_)
    cbv
    refine E_nm hE (fun sn hsn => ?_)
    obtain ⟨l1, l2, l3⟩ := less2 H2
    have epn : pn = p - 1 := by
      subst hE; rw [hpn]; show IntKind.u64.wrap (p - 1) = _
      rw [wu64]; omega
    have esn : sn = s + yh := by subst hE; rw [hsn]; exact W2.2.2
    rw [← epn] at l1 l2
    rw [← esn] at l2
    cbv
    refine E_br hE (fun c => ?_) (fun c => ?_)
    · have c' : 4294967296 ≤ sn := by subst hE; simpa only [realE, cmp_geq, decide_eq_true_eq] using c
      have R2 : Right y' w ll pn := right_of h3 lw.2 (by omega) (dig_right h3 h4 (by rw [← e1]; exact l2) (dig_break h4 (by omega) (by omega) (by omega) c')) l1 (by omega)
      clear hpn hsn c c' l1 l2 l3 H2
      cbv
      refine E_br hE (fun a => ?_) (fun a => ?_)
      · exfalso; subst hE; simp only [realE, cmp_lss, decide_eq_true_eq] at a; omega
      clear a; cbv
      repeat' (first
        | (refine E_nm hE (fun v hv => ?_); cbv)
        | fail)
      rename_i v1 hv1
      obtain ⟨f1, f2⟩ := two_digits (y := y') (by omega) ew R R2
      subst hE
      have g1 : v1 = q * 4294967296 + pn := by
        rw [hv1]; show IntKind.u64.wrap (IntKind.u64.wrap (q * 4294967296) + pn) = _
        have := R.small; have := R2.small; have := R.nn; have := R2.nn
        rw [wu64, wu64]; omega
      have g2 : v = w * 4294967296 + ll - pn * y' := by
        rw [hv]; show (IntKind.u64.wrap (IntKind.u64.wrap (IntKind.u64.wrap (w * 4294967296) + ll) - IntKind.u64.wrap (pn * y'))).fdiv (2 ^ min (Int.toNat 0) IntKind.u64.bits) = _
        rw [right_wrap h4 R2, show (2 : Int) ^ min (Int.toNat 0) IntKind.u64.bits = 1 by decide, shr_lit (by decide), Int.ediv_one]
      have el : l' = lh * 4294967296 + ll := by omega
      rw [← el] at f1 f2
      rw [← hr, g1, g2]
      exact ⟨f1.symm, f2.symm, trivial⟩
    · have c' : sn < 4294967296 := by
        have : ¬ 4294967296 ≤ sn := by subst hE; simpa only [realE, cmp_geq, decide_eq_false_iff_not] using c
        omega
      clear hpn hsn
      cbv
      exact ⟨(pn, sn), by (show pn.toNat < p.toNat; omega), ⟨l1, by rw [← e1]; exact l2, by (show 0 ≤ sn; omega), c', by (show pn ≤ 4294967297; omega), by (show 0 ≤ pn; omega)⟩, stLe rfl (by repeat' (first | exact t_nil | apply t_cons | exact u2_int))⟩
  have b2 : p * yl ≤ s * 4294967296 + ll := by
    subst hE; simp only [realE, cmp_gtr, intBinR, decide_eq_false_iff_not] at b
    rw [W2.1 a2, W2.2.1] at b; omega
  have R2 : Right y' w ll p := right_of h3 lw.2 (by omega) (dig_right h3 h4 D2.rest (by rw [← e2]; exact b2)) D2.lt D2.nn
  cbv
  refine E_br hE (fun a => ?_) (fun a => ?_)
  · exfalso; subst hE; simp only [realE, cmp_lss, decide_eq_true_eq] at a; omega
  clear a; cbv
  repeat' (first
    | (refine E_nm hE (fun v hv => ?_); cbv)
    | fail)
  rename_i v1 hv1
  obtain ⟨f1, f2⟩ := two_digits (y := y') (by omega) ew R R2
  subst hE
  have g1 : v1 = q * 4294967296 + p := by
    rw [hv1]; show IntKind.u64.wrap (IntKind.u64.wrap (q * 4294967296) + p) = _
    have := R.small; have := R2.small; have := R.nn; have := R2.nn
    rw [wu64, wu64]; omega
  have g2 : v = w * 4294967296 + ll - p * y' := by
    rw [hv]; show (IntKind.u64.wrap (IntKind.u64.wrap (IntKind.u64.wrap (w * 4294967296) + ll) - IntKind.u64.wrap (p * y'))).fdiv (2 ^ min (Int.toNat 0) IntKind.u64.bits) = _
    rw [right_wrap h4 R2, show (2 : Int) ^ min (Int.toNat 0) IntKind.u64.bits = 1 by decide, shr_lit (by decide), Int.ediv_one]
  have el : l' = lh * 4294967296 + ll := by omega
  rw [← el] at f1 f2
  rw [← hr, g1, g2]
  exact ⟨f1.symm, f2.symm, trivial⟩
end Go.Proofs.YtpadpcjdakfokaaDoor.Ev

/- Contracts: words of 32 bits. Printed by gen.py out of C22.spec. -/
namespace Go.Proofs.YtpadpcjdakfokaaDoor.Ev
open Go Go.Proofs
set_option linter.unusedVariables false
set_option linter.unusedSimpArgs false

theorem c_Len32 (x : Int) (hx : 0 ≤ x) (hx' : x < 4294967296) : ∃ t : Int, t = blen x ∧ CallsA Tryd.prog 99 [.int .u32 (.s x)] (.int .i64 (.s t)) := by
  refine ⟨_, rfl, ?_⟩
  generalize hr : blen x = r
  refine callsA_of hG hm Tryd.func99 (by kernel_rfl) ?_
  intro E hE lp hl
  cbv
  repeat' (first
    | (refine E_br hE (fun h => ?_) (fun h => ?_) <;> cbv)
    | (refine E_nm hE (fun v hv => ?_); cbv)
    | fail)
  all_goals (try (generalize hL : (⟨⟨[0, 1, 2, 2, 3, 3, 3, 3, 4, 4, 4, 4, 4, 4, 4, 4, 5, 5, 5, 5, 5, 5, 5, 5, 5, 5, 5, 5, 5, 5, 5, 5, 6, 6, 6, 6, 6, 6, 6, 6, 6, 6, 6, 6, 6, 6, 6, 6, 6, 6, 6, 6, 6, 6, 6, 6, 6, 6, 6, 6, 6, 6, 6, 6, 7, 7, 7, 7, 7, 7, 7, 7, 7, 7, 7, 7, 7, 7, 7, 7, 7, 7, 7, 7, 7, 7, 7, 7, 7, 7, 7, 7, 7, 7, 7, 7, 7, 7, 7, 7, 7, 7, 7, 7, 7, 7, 7, 7, 7, 7, 7, 7, 7, 7, 7, 7, 7, 7, 7, 7, 7, 7, 7, 7, 7, 7, 7, 7, 8, 8, 8, 8, 8, 8, 8, 8, 8, 8, 8, 8, 8, 8, 8, 8, 8, 8, 8, 8, 8, 8, 8, 8, 8, 8, 8, 8, 8, 8, 8, 8, 8, 8, 8, 8, 8, 8, 8, 8, 8, 8, 8, 8, 8, 8, 8, 8, 8, 8, 8, 8, 8, 8, 8, 8, 8, 8, 8, 8, 8, 8, 8, 8, 8, 8, 8, 8, 8, 8, 8, 8, 8, 8, 8, 8, 8, 8, 8, 8, 8, 8, 8, 8, 8, 8, 8, 8, 8, 8, 8, 8, 8, 8, 8, 8, 8, 8, 8, 8, 8, 8, 8, 8, 8, 8, 8, 8, 8, 8, 8, 8, 8, 8, 8, 8, 8, 8, 8, 8, 8, 8, 8, 8, 8, 8, 8, 8]⟩⟩ : ByteArray) = L at *; replace hL := len8_str hL; obtain ⟨hL1, hL2⟩ := hL))
  all_goals (subst hE; subst hr)
  all_goals (try simp only [realE, cmp_eql, cmp_neq, cmp_lss, cmp_leq, cmp_gtr, cmp_geq, intBinR, decide_eq_true_eq, decide_eq_false_iff_not, SI.val, SB.val, Num.eta, Iv.eta] at *)
  all_goals (simp only [shr8', shr16', wu8, wi64] at *)
  all_goals (try omega)
  all_goals (try rw [hL2 _ (by omega) (by omega)] at hv)
  all_goals (have b1 := blen_nonneg x; have b2 := blen_le 32 (x := x) (by omega))
  all_goals (try have s2 := len16 ‹(65536 : Int) ≤ _› ‹_ = _ / (65536 : Int)›)
  all_goals (try have s3 := len8 ‹(256 : Int) ≤ _› ‹_ = _ / (256 : Int)›)
  all_goals omega

end Go.Proofs.YtpadpcjdakfokaaDoor.Ev

/- Contracts: how many bits limbs have; a short division. Printed by gen.py. -/
namespace Go.Proofs.YtpadpcjdakfokaaDoor.Ev
open Go Go.Proofs
set_option linter.unusedVariables false
set_option linter.unusedSimpArgs false


attribute [local irreducible] Lb
theorem c_natLen (a : List Int) (ha : Lb a) (hla : a.length < 67108864) : ∃ t : Int, t = blen (lv a) ∧ CallsA Tryd.prog 72 [.sli .u32 a] (.int .i64 (.s t)) := by
  refine ⟨_, rfl, ?_⟩
  generalize hr : blen (lv a : Int) = r
  have hlx := lim_length_le' ha
  have hx := lim_lb (lv a)
  have vx := lv_lim (lv a)
  have lx := (lim_cn (lv a)).last
  obtain ⟨x, ex⟩ : ∃ x, lim (lv a) = x := ⟨_, rfl⟩
  rw [ex] at hlx hx vx lx
  have k1 : x.length = 0 → r = 0 := by
    intro h
    have : x = [] := List.length_eq_zero_iff.1 h
    rw [this] at vx
    rw [← hr, ← vx]; rfl
  have k2 : ¬ (x.length : Int) = 0 → ∀ t : Int, t = blen (x.getD (intBinR .sub .i64 x.length 1).toNat 0) → r = intBinR .add .i64 (intBinR .mul .i64 32 (intBinR .sub .i64 x.length 1)) t := by
    intro h t ht
    have hne : x ≠ [] := by intro e; rw [e] at h; simp at h
    have := blen_len hx hne (lx hne)
    have e1 : intBinR .sub .i64 x.length 1 = (x.length : Int) - 1 := by show IntKind.i64.wrap _ = _; rw [wi64_id (by omega) (by omega)]
    rw [e1] at ht ⊢
    have e2 : intBinR .mul .i64 32 ((x.length : Int) - 1) = 32 * ((x.length : Int) - 1) := by show IntKind.i64.wrap _ = _; rw [wi64_id (by omega) (by omega)]
    rw [e2, ← hr, ← vx, this]
    rw [show ((x.length : Int) - 1).toNat = x.length - 1 by omega] at ht
    have hg := hx.getD (x.length - 1)
    have b1 := blen_nonneg (x.getD (x.length - 1) 0)
    have b2 := blen_le 32 (x := x.getD (x.length - 1) 0) (by omega)
    rw [ht]
    show _ = IntKind.i64.wrap _
    rw [wi64_id (by omega) (by omega)]
  refine callsA_of hG hm Tryd.func72 (by kernel_rfl) ?_
  intro E hE lp hl
  cbv
  (apply E_callX hE (c_cut a ha (by omega)); (case hf => rfl); (case hc => (cbv <;> trivial)); (case hle => exact ⟨u2_sli, trivial⟩); intro x' hx'; cbv)
  rw [hx'.trans ex]
  clear hx' x'
  repeat' (first
    | (refine E_br hE (fun h => ?_) (fun h => ?_) <;> cbv)
    | (refine E_nm hE (fun v hv => ?_); cbv)
    | (refine E_nilS hE (fun b hb => ?_); cbv)
    | (apply E_callX hE (c_Len32 _ ?_ ?_); (case hf => rfl); (case hc => (cbv <;> trivial)); (case hle => (repeat' (first | exact u_nil | apply u_cons | apply u2_agg | exact u2_int | exact u1_int | exact u2_bool | exact u1_bool | exact u2_sli | exact u1_sli | exact u2_s0 | exact u1_s0))); all_goals (first | (intro t ht; cbv) | ((subst hE; first | exact (hx.getD _).1 | exact (hx.getD _).2))))
    | fail)
  all_goals (try (subst hE; first | exact (k1 (by have := eql_t h; simp only [realE] at this; omega)).symm | exact hv.trans (k2 (eql_f ‹_›) t ht).symm))
  all_goals (clear k1 k2 hr; subst hE; simp only [NatCast.natCast, Int.ofNat_eq_natCast, realE, cmp_eql, cmp_neq, cmp_lss, cmp_leq, cmp_gtr, cmp_geq, intBinR, decide_eq_true_eq, decide_eq_false_iff_not, SI.val, SB.val, Num.eta, Iv.eta] at *; (try simp only [wi64] at *); omega)

end Go.Proofs.YtpadpcjdakfokaaDoor.Ev

/- Contracts: the guess of a limb of a quotient. Printed by gen.py. -/
namespace Go.Proofs.YtpadpcjdakfokaaDoor.Ev
open Go Go.Proofs
set_option linter.unusedVariables false
set_option linter.unusedSimpArgs false


end Go.Proofs.YtpadpcjdakfokaaDoor.Ev

/- Calls that write the caller's memory, or hand back memory that they have made: contracts of them. -/
namespace Go.Proofs.YtpadpcjdakfokaaDoor.Ev
open Go Go.RowKit
set_option linter.unusedVariables false
set_option linter.unusedSimpArgs false
variable {P : Program} {G : Nat → TI}

end Go.Proofs.YtpadpcjdakfokaaDoor.Ev

/- Contracts: a guess times the divisor taken away, and given back: both write the caller's memory. Printed by gen.py. -/
namespace Go.Proofs.YtpadpcjdakfokaaDoor.Ev
open Go Go.Proofs
set_option linter.unusedVariables false
set_option linter.unusedSimpArgs false


attribute [local irreducible] Lb
end Go.Proofs.YtpadpcjdakfokaaDoor.Ev

/- Contracts: limbs shifted, into memory that the caller writes. Printed by gen.py. -/
namespace Go.Proofs.YtpadpcjdakfokaaDoor.Ev
open Go Go.Proofs
set_option linter.unusedVariables false
set_option linter.unusedSimpArgs false


attribute [local irreducible] Lb
end Go.Proofs.YtpadpcjdakfokaaDoor.Ev

/- Contracts: the quotient and the rest of limbs. Printed by gen.py. -/
namespace Go.Proofs.YtpadpcjdakfokaaDoor.Ev
open Go Go.Proofs
set_option linter.unusedVariables false
set_option linter.unusedSimpArgs false


attribute [local irreducible] Lb
end Go.Proofs.YtpadpcjdakfokaaDoor.Ev

/- Contracts: the root of limbs. Printed by gen.py. -/
namespace Go.Proofs.YtpadpcjdakfokaaDoor.Ev
open Go Go.Proofs
set_option linter.unusedVariables false
set_option linter.unusedSimpArgs false


attribute [local irreducible] Lb
end Go.Proofs.YtpadpcjdakfokaaDoor.Ev

/- Contracts: whole numbers as numbers, the quotient. Printed by gen.py out of C9.spec. -/
namespace Go.Proofs.YtpadpcjdakfokaaDoor.Ev
open Go Go.Proofs
set_option linter.unusedVariables false
set_option linter.unusedSimpArgs false

theorem c_Of (n : Int) (h0 : -9223372036854775808 ≤ n) (h1 : n < 9223372036854775808) : ∃ t : Num, t = Num.ofInt n ∧ CallsA Tryd.prog 28 [.int .i64 (.s n)] (t.av) := by
  refine ⟨_, rfl, ?_⟩
  generalize hr : Num.ofInt n = r
  refine callsA_of hG hm Tryd.func28 (by kernel_rfl) ?_
  intro E hE lp hl
  cbv
  repeat' (first
    | (refine E_br hE (fun h => ?_) (fun h => ?_) <;> cbv)
    | (refine E_nm hE (fun v hv => ?_); cbv)
    | (apply E_callX hE (c_LZ64 _ ?_ ?_); (case hf => rfl); (case hc => (cbv <;> trivial)); (case hle => exact u_up); all_goals (first | (intro t ht; cbv) | (subst hE; (try simp only [realE, cmp_eql, cmp_neq, cmp_lss, cmp_leq, cmp_gtr, cmp_geq, intBinR, decide_eq_true_eq, decide_eq_false_iff_not, SI.val, SB.val, Num.eta, Iv.eta] at *); (subst_vars; simp only [wu64]; omega))))
    | fail)
  all_goals (subst hE; subst hr)
  all_goals (try simp only [realE, cmp_eql, cmp_neq, cmp_lss, cmp_leq, cmp_gtr, cmp_geq, intBinR, decide_eq_true_eq, decide_eq_false_iff_not, SI.val, SB.val, Num.eta, Iv.eta] at *)
  all_goals (try subst_vars)
  all_goals (first | rw [wabs_neg h0 ‹n < 0›] at * | rw [wabs_pos (show 0 ≤ n by omega) h1] at *)
  all_goals (try (exfalso; have := blen_le 64 (x := (n.natAbs : Int)) (by omega); omega))
  case refine_2.hK.refine_1 =>
    have e : n = 0 := by omega
    subst e
    exact ⟨rfl, rfl, rfl, rfl, trivial⟩
  all_goals (unfold Num.ofInt; rw [if_neg (by omega)]; exact ⟨rfl, rfl, rfl, rfl, trivial⟩)

theorem c_quDiv (a : Num) (b : Num) (up : Bool) (ha : a.ok) (hb : b.ok) : ∃ t : Num, t = Num.div a b up ∧ CallsA Tryd.prog 82 [a.av, b.av, .bool (.s up)] (t.av) := by
  refine ⟨_, rfl, ?_⟩
  generalize hr : Num.div a b up = r
  refine callsA_of hG hm Tryd.func82 (by kernel_rfl) ?_
  intro E hE lp hl
  cbv
  repeat' (first
    | (refine E_br hE (fun h => ?_) (fun h => ?_) <;> cbv)
    | (refine E_nm hE (fun v hv => ?_); cbv)
    | (apply E_pcallX hE (c_quFair ⟨_, _, _, _⟩); (case hm => rfl); (case hle => exact u_up); intro t ht; cbv)
    | (apply E_callX hE (c_Inf _); (case hf => rfl); (case hc => (cbv <;> trivial)); (case hle => exact u_up); intro t ht; cbv)
    | (apply E_callX hE (c_Div64 _ _ _ ?_ ?_ ?_ ?_ ?_ ?_); (case hf => rfl); (case hc => (cbv <;> trivial)); (case hle => exact u_up); all_goals (first | (intro t ht; cbv) | (subst hE; (try simp only [realE, cmp_eql, cmp_neq, cmp_lss, cmp_leq, cmp_gtr, cmp_geq, intBinR, decide_eq_true_eq, decide_eq_false_iff_not, SI.val, SB.val, Num.eta, Iv.eta] at *); (subst_vars; have fb := Num.fin_of (n := b) ‹_› ‹_›; have ob := Num.fair_ok hb; have oa := Num.fair_ok ha; have := oa.1; have := oa.2; have := ob.1; have := ob.2; (try simp only [shr1, shl63, wu64] at *); first | omega | exact (show 0 ≤ a.fair.m by omega) | exact (show a.fair.m < b.fair.m by omega) | exact (show a.fair.m / 2 < b.fair.m by omega) | exact (show 9223372036854775808 ≤ b.fair.m by omega) | exact (show b.fair.m < 18446744073709551616 by omega)))))
    | (apply E_callX hE (c_Grow _ _ _ _ _); (case hf => rfl); (case hc => (cbv <;> trivial)); (case hle => exact u_up); intro t ht; cbv)
    | fail)
  all_goals (subst hE; subst hr)
  all_goals (try simp only [realE, cmp_eql, cmp_neq, cmp_lss, cmp_leq, cmp_gtr, cmp_geq, intBinR, decide_eq_true_eq, decide_eq_false_iff_not, SI.val, SB.val, Num.eta, Iv.eta] at *)
  all_goals (refine Num.fin (t := ⟨_, _, _, _⟩) ?_; subst_vars; unfold Num.div)
  case' hK.hK.refine_1.hK => rw [if_pos ‹_›]
  case' hK.hK.refine_2.refine_1 => rw [if_neg ‹_›, if_pos (.inl ‹_›)]; rfl
  case' hK.hK.refine_2.refine_2.refine_1 => rw [if_neg ‹_›, if_pos (.inr ‹_›)]; rfl
  case' hK.hK.refine_2.refine_2.refine_2.refine_1.hK => rw [if_neg ‹_›, if_neg (by simp_all), if_pos ‹_›]; rfl
  all_goals (rw [if_neg ‹¬ b.fair.kind = 0›, if_neg (by simp_all), if_neg ‹¬ a.fair.kind = 2›])
  all_goals (have fa := Num.fin_of (n := a) ‹_› ‹_›; have fb := Num.fin_of (n := b) ‹_› ‹_›; simp only [shr1, shl63])
  all_goals (first | exact Num.div_lo (Num.fair_ok ha) fa.2.2 fb.2.2 ‹_› | exact Num.div_hi (Num.fair_ok ha) fa.2.2 fb.2.2 ‹_›)

end Go.Proofs.YtpadpcjdakfokaaDoor.Ev

/- Contracts: words and limbs. Printed by gen.py. -/
namespace Go.Proofs.YtpadpcjdakfokaaDoor.Ev
open Go Go.Proofs
set_option linter.unusedVariables false
set_option linter.unusedSimpArgs false


attribute [local irreducible] Lb
/-- the root of a finite number -/
def Num.rootF (a : Num) (up : Bool) : Num :=
  if a.e % 2 = 0 then Num.grow false (nsqrt (a.m.toNat * 2 ^ 64)) ((a.e - 64) / 2) (!decide (nsqrt (a.m.toNat * 2 ^ 64) * nsqrt (a.m.toNat * 2 ^ 64) = a.m.toNat * 2 ^ 64)) up
  else Num.grow false (nsqrt (a.m.toNat * 2 ^ 63)) ((a.e - 63) / 2) (!decide (nsqrt (a.m.toNat * 2 ^ 63) * nsqrt (a.m.toNat * 2 ^ 63) = a.m.toNat * 2 ^ 63)) up
def Num.root (a : Num) (up : Bool) : Num × Bool :=
  if a.fair.kind ≠ 0 ∧ a.fair.neg = true then (Num.zero, false) else if a.fair.kind ≠ 1 then (a.fair, true) else (Num.rootF a.fair up, true)

end Go.Proofs.YtpadpcjdakfokaaDoor.Ev

/- Contracts: whole numbers of 64 bits, of what sign; ten, so many times. Printed by gen.py. -/
namespace Go.Proofs.YtpadpcjdakfokaaDoor.Ev
open Go Go.Proofs
set_option linter.unusedVariables false
set_option linter.unusedSimpArgs false

attribute [local irreducible] Lb
theorem c_wSign (na : Bool) (a : List Int) (ha : Lb a) (hla : a.length < 67108864) : ∃ t : Int, t = (if lv a = 0 then 0 else if na then -1 else 1) ∧ CallsA Tryd.prog 40 [.agg [.bool (.s na), .sli .u32 a]] (.int .i64 (.s t)) := by
  refine ⟨_, rfl, ?_⟩
  generalize hr : (if lv a = 0 then 0 else if na then -1 else 1 : Int) = r
  have z : lv a = 0 → 0 = r := fun h => by rw [← hr, if_pos h]
  have o : lv a ≠ 0 → na = true → -1 = r := fun h k => by rw [← hr, if_neg h, if_pos k]
  have p : lv a ≠ 0 → na = false → 1 = r := fun h k => by rw [← hr, if_neg h, k]; rfl
  have bz : blen (lv a : Int) = 0 ↔ lv a = 0 := by
    constructor
    · intro h
      rcases Nat.eq_zero_or_pos (lv a) with k | k
      · exact k
      · obtain ⟨n, hn, _⟩ := blen_pos (x := (lv a : Int)) (by omega); omega
    · intro h; rw [h]; rfl
  clear hr
  refine callsA_of hG hm Tryd.func40 (by kernel_rfl) ?_
  intro E hE lp hl'
  cbv
  (first | (apply E_pcallX hE (c_natLen a ha hla); (case hm => rfl); (case hle => (repeat' (first | exact u_nil | apply u_cons | apply u2_agg | exact u2_int | exact u1_int | exact u2_bool | exact u1_bool | exact u2_sli | exact u1_sli | exact u2_s0 | exact u1_s0))); all_goals (first | (intro t ht; cbv) | (assumption))) | (apply E_callX hE (c_natLen a ha hla); (case hf => rfl); (case hc => (cbv <;> trivial)); (case hle => (repeat' (first | exact u_nil | apply u_cons | apply u2_agg | exact u2_int | exact u1_int | exact u2_bool | exact u1_bool | exact u2_sli | exact u1_sli | exact u2_s0 | exact u1_s0))); all_goals (first | (intro t ht; cbv) | (assumption))))
  have ht : t = blen (lv a : Int) := ht
  refine E_br hE (fun g => ?_) (fun g => ?_) <;> cbv
  · rw [← z (bz.1 (ht ▸ (by subst hE; exact eql_t g)))]
  have nz : lv a ≠ 0 := fun h => (show ¬ t = 0 by subst hE; exact eql_f g) (ht.trans (bz.2 h))
  refine E_br hE (fun g => ?_) (fun g => ?_) <;> cbv
  · rw [← o nz g]
  · rw [← p nz g]

end Go.Proofs.YtpadpcjdakfokaaDoor.Ev

/- Contracts: what is left of limbs. Printed by gen.py. -/
namespace Go.Proofs.YtpadpcjdakfokaaDoor.Ev
open Go Go.Proofs
set_option linter.unusedVariables false
set_option linter.unusedSimpArgs false


attribute [local irreducible] Lb
def subI (E : Env) (x y : List Int) : Int × Int × List Int → St := fun p => ⟨[(0, .sli .u32 x), (1, .sli .u32 y), (6, .ms 0 1 (.l 0) (.s (E.len x))), (7, .int .u32 (.s p.2.1)), (22, .int .i64 (.s (E.len x))), (23, .int .i64 (.s p.1))], [.ints true .u32 p.2.2]⟩
theorem c_natSub (a b : List Int) (ha : Lb a) (hb : Lb b) (hla : a.length < 134217728) (hlb : b.length < 134217728) : ∃ t : List Int × Bool, t = (if lv a < lv b then ([], false) else (lim (lv a - lv b), true)) ∧ CallsA Tryd.prog 39 [.sli .u32 a, .sli .u32 b] (.tup [.sli .u32 t.1, .bool (.s t.2)]) := by
  refine ⟨_, rfl, ?_⟩
  generalize hr : (if lv a < lv b then ([], false) else (lim (lv a - lv b), true) : List Int × Bool) = r
  have hlx := lim_length_le' ha
  have hly := lim_length_le' hb
  have hx := lim_lb (lv a)
  have hy := lim_lb (lv b)
  have vx := lv_lim (lv a)
  have vy := lv_lim (lv b)
  have hlen : lv b ≤ lv a → (lim (lv b)).length ≤ (lim (lv a)).length := lim_mono
  obtain ⟨x, ex⟩ : ∃ x, lim (lv a) = x := ⟨_, rfl⟩
  obtain ⟨y, ey⟩ : ∃ y, lim (lv b) = y := ⟨_, rfl⟩
  rw [ex] at hlx hx vx hlen
  rw [ey] at hly hy vy hlen
  rw [← vx, ← vy] at hr hlen
  have lx : x.length < 134217728 := by omega
  have ly : y.length < 134217728 := by omega
  have cx : x.length ≤ 268435456 := by omega
  have cy : y.length ≤ 268435456 := by omega
  have ca : a.length < 9223372036854775808 := by omega
  have cb : b.length < 9223372036854775808 := by omega
  refine callsA_of hG hm Tryd.func39 (by kernel_rfl) ?_
  intro E hE lp hl
  cbv
  (first | (apply E_pcallX hE (c_cut a ha ca); (case hm => rfl); (case hle => (repeat' (first | exact u_nil | apply u_cons | apply u2_agg | exact u2_int | exact u1_int | exact u2_bool | exact u1_bool | exact u2_sli | exact u1_sli | exact u2_s0 | exact u1_s0))); all_goals (first | (intro x' hx'; cbv) | (assumption))) | (apply E_callX hE (c_cut a ha ca); (case hf => rfl); (case hc => (cbv <;> trivial)); (case hle => (repeat' (first | exact u_nil | apply u_cons | apply u2_agg | exact u2_int | exact u1_int | exact u2_bool | exact u1_bool | exact u2_sli | exact u1_sli | exact u2_s0 | exact u1_s0))); all_goals (first | (intro x' hx'; cbv) | (assumption))))
  have hx2 : x' = x := Eq.trans hx' ex
  rw [hx2]
  clear hx' hx2
  (first | (apply E_pcallX hE (c_cut b hb cb); (case hm => rfl); (case hle => (repeat' (first | exact u_nil | apply u_cons | apply u2_agg | exact u2_int | exact u1_int | exact u2_bool | exact u1_bool | exact u2_sli | exact u1_sli | exact u2_s0 | exact u1_s0))); all_goals (first | (intro y' hy'; cbv) | (assumption))) | (apply E_callX hE (c_cut b hb cb); (case hf => rfl); (case hc => (cbv <;> trivial)); (case hle => (repeat' (first | exact u_nil | apply u_cons | apply u2_agg | exact u2_int | exact u1_int | exact u2_bool | exact u1_bool | exact u2_sli | exact u1_sli | exact u2_s0 | exact u1_s0))); all_goals (first | (intro y' hy'; cbv) | (assumption))))
  have hy2 : y' = y := Eq.trans hy' ey
  rw [hy2]
  clear hy' hy2
  (first | (apply E_pcallX hE (c_natCmp x y hx hy cx cy); (case hm => rfl); (case hle => (repeat' (first | exact u_nil | apply u_cons | apply u2_agg | exact u2_int | exact u1_int | exact u2_bool | exact u1_bool | exact u2_sli | exact u1_sli | exact u2_s0 | exact u1_s0))); all_goals (first | (intro q hq; cbv) | (assumption))) | (apply E_callX hE (c_natCmp x y hx hy cx cy); (case hf => rfl); (case hc => (cbv <;> trivial)); (case hle => (repeat' (first | exact u_nil | apply u_cons | apply u2_agg | exact u2_int | exact u1_int | exact u2_bool | exact u1_bool | exact u2_sli | exact u1_sli | exact u2_s0 | exact u1_s0))); all_goals (first | (intro q hq; cbv) | (assumption))))
  have hq : q = (if lv x < lv y then -1 else if lv y < lv x then 1 else 0 : Int) := hq
  refine E_br hE (fun g => ?_) (fun g => ?_)
  · have g : q < 0 := by subst hE; exact lss_t g
    have k : lv x < lv y := by
      by_cases k : lv x < lv y
      · exact k
      · rw [hq, if_neg k] at g; split at g <;> omega
    rw [if_pos k] at hr
    cbv
    rw [← hr]
    exact ⟨rfl, rfl, trivial⟩
  have hle : lv y ≤ lv x := by
    have g : ¬ q < 0 := by subst hE; exact lss_f g
    by_cases k : lv x < lv y
    · rw [hq, if_pos k] at g; exact absurd (by decide) g
    · omega
  rw [if_neg (by omega)] at hr
  have hxy := hlen hle
  clear hq g hlen
  cbv
  repeat' (first
    | (refine E_br hE (fun h => ?_) (fun h => ?_) <;> cbv)
    | (refine E_nm hE (fun v hv => ?_); cbv)
    | (refine E_nilS hE (fun b hb => ?_); cbv)
    | fail)
  all_goals (try (exfalso; subst hE; simp only [NatCast.natCast, Int.ofNat_eq_natCast, realE, cmp_eql, cmp_neq, cmp_lss, cmp_leq, cmp_gtr, cmp_geq, intBinR, decide_eq_true_eq, decide_eq_false_iff_not, SI.val, SB.val, Num.eta, Iv.eta] at *; omega))
  obtain ⟨m, em⟩ : ∃ m : Int × Int × List Int → Nat, ∀ p, m p = (x.length - p.1).toNat := ⟨_, fun _ => rfl⟩
  obtain ⟨ok, eok⟩ : ∃ ok : Int × Int × List Int → Prop, ∀ p, ok p ↔ 0 ≤ p.1 ∧ p.1 ≤ x.length ∧ SubInv x y p.2.2 p.1.toNat p.2.1 := ⟨_, fun _ => Iff.rfl⟩
  refine E_loop hE hG hm hl (subI E x y) m ok ⟨(0, 0, E.rep (E.len x)), (eok _).2 ?_, stLe rfl ?_⟩ ?_
  · refine ⟨by show (0 : Int) ≤ 0; omega, by show (0 : Int) ≤ x.length; omega, ?_⟩
    have := SubInv.start x y
    subst hE; simp only [NatCast.natCast, Int.ofNat_eq_natCast, realE, cmp_eql, cmp_neq, cmp_lss, cmp_leq, cmp_gtr, cmp_geq, intBinR, decide_eq_true_eq, decide_eq_false_iff_not, SI.val, SB.val, Num.eta, Iv.eta] at *
    exact this
  · (repeat' (first | exact t_nil | apply t_cons | exact u2_sli | exact u2_int | exact u2_bool | exact u2_ms | exact u2_ptr | exact (rfl : sle2 .s0 .s0)))
  rintro ⟨i, c, out⟩ hok
  obtain ⟨h1, h2, inv⟩ := (eok _).1 hok
  dsimp only at h1 h2 inv
  have hgx := hx.getD i.toNat
  have hgy := hy.getD i.toNat
  have hc0 := inv.c0
  have hc1 := inv.c1
  have hol := inv.len
  have next : ∀ (j k c' z : Int) (v : Int × Int), i < x.length → k = i → j = IntKind.i64.wrap (i + 1) → (z = y.getD k.toNat 0 ∨ (¬ k < y.length ∧ z = 0)) →
      v = ((x.getD k.toNat 0 - z - c) % 4294967296, (if x.getD k.toNat 0 < z + c then 1 else 0 : Int)) → c' = v.2 →
      m (j, c', out.set k.toNat v.1) < m (i, c, out) ∧ ok (j, c', out.set k.toNat v.1) := by
    intro j k c' z v h hk hj hz hv hc
    subst hk
    have hz : z = y.getD k.toNat 0 := by
      rcases hz with hz | ⟨hz, h0⟩
      · exact hz
      · rw [h0, getD_past (by omega)]
    have hj : j = k + 1 := by rw [hj, wi64_id (by omega) (by omega)]
    refine ⟨by rw [em, em]; show ((x.length : Int) - j).toNat < ((x.length : Int) - k).toNat; omega, (eok _).2 ⟨by show 0 ≤ j; omega, by show j ≤ (x.length : Int); omega, ?_⟩⟩
    have := inv.step hx hy (by omega)
    rw [← hz] at this
    rw [hc, hv, hj]
    show SubInv x y (out.set k.toNat ((x.getD k.toNat 0 - z - c) % 4294967296)) (k + 1).toNat (if x.getD k.toNat 0 < z + c then 1 else 0)
    rw [show (k + 1).toNat = k.toNat + 1 by omega]
    exact this
  have fin : ¬ i < x.length → Lb out ∧ (lim (lv out), true) = r := by
    intro h
    rw [show i.toNat = x.length by omega] at inv
    exact ⟨inv.lb, by rw [inv.stop hx hle hxy]; exact hr⟩
  clear inv hok hr
  cbv
  repeat' (first
    | (refine E_br hE (fun h => ?_) (fun h => ?_) <;> cbv)
    | (refine E_nm hE (fun v hv => ?_); cbv)
    | (refine E_nilS hE (fun b hb => ?_); cbv)
    | (apply E_callX hE (c_Sub32 _ _ _ ?_ ?_ ?_ ?_ ?_ ?_); (case hf => rfl); (case hc => (cbv <;> trivial)); (case hle => (repeat' (first | exact u_nil | apply u_cons | apply u2_agg | exact u2_int | exact u1_int | exact u2_bool | exact u1_bool | exact u2_sli | exact u1_sli | exact u2_s0 | exact u1_s0))); all_goals (first | (intro t ht; cbv) | (subst hE; (try simp only [NatCast.natCast, Int.ofNat_eq_natCast, realE, cmp_eql, cmp_neq, cmp_lss, cmp_leq, cmp_gtr, cmp_geq, intBinR, decide_eq_true_eq, decide_eq_false_iff_not, SI.val, SB.val, Num.eta, Iv.eta] at *); subst_vars; (first | assumption | omega))))
    | (apply E_callX hE (c_cut _ ?_ ?_); (case hf => rfl); (case hc => (cbv <;> trivial)); (case hle => (repeat' (first | exact u_nil | apply u_cons | apply u2_agg | exact u2_int | exact u1_int | exact u2_bool | exact u1_bool | exact u2_sli | exact u1_sli | exact u2_s0 | exact u1_s0))); all_goals (first | (intro t ht; cbv) | ((subst hE; simp only [NatCast.natCast, Int.ofNat_eq_natCast, realE, cmp_eql, cmp_neq, cmp_lss, cmp_leq, cmp_gtr, cmp_geq, intBinR, decide_eq_true_eq, decide_eq_false_iff_not, SI.val, SB.val, Num.eta, Iv.eta] at *; rw [sub_all (by omega)]; first | exact (fin ‹_›).1 | omega))))
    | fail)
  all_goals (try refine ⟨(E.bin .add .i64 i 1, v, E.set out _ t.1), ?_, ?_, stLe rfl ?_⟩)
  all_goals (try ((repeat' (first | exact t_nil | apply t_cons | exact u2_sli | exact u2_int | exact u2_bool | exact u2_ms | exact u2_ptr | exact (rfl : sle2 .s0 .s0))); done))
  all_goals (subst hE; simp only [NatCast.natCast, Int.ofNat_eq_natCast, realE, cmp_eql, cmp_neq, cmp_lss, cmp_leq, cmp_gtr, cmp_geq, intBinR, decide_eq_true_eq, decide_eq_false_iff_not, SI.val, SB.val, Num.eta, Iv.eta] at *)
  all_goals (first | exact (next _ _ _ _ _ ‹_› ‹_› rfl (by first | exact .inl ‹_› | exact .inr ⟨‹_›, rfl⟩) ‹t = _› ‹_›).1 | exact (next _ _ _ _ _ ‹_› ‹_› rfl (by first | exact .inl ‹_› | exact .inr ⟨‹_›, rfl⟩) ‹t = _› ‹_›).2 | (exfalso; clear next fin; omega) | skip)
  have k := fin ‹_›
  rw [← k.2]
  refine ⟨?_, rfl, trivial⟩
  rw [‹t = _›, sub_all (by omega)]

end Go.Proofs.YtpadpcjdakfokaaDoor.Ev

/- Contracts: whole numbers, by their values. Printed by gen.py. -/
namespace Go.Proofs.YtpadpcjdakfokaaDoor.Ev
open Go Go.Proofs
set_option linter.unusedVariables false
set_option linter.unusedSimpArgs false

attribute [local irreducible] Lb
/-- the value of a whole number -/
def wv (na : Bool) (a : List Int) : Int := if na then -(lv a : Int) else lv a
/-- a whole number, as it may be -/
def whN (z : Int) : Bool × List Int := (decide (z < 0), lim z.natAbs)
theorem whN_of (na : Bool) (n : Nat) : (na && decide (n ≠ 0), lim n) = whN (if na then -(n : Int) else n) := by
  unfold whN
  cases na
  · simp only [Bool.false_and, Bool.false_eq_true, if_false]
    rw [decide_eq_false (by omega), Int.natAbs_natCast]
  · simp only [Bool.true_and, if_true]
    rw [Int.natAbs_neg, Int.natAbs_natCast]
    congr 1
    apply decide_eq_decide.2; omega
theorem whN_lb (z : Int) : Lb (whN z).2 := lim_lb _
theorem whN_len {z : Int} {k : Nat} (h : z.natAbs < 4294967296 ^ k) : (whN z).2.length ≤ k := lim_length_le h
theorem c_wAdd (na : Bool) (a : List Int) (nb : Bool) (b : List Int) (ha : Lb a) (hb : Lb b) (hla : a.length < 134217728) (hlb : b.length < 134217728) :
    ∃ t : Bool × List Int, t = whN (wv na a + wv nb b) ∧ CallsA Tryd.prog 10 [.agg [.bool (.s na), .sli .u32 a], .agg [.bool (.s nb), .sli .u32 b]] (.agg [.bool (.s t.1), .sli .u32 t.2]) := by
  refine ⟨_, rfl, ?_⟩
  generalize hr : whN (wv na a + wv nb b) = r
  have la : a.length < 268435456 := by omega
  have lb : b.length < 268435456 := by omega
  have one : na = nb → (na && decide (lv a + lv b ≠ 0), lim (lv a + lv b)) = r := by
    intro e; subst e
    rw [← hr, whN_of]; unfold wv; congr 1; cases na <;> simp; omega
  have two : na ≠ nb → ¬ lv a < lv b → (na && decide (lv a - lv b ≠ 0), lim (lv a - lv b)) = r := by
    intro e h
    rw [← hr, whN_of]; unfold wv; congr 1; cases na <;> cases nb <;> simp at e ⊢ <;> omega
  have three : na ≠ nb → lv a < lv b → (nb && decide (lv b - lv a ≠ 0), lim (lv b - lv a)) = r := by
    intro e h
    rw [← hr, whN_of]; unfold wv; congr 1; cases na <;> cases nb <;> simp at e ⊢ <;> omega
  have lim1 : (lim (lv a + lv b)).length ≤ 268435456 := by have h := lim_add_len (m := lv a) (n := lv b) (k := 134217728) (by have := lim_length_le' ha; omega) (by have := lim_length_le' hb; omega); omega
  have lim2 : (lim (lv a - lv b)).length ≤ 268435456 := by have := lim_mono (Nat.sub_le (lv a) (lv b)); have := lim_length_le' ha; omega
  have lim3 : (lim (lv b - lv a)).length ≤ 268435456 := by have := lim_mono (Nat.sub_le (lv b) (lv a)); have := lim_length_le' hb; omega
  clear hr
  refine callsA_of hG hm Tryd.func10 (by kernel_rfl) ?_
  intro E hE lp hl'
  cbv
  refine E_br hE (fun g => ?_) (fun g => ?_) <;> cbv
  · have g : na = nb := by subst hE; exact eq_of_beq g
    (first | (apply E_pcallX hE (c_natAdd a b ha hb la lb); (case hm => rfl); (case hle => (repeat' (first | exact u_nil | apply u_cons | apply u2_agg | exact u2_int | exact u1_int | exact u2_bool | exact u1_bool | exact u2_sli | exact u1_sli | exact u2_s0 | exact u1_s0))); all_goals (first | (intro u hu; cbv) | (assumption))) | (apply E_callX hE (c_natAdd a b ha hb la lb); (case hf => rfl); (case hc => (cbv <;> trivial)); (case hle => (repeat' (first | exact u_nil | apply u_cons | apply u2_agg | exact u2_int | exact u1_int | exact u2_bool | exact u1_bool | exact u2_sli | exact u1_sli | exact u2_s0 | exact u1_s0))); all_goals (first | (intro u hu; cbv) | (assumption))))
    have hu : u = lim (lv a + lv b) := hu
    have ub : Lb u := by rw [hu]; exact lim_lb _
    have ul : u.length ≤ 268435456 := by rw [hu]; exact lim1
    (first | (apply E_pcallX hE (c_wMake na u ub ul); (case hm => rfl); (case hle => (repeat' (first | exact u_nil | apply u_cons | apply u2_agg | exact u2_int | exact u1_int | exact u2_bool | exact u1_bool | exact u2_sli | exact u1_sli | exact u2_s0 | exact u1_s0))); all_goals (first | (intro t ht; cbv) | (assumption))) | (apply E_callX hE (c_wMake na u ub ul); (case hf => rfl); (case hc => (cbv <;> trivial)); (case hle => (repeat' (first | exact u_nil | apply u_cons | apply u2_agg | exact u2_int | exact u1_int | exact u2_bool | exact u1_bool | exact u2_sli | exact u1_sli | exact u2_s0 | exact u1_s0))); all_goals (first | (intro t ht; cbv) | (assumption))))
    have k : t = r := by
      have k : t = (na && decide (lv u ≠ 0), lim (lv u)) := ht
      rw [k, hu, lv_lim]; exact one g
    rw [← k]; exact ⟨rfl, rfl, trivial⟩
  · have g : na ≠ nb := by subst hE; intro e; rw [e] at g; exact absurd ((beq_self_eq_true nb).symm.trans g) (by decide)
    (first | (apply E_pcallX hE (c_natSub a b ha hb hla hlb); (case hm => rfl); (case hle => (repeat' (first | exact u_nil | apply u_cons | apply u2_agg | exact u2_int | exact u1_int | exact u2_bool | exact u1_bool | exact u2_sli | exact u1_sli | exact u2_s0 | exact u1_s0))); all_goals (first | (intro u hu; cbv) | (assumption))) | (apply E_callX hE (c_natSub a b ha hb hla hlb); (case hf => rfl); (case hc => (cbv <;> trivial)); (case hle => (repeat' (first | exact u_nil | apply u_cons | apply u2_agg | exact u2_int | exact u1_int | exact u2_bool | exact u1_bool | exact u2_sli | exact u1_sli | exact u2_s0 | exact u1_s0))); all_goals (first | (intro u hu; cbv) | (assumption))))
    have hu : u = (if lv a < lv b then ([], false) else (lim (lv a - lv b), true)) := hu
    refine E_br hE (fun q => ?_) (fun q => ?_) <;> cbv
    · have n : ¬ lv a < lv b := by intro h; rw [hu, if_pos h] at q; cases q
      have u1 : u.1 = lim (lv a - lv b) := by rw [hu, if_neg n]
      have ub : Lb u.1 := by rw [u1]; exact lim_lb _
      have ul : u.1.length ≤ 268435456 := by rw [u1]; exact lim2
      (first | (apply E_pcallX hE (c_wMake na u.1 ub ul); (case hm => rfl); (case hle => (repeat' (first | exact u_nil | apply u_cons | apply u2_agg | exact u2_int | exact u1_int | exact u2_bool | exact u1_bool | exact u2_sli | exact u1_sli | exact u2_s0 | exact u1_s0))); all_goals (first | (intro t ht; cbv) | (assumption))) | (apply E_callX hE (c_wMake na u.1 ub ul); (case hf => rfl); (case hc => (cbv <;> trivial)); (case hle => (repeat' (first | exact u_nil | apply u_cons | apply u2_agg | exact u2_int | exact u1_int | exact u2_bool | exact u1_bool | exact u2_sli | exact u1_sli | exact u2_s0 | exact u1_s0))); all_goals (first | (intro t ht; cbv) | (assumption))))
      have k : t = r := by
        have k : t = (na && decide (lv u.1 ≠ 0), lim (lv u.1)) := ht
        rw [k, u1, lv_lim]; exact two g n
      rw [← k]; exact ⟨rfl, rfl, trivial⟩
    · have n : lv a < lv b := by
        by_cases h : lv a < lv b
        · exact h
        · rw [hu, if_neg h] at q; cases q
      (first | (apply E_pcallX hE (c_natSub b a hb ha hlb hla); (case hm => rfl); (case hle => (repeat' (first | exact u_nil | apply u_cons | apply u2_agg | exact u2_int | exact u1_int | exact u2_bool | exact u1_bool | exact u2_sli | exact u1_sli | exact u2_s0 | exact u1_s0))); all_goals (first | (intro u2 hu2; cbv) | (assumption))) | (apply E_callX hE (c_natSub b a hb ha hlb hla); (case hf => rfl); (case hc => (cbv <;> trivial)); (case hle => (repeat' (first | exact u_nil | apply u_cons | apply u2_agg | exact u2_int | exact u1_int | exact u2_bool | exact u1_bool | exact u2_sli | exact u1_sli | exact u2_s0 | exact u1_s0))); all_goals (first | (intro u2 hu2; cbv) | (assumption))))
      have hu2 : u2 = (if lv b < lv a then ([], false) else (lim (lv b - lv a), true)) := hu2
      have u1 : u2.1 = lim (lv b - lv a) := by rw [hu2, if_neg (by omega)]
      have ub : Lb u2.1 := by rw [u1]; exact lim_lb _
      have ul : u2.1.length ≤ 268435456 := by rw [u1]; exact lim3
      (first | (apply E_pcallX hE (c_wMake nb u2.1 ub ul); (case hm => rfl); (case hle => (repeat' (first | exact u_nil | apply u_cons | apply u2_agg | exact u2_int | exact u1_int | exact u2_bool | exact u1_bool | exact u2_sli | exact u1_sli | exact u2_s0 | exact u1_s0))); all_goals (first | (intro t ht; cbv) | (assumption))) | (apply E_callX hE (c_wMake nb u2.1 ub ul); (case hf => rfl); (case hc => (cbv <;> trivial)); (case hle => (repeat' (first | exact u_nil | apply u_cons | apply u2_agg | exact u2_int | exact u1_int | exact u2_bool | exact u1_bool | exact u2_sli | exact u1_sli | exact u2_s0 | exact u1_s0))); all_goals (first | (intro t ht; cbv) | (assumption))))
      have k : t = r := by
        have k : t = (nb && decide (lv u2.1 ≠ 0), lim (lv u2.1)) := ht
        rw [k, u1, lv_lim]; exact three g n
      rw [← k]; exact ⟨rfl, rfl, trivial⟩

end Go.Proofs.YtpadpcjdakfokaaDoor.Ev

/- What the contracts of intervals are told with. -/
namespace Go.Proofs.YtpadpcjdakfokaaDoor.Ev
open Go Go.Proofs
set_option linter.unusedVariables false
set_option linter.unusedSimpArgs false
theorem Iv.fin {t r : Iv} (h : t = r) : t.empty = r.empty ∧ t.lo.kind = r.lo.kind ∧ t.lo.neg = r.lo.neg ∧ t.lo.m = r.lo.m ∧ t.lo.e = r.lo.e ∧ t.hi.kind = r.hi.kind ∧ t.hi.neg = r.hi.neg ∧ t.hi.m = r.hi.m ∧ t.hi.e = r.hi.e ∧ True := by
  subst h; exact ⟨rfl, rfl, rfl, rfl, rfl, rfl, rfl, rfl, rfl, trivial⟩
theorem slcO1 {P : Program} {E : Env} (hE : E = realE P) {a z : Iv} {d : List AV} : sle2 (.slc 9 (.l 1) (E.rfun [a.cells] 0 d)) (.slc 9 (.s 1) (fun i => Iv.cells ([a].getD i z))) := by
  subst hE
  refine ⟨rfl, rfl, fun i hi => ?_⟩
  match i, hi with
  | 0, _ => exact iv_cells_self
  | i + 1, hi => exact absurd hi (by simp [SI.val])
theorem slc2 {a b : Num} {z : Num} : sle2 (.slc 4 (.l 2) (fun i => getRow [a.cells, b.cells] (Int.ofNat i))) (.slc 4 (.s 2) (fun i => Num.cells ([a, b].getD i z))) := by
  have r : ∀ {x : Num}, sleL sle0 x.cells x.cells := ⟨⟨rfl, rfl⟩, rfl, ⟨rfl, rfl⟩, ⟨rfl, rfl⟩, trivial⟩
  refine ⟨rfl, rfl, fun i hi => ?_⟩
  match i, hi with
  | 0, _ => exact r
  | 1, _ => exact r
  | i + 2, hi => exact absurd hi (by simp [SI.val])
end Go.Proofs.YtpadpcjdakfokaaDoor.Ev

/- Contracts: the opposite of an interval, how far from nought, the square. Printed by gen.py out of C11.spec. -/
namespace Go.Proofs.YtpadpcjdakfokaaDoor.Ev
open Go Go.Proofs
set_option linter.unusedVariables false
set_option linter.unusedSimpArgs false

theorem c_opNeg (a : Iv)  : ∃ t : Iv, t = Iv.neg a ∧ CallsA Tryd.prog 55 [a.av] (t.av) := by
  refine ⟨_, rfl, ?_⟩
  generalize hr : Iv.neg a = r
  refine callsA_of hG hm Tryd.func55 (by kernel_rfl) ?_
  intro E hE lp hl
  cbv
  repeat' (first
    | (refine E_br hE (fun h => ?_) (fun h => ?_) <;> cbv)
    | (refine E_nm hE (fun v hv => ?_); cbv)
    | (apply E_callX hE (c_none [a] 1 rfl (by decide)); (case hf => rfl); (case hc => (cbv <;> trivial)); (case hle => exact ⟨slcO1 hE, trivial⟩); intro t ht; cbv)
    | (apply E_pcallX hE (c_Neg ⟨_, _, _, _⟩); (case hm => rfl); (case hle => exact u_up); intro t ht; cbv)
    | (apply E_callX hE (c_ivNone ); (case hf => rfl); (case hc => (cbv <;> trivial)); (case hle => exact u_up); intro t ht; cbv)
    | (apply E_pcallX hE (c_ivMake ⟨_, _, _, _⟩ ⟨_, _, _, _⟩); (case hm => rfl); (case hle => exact u_up); intro t ht; cbv)
    | fail)
  all_goals (subst hE; subst hr)
  all_goals (try simp only [realE, cmp_eql, cmp_neq, cmp_lss, cmp_leq, cmp_gtr, cmp_geq, intBinR, decide_eq_true_eq, decide_eq_false_iff_not, SI.val, SB.val, Num.eta, Iv.eta] at *)
  all_goals (try refine Iv.fin (t := ⟨_, ⟨_, _, _, _⟩, ⟨_, _, _, _⟩⟩) ?_)
  all_goals (subst_vars; unfold Iv.neg; simp_all)

theorem c_opAbs (a : Iv)  : ∃ t : Iv, t = Iv.abs a ∧ CallsA Tryd.prog 59 [a.av] (t.av) := by
  refine ⟨_, rfl, ?_⟩
  generalize hr : Iv.abs a = r
  refine callsA_of hG hm Tryd.func59 (by kernel_rfl) ?_
  intro E hE lp hl
  cbv
  repeat' (first
    | (refine E_br hE (fun h => ?_) (fun h => ?_) <;> cbv)
    | (refine E_nm hE (fun v hv => ?_); cbv)
    | (apply E_callX hE (c_none [a] 1 rfl (by decide)); (case hf => rfl); (case hc => (cbv <;> trivial)); (case hle => exact ⟨slcO1 hE, trivial⟩); intro t ht; cbv)
    | (apply E_pcallX hE (c_Most [⟨_, _, _, _⟩, ⟨_, _, _, _⟩] 2 rfl (by decide)); (case hm => rfl); (case hle => exact ⟨slc2, trivial⟩); intro t ht; cbv)
    | (apply E_callX hE (c_Sign ⟨_, _, _, _⟩); (case hf => rfl); (case hc => (cbv <;> trivial)); (case hle => exact u_up); intro t ht; cbv)
    | (apply E_pcallX hE (c_Neg ⟨_, _, _, _⟩); (case hm => rfl); (case hle => exact u_up); intro t ht; cbv)
    | (apply E_callX hE (c_ivNone ); (case hf => rfl); (case hc => (cbv <;> trivial)); (case hle => exact u_up); intro t ht; cbv)
    | (apply E_callX hE (c_opNeg ⟨_, ⟨_, _, _, _⟩, ⟨_, _, _, _⟩⟩); (case hf => rfl); (case hc => (cbv <;> trivial)); (case hle => exact u_up); intro t ht; cbv)
    | (apply E_pcallX hE (c_ivMake ⟨_, _, _, _⟩ ⟨_, _, _, _⟩); (case hm => rfl); (case hle => exact u_up); intro t ht; cbv)
    | fail)
  all_goals (subst hE; subst hr)
  all_goals (try simp only [realE, cmp_eql, cmp_neq, cmp_lss, cmp_leq, cmp_gtr, cmp_geq, intBinR, decide_eq_true_eq, decide_eq_false_iff_not, SI.val, SB.val, Num.eta, Iv.eta] at *)
  all_goals (try refine Iv.fin (t := ⟨_, ⟨_, _, _, _⟩, ⟨_, _, _, _⟩⟩) ?_)
  all_goals (first | change t = _ | change a = _)
  all_goals (subst_vars; try simp only [show ({ kind := 0, neg := false, m := 0, e := 0 } : Num) = Num.zero from rfl] at *)
  all_goals (unfold Iv.abs; first
    | rw [if_pos ‹_›]
    | (rw [if_neg (by simp_all)]; first | rw [if_pos (by omega)] | (rw [if_neg (by omega)]; first | rw [if_pos (by omega)] | rw [if_neg (by omega)])))

theorem c_opSqr (a : Iv) (h1 : a.lo.ok) (h2 : a.hi.ok) : ∃ t : Iv, t = Iv.sqr a ∧ CallsA Tryd.prog 24 [a.av] (t.av) := by
  refine ⟨_, rfl, ?_⟩
  generalize hr : Iv.sqr a = r
  refine callsA_of hG hm Tryd.func24 (by kernel_rfl) ?_
  intro E hE lp hl
  cbv
  repeat' (first
    | (refine E_br hE (fun h => ?_) (fun h => ?_) <;> cbv)
    | (refine E_nm hE (fun v hv => ?_); cbv)
    | (apply E_callX hE (c_opAbs ⟨_, ⟨_, _, _, _⟩, ⟨_, _, _, _⟩⟩); (case hf => rfl); (case hc => (cbv <;> trivial)); (case hle => exact u_up); intro t ht; cbv)
    | (apply E_pcallX hE (c_arMul ⟨_, _, _, _⟩ ⟨_, _, _, _⟩ _ ?_ ?_); (case hm => rfl); (case hle => exact u_up); all_goals (first | (intro t ht; cbv) | (subst hE; (try simp only [realE, cmp_eql, cmp_neq, cmp_lss, cmp_leq, cmp_gtr, cmp_geq, intBinR, decide_eq_true_eq, decide_eq_false_iff_not, SI.val, SB.val, Num.eta, Iv.eta] at *); (subst_vars; first | exact (Iv.abs_ok h1 h2).1 | exact (Iv.abs_ok h1 h2).2))))
    | (apply E_pcallX hE (c_ivMake ⟨_, _, _, _⟩ ⟨_, _, _, _⟩); (case hm => rfl); (case hle => exact u_up); intro t ht; cbv)
    | fail)
  all_goals (subst hE; subst hr)
  all_goals (try simp only [realE, cmp_eql, cmp_neq, cmp_lss, cmp_leq, cmp_gtr, cmp_geq, intBinR, decide_eq_true_eq, decide_eq_false_iff_not, SI.val, SB.val, Num.eta, Iv.eta] at *)
  all_goals (try refine Iv.fin (t := ⟨_, ⟨_, _, _, _⟩, ⟨_, _, _, _⟩⟩) ?_)
  all_goals (change t = _; subst_vars; unfold Iv.sqr; simp_all)

theorem c_ivOf (a : Int) (b : Int) (h0 : -9223372036854775808 ≤ a) (h1 : a < 9223372036854775808) (h2 : -9223372036854775808 ≤ b) (h3 : b < 9223372036854775808) : ∃ t : Iv, t = Iv.ofInts a b ∧ CallsA Tryd.prog 45 [.int .i64 (.s a), .int .i64 (.s b)] (t.av) := by
  refine ⟨_, rfl, ?_⟩
  generalize hr : Iv.ofInts a b = r
  refine callsA_of hG hm Tryd.func45 (by kernel_rfl) ?_
  intro E hE lp hl
  cbv
  repeat' (first
    | (refine E_br hE (fun h => ?_) (fun h => ?_) <;> cbv)
    | (refine E_nm hE (fun v hv => ?_); cbv)
    | (apply E_callX hE (c_Of _ ?_ ?_); (case hf => rfl); (case hc => (cbv <;> trivial)); (case hle => exact u_up); all_goals (first | (intro t ht; cbv) | (subst hE; (try simp only [realE, cmp_eql, cmp_neq, cmp_lss, cmp_leq, cmp_gtr, cmp_geq, intBinR, decide_eq_true_eq, decide_eq_false_iff_not, SI.val, SB.val, Num.eta, Iv.eta] at *); first | assumption | omega)))
    | (apply E_callX hE (c_ivMake ⟨_, _, _, _⟩ ⟨_, _, _, _⟩); (case hf => rfl); (case hc => (cbv <;> trivial)); (case hle => exact u_up); intro t ht; cbv)
    | fail)
  all_goals (subst hE; subst hr)
  all_goals (try simp only [realE, cmp_eql, cmp_neq, cmp_lss, cmp_leq, cmp_gtr, cmp_geq, intBinR, decide_eq_true_eq, decide_eq_false_iff_not, SI.val, SB.val, Num.eta, Iv.eta] at *)
  all_goals (try refine Iv.fin (t := ⟨_, ⟨_, _, _, _⟩, ⟨_, _, _, _⟩⟩) ?_)
  all_goals (subst_vars; rfl)

end Go.Proofs.YtpadpcjdakfokaaDoor.Ev

/- Contracts of dy.Make and num.Exact. Printed by gen.py. -/
namespace Go.Proofs.YtpadpcjdakfokaaDoor.Ev
open Go Go.Proofs
set_option linter.unusedVariables false
set_option linter.unusedSimpArgs false

attribute [local irreducible] Lb
theorem c_within (e : Int) : ∃ t : Bool, t = (decide (-4194304 ≤ e) && decide (e ≤ 4194304)) ∧ CallsA Tryd.prog 41 [.int .i64 (.s e)] (.bool (.s t)) := by
  refine ⟨_, rfl, ?_⟩
  generalize hr : (decide (-4194304 ≤ e) && decide (e ≤ 4194304)) = r
  have z1 : -4194304 ≤ e → decide (e ≤ 4194304) = r := by intro h; rw [← hr, decide_eq_true h]; rfl
  have z2 : ¬ -4194304 ≤ e → false = r := by intro h; rw [← hr, decide_eq_false h]; rfl
  clear hr
  refine callsA_of hG hm Tryd.func41 (by kernel_rfl) ?_
  intro E hE lp hl
  cbv
  refine E_br hE (fun g => ?_) (fun g => ?_) <;> cbv
  · subst hE
    exact (cmp_leq _ _).trans (z1 (geq_t g))
  · subst hE
    exact z2 (geq_f g)
set_option maxHeartbeats 1000000 in
theorem c_dyMake (neg : Bool) (m : List Int) (e : Int) (hm_ : Lb m) (hl_ : m.length < 67108864) (he0 : -9223372036854775808 ≤ e) (he1 : e < 9223372036854775808) :
    ∃ t : Bool × List Int × Int, t = dyL (dyMake neg (lv m) e) ∧ CallsA Tryd.prog 13 [.agg [.bool (.s neg), .sli .u32 m], .int .i64 (.s e)] (.agg [.bool (.s t.1), .sli .u32 t.2.1, .int .i64 (.s t.2.2)]) := by
  refine ⟨_, rfl, ?_⟩
  generalize hr : dyL (dyMake neg (lv m) e) = r
  have vb : 0 < lv m → v2 (lv m) < 32 * 67108864 := by
    intro h
    have l := lv_lt hm_
    rw [show (4294967296 : Nat) = 2 ^ 32 by rfl, ← Nat.pow_mul] at l
    have := v2_lt h l
    omega
  have bad0 : (lv m = 0 ∨ ¬ (-4194304 ≤ e ∧ e ≤ 4194304)) → (false, [], 0) = r := by
    intro h; rw [← hr]; unfold dyMake; rw [if_pos (by omega)]; rfl
  have bad1 : lv m ≠ 0 → (-4194304 ≤ e ∧ e ≤ 4194304) → 4194304 < e + v2 (lv m) → (false, [], 0) = r := by
    intro h g k; rw [← hr]; unfold dyMake; rw [if_neg (by omega), if_pos k]; rfl
  have good : lv m ≠ 0 → (-4194304 ≤ e ∧ e ≤ 4194304) → ¬ 4194304 < e + v2 (lv m) → (neg, lim (lv m / 2 ^ v2 (lv m)), e + v2 (lv m)) = r ∧ lv m / 2 ^ v2 (lv m) ≠ 0 := by
    intro h g k
    refine ⟨by rw [← hr]; unfold dyMake; rw [if_neg (by omega), if_neg k]; rfl, ?_⟩
    have := (v2_spec (lv m) (by omega)).2.1
    intro z; rw [z] at this; cases this
  have ls : ∀ x, x = lim (lv m / 2 ^ ((v2 (lv m) : Int)).toNat) → Lb x ∧ x.length ≤ 268435456 := by
    intro x hx
    rw [hx]
    refine ⟨lim_lb _, ?_⟩
    have l := lv_lt hm_
    have d : lv m / 2 ^ ((v2 (lv m) : Int)).toNat ≤ lv m := Nat.div_le_self _ _
    have := lim_length_le (n := lv m / 2 ^ ((v2 (lv m) : Int)).toNat) (k := m.length) (by omega)
    omega
  clear hr
  obtain ⟨V, hV⟩ : ∃ V : Int, V = v2 (lv m) := ⟨_, rfl⟩
  have hVn : V.toNat = v2 (lv m) := by omega
  have vb : 0 < lv m → 0 ≤ V ∧ V < 32 * 67108864 := fun h => by have := vb h; omega
  rw [← hV] at bad1 good ls
  refine callsA_of hG hm Tryd.func13 (by kernel_rfl) ?_
  intro E hE lp hl
  cbv
  (first | (apply E_pcallX hE (c_wSign neg m hm_ hl_); (case hm => rfl); (case hle => (repeat' (first | exact u_nil | apply u_cons | apply u2_agg | exact u2_int | exact u1_int | exact u2_bool | exact u1_bool | exact u2_sli | exact u1_sli | exact u2_s0 | exact u1_s0))); all_goals (first | (intro s hs; cbv) | (assumption))) | (apply E_callX hE (c_wSign neg m hm_ hl_); (case hf => rfl); (case hc => (cbv <;> trivial)); (case hle => (repeat' (first | exact u_nil | apply u_cons | apply u2_agg | exact u2_int | exact u1_int | exact u2_bool | exact u1_bool | exact u2_sli | exact u1_sli | exact u2_s0 | exact u1_s0))); all_goals (first | (intro s hs; cbv) | (assumption))))
  refine E_br hE (fun g => ?_) (fun g => ?_) <;> cbv
  · have z : lv m = 0 := by
      have g : s = 0 := by subst hE; exact eql_t g
      rw [hs] at g
      by_cases h : lv m = 0
      · exact h
      · rw [if_neg h] at g; split at g <;> cases g
    rw [← bad0 (.inl z)]; exact ⟨rfl, rfl, rfl, trivial⟩
  have n0 : lv m ≠ 0 := by
    have g : ¬ s = 0 := by subst hE; exact eql_f g
    intro z; apply g; rw [hs, if_pos z]
  (first | (apply E_pcallX hE (c_within e); (case hm => rfl); (case hle => (repeat' (first | exact u_nil | apply u_cons | apply u2_agg | exact u2_int | exact u1_int | exact u2_bool | exact u1_bool | exact u2_sli | exact u1_sli | exact u2_s0 | exact u1_s0))); all_goals (first | (intro w hw; cbv) | (assumption))) | (apply E_callX hE (c_within e); (case hf => rfl); (case hc => (cbv <;> trivial)); (case hle => (repeat' (first | exact u_nil | apply u_cons | apply u2_agg | exact u2_int | exact u1_int | exact u2_bool | exact u1_bool | exact u2_sli | exact u1_sli | exact u2_s0 | exact u1_s0))); all_goals (first | (intro w hw; cbv) | (assumption))))
  refine E_br hE (fun g2 => ?_) (fun g2 => ?_) <;> cbv
  · have z : ¬ (-4194304 ≤ e ∧ e ≤ 4194304) := by
      have g2 : w = false := by subst hE; cases w; rfl; exact absurd g2 (by decide)
      rw [hw] at g2
      simp only [Bool.and_eq_false_iff, decide_eq_false_iff_not] at g2
      omega
    rw [← bad0 (.inr z)]; exact ⟨rfl, rfl, rfl, trivial⟩
  have r0 : -4194304 ≤ e ∧ e ≤ 4194304 := by
    have g2 : w = true := by subst hE; cases w; exact absurd g2 (by decide); rfl
    rw [hw] at g2
    simp only [Bool.and_eq_true, decide_eq_true_eq] at g2
    exact g2
  have vb := vb (by omega)
  (first | (apply E_pcallX hE (c_trailing m hm_ hl_ ?_); (case hm => rfl); (case hle => (repeat' (first | exact u_nil | apply u_cons | apply u2_agg | exact u2_int | exact u1_int | exact u2_bool | exact u1_bool | exact u2_sli | exact u1_sli | exact u2_s0 | exact u1_s0))); all_goals (first | (intro b hb; cbv) | (omega))) | (apply E_callX hE (c_trailing m hm_ hl_ ?_); (case hf => rfl); (case hc => (cbv <;> trivial)); (case hle => (repeat' (first | exact u_nil | apply u_cons | apply u2_agg | exact u2_int | exact u1_int | exact u2_bool | exact u1_bool | exact u2_sli | exact u1_sli | exact u2_s0 | exact u1_s0))); all_goals (first | (intro b hb; cbv) | (omega))))
  (try (refine E_nm hE (fun v hv => ?_); cbv))
  have ev : v = V := hv.trans (hb.trans hV.symm)
  have ea : E.bin .add .i64 e v = e + V := by
    rw [ev]; subst hE
    show IntKind.i64.wrap (e + V) = _
    exact wi64_in (by omega) (by omega)
  (first | (apply E_pcallX hE (c_within _); (case hm => rfl); (case hle => (repeat' (first | exact u_nil | apply u_cons | apply u2_agg | exact u2_int | exact u1_int | exact u2_bool | exact u1_bool | exact u2_sli | exact u1_sli | exact u2_s0 | exact u1_s0))); all_goals (first | (intro w2 hw2; cbv) | (assumption))) | (apply E_callX hE (c_within _); (case hf => rfl); (case hc => (cbv <;> trivial)); (case hle => (repeat' (first | exact u_nil | apply u_cons | apply u2_agg | exact u2_int | exact u1_int | exact u2_bool | exact u1_bool | exact u2_sli | exact u1_sli | exact u2_s0 | exact u1_s0))); all_goals (first | (intro w2 hw2; cbv) | (assumption))))
  have hw2 : w2 = (decide (-4194304 ≤ e + V) && decide (e + V ≤ 4194304)) := by rw [← ea]; exact hw2
  refine E_br hE (fun g3 => ?_) (fun g3 => ?_) <;> cbv
  · have z : 4194304 < e + V := by
      have g3 : w2 = false := by subst hE; cases w2; rfl; exact absurd g3 (by decide)
      rw [hw2] at g3
      simp only [Bool.and_eq_false_iff, decide_eq_false_iff_not] at g3
      omega
    rw [← bad1 n0 r0 z]; exact ⟨rfl, rfl, rfl, trivial⟩
  have z : ¬ 4194304 < e + V := by
    have g3 : w2 = true := by subst hE; cases w2; exact absurd g3 (by decide); rfl
    rw [hw2] at g3
    simp only [Bool.and_eq_true, decide_eq_true_eq] at g3
    omega
  obtain ⟨gd, gn⟩ := good n0 r0 z
  (first | (apply E_pcallX hE (c_natShr m v hm_ hl_); (case hm => rfl); (case hle => (repeat' (first | exact u_nil | apply u_cons | apply u2_agg | exact u2_int | exact u1_int | exact u2_bool | exact u1_bool | exact u2_sli | exact u1_sli | exact u2_s0 | exact u1_s0))); all_goals (first | (intro x hx; cbv) | (assumption))) | (apply E_callX hE (c_natShr m v hm_ hl_); (case hf => rfl); (case hc => (cbv <;> trivial)); (case hle => (repeat' (first | exact u_nil | apply u_cons | apply u2_agg | exact u2_int | exact u1_int | exact u2_bool | exact u1_bool | exact u2_sli | exact u1_sli | exact u2_s0 | exact u1_s0))); all_goals (first | (intro x hx; cbv) | (assumption))))
  have hx : x = lim (lv m / 2 ^ v.toNat) := hx
  rw [ev] at hx
  have xb := ls x hx
  (first | (apply E_pcallX hE (c_wMake neg x xb.1 xb.2); (case hm => rfl); (case hle => (repeat' (first | exact u_nil | apply u_cons | apply u2_agg | exact u2_int | exact u1_int | exact u2_bool | exact u1_bool | exact u2_sli | exact u1_sli | exact u2_s0 | exact u1_s0))); all_goals (first | (intro y hy; cbv) | (assumption))) | (apply E_callX hE (c_wMake neg x xb.1 xb.2); (case hf => rfl); (case hc => (cbv <;> trivial)); (case hle => (repeat' (first | exact u_nil | apply u_cons | apply u2_agg | exact u2_int | exact u1_int | exact u2_bool | exact u1_bool | exact u2_sli | exact u1_sli | exact u2_s0 | exact u1_s0))); all_goals (first | (intro y hy; cbv) | (assumption))))
  rw [hVn] at hx
  have hy : y = (neg, lim (lv m / 2 ^ v2 (lv m))) := by
    have k : y = (neg && decide (lv x ≠ 0), lim (lv x)) := hy
    rw [k, hx, lv_lim, decide_eq_true gn, Bool.and_true]
  rw [← gd]
  exact ⟨by rw [hy], by rw [hy], ea, trivial⟩

theorem lim2 {m : Int} (h0 : 0 ≤ m) (h1 : m < 18446744073709551616) : Lb [m % 4294967296, m / 4294967296] ∧ lv [m % 4294967296, m / 4294967296] = m.toNat := ⟨rlimbs_lb h0 h1, rlimbs_lv h0⟩
set_option maxHeartbeats 1000000 in
theorem c_Exact (n : Num) (ho : n.ok) : ∃ t : (Bool × List Int × Int) × Bool, t = (dyL n.exact.1, n.exact.2) ∧ CallsA Tryd.prog 12 [n.av] (.tup [.agg [.bool (.s t.1.1), .sli .u32 t.1.2.1, .int .i64 (.s t.1.2.2)], .bool (.s t.2)]) := by
  refine ⟨_, rfl, ?_⟩
  generalize hr : (dyL n.exact.1, n.exact.2) = r
  have bad : (n.may = false ∨ n.kind = 2) → ((false, [], 0), false) = r := by intro h; rw [← hr]; unfold Num.exact; rw [if_pos h]; rfl
  have fin : ¬ (n.may = false ∨ n.kind = 2) → -1048576 ≤ n.e ∧ n.e ≤ 1048576 ∧ ∀ x : Bool × List Int, x = (n.neg && decide (n.m.toNat ≠ 0), lim n.m.toNat) → ∀ t, t = dyL (dyMake x.1 (lv x.2) n.e) → (t, true) = r := by
    intro h
    have mm : n.may = true := by cases q : n.may; exact absurd (.inl q) h; rfl
    rcases Num.may3 mm ho with k | k | k
    · rw [k]
      refine ⟨by decide, by decide, fun x hx t ht => ?_⟩
      rw [ht, hx, ← hr, k]; rfl
    · refine ⟨k.elo, k.ehi, fun x hx t ht => ?_⟩
      have lo := k.lo
      rw [ht, hx, ← hr]
      unfold Num.exact
      rw [if_neg h, if_neg (by rw [k.kind]; decide), decide_eq_true (by omega), Bool.and_true, lv_lim]
    · exfalso; apply h; right; rw [k]; rfl
  have L := lim2 ho.1 ho.2
  have shr : intBinR .shr .u64 n.m 32 = n.m / 4294967296 := by
    show Int.fdiv n.m (2 ^ (min (32 : Int).toNat 64)) = _
    rw [show (2 : Int) ^ (min (32 : Int).toNat 64) = 4294967296 by decide, Int.fdiv_eq_ediv_of_nonneg _ (by decide)]
  have c1 : IntKind.u32.wrap n.m = n.m % 4294967296 := wu32 _
  have c2 : IntKind.u32.wrap (n.m / 4294967296) = n.m / 4294967296 := by rw [wu32]; have := ho.1; have := ho.2; omega
  clear hr
  refine callsA_of hG hm Tryd.func12 (by kernel_rfl) ?_
  intro E hE lp hl
  cbv
  (first | (apply E_pcallX hE (c_May ⟨_, _, _, _⟩); (case hm => rfl); (case hle => (repeat' (first | exact u_nil | apply u_cons | apply u2_agg | exact u2_int | exact u1_int | exact u2_bool | exact u1_bool | exact u2_sli | exact u1_sli | exact u2_s0 | exact u1_s0))); all_goals (first | (intro o ho_; cbv) | (assumption))) | (apply E_callX hE (c_May ⟨_, _, _, _⟩); (case hf => rfl); (case hc => (cbv <;> trivial)); (case hle => (repeat' (first | exact u_nil | apply u_cons | apply u2_agg | exact u2_int | exact u1_int | exact u2_bool | exact u1_bool | exact u2_sli | exact u1_sli | exact u2_s0 | exact u1_s0))); all_goals (first | (intro o ho_; cbv) | (assumption))))
  have ho_ : o = n.may := ho_
  refine E_br hE (fun g1 => ?_) (fun g1 => ?_) <;> cbv
  · rw [← bad (.inl (by rw [← ho_]; subst hE; cases o; rfl; exact absurd g1 (by decide)))]; exact ⟨⟨rfl, rfl, rfl, trivial⟩, rfl, trivial⟩
  have m1 : n.may = true := by rw [← ho_]; subst hE; cases o; exact absurd g1 (by decide); rfl
  refine E_br hE (fun g2 => ?_) (fun g2 => ?_) <;> cbv
  · rw [← bad (.inr (by subst hE; exact eql_t g2))]; exact ⟨⟨rfl, rfl, rfl, trivial⟩, rfl, trivial⟩
  have m2 : ¬ (n.may = false ∨ n.kind = 2) := by
    rintro (z | z)
    · rw [m1] at z; cases z
    · subst hE; exact eql_f g2 z
  obtain ⟨e0, e1, fin⟩ := fin m2
  have el : [E.conv .u32 n.m, E.conv .u32 (E.bin .shr .u64 n.m 32)] = [n.m % 4294967296, n.m / 4294967296] := by
    subst hE
    show [IntKind.u32.wrap n.m, IntKind.u32.wrap (intBinR .shr .u64 n.m 32)] = _
    rw [shr, c1, c2]
  (first | (apply E_pcallX hE (c_wMake n.neg [E.conv .u32 n.m, E.conv .u32 (E.bin .shr .u64 n.m 32)] ?_ ?_); (case hm => rfl); (case hle => (repeat' (first | exact u_nil | apply u_cons | apply u2_agg | exact u2_int | exact u1_int | exact u2_bool | exact u1_bool | exact u2_sli | exact u1_sli | exact u2_s0 | exact u1_s0))); all_goals (first | (intro x hx; cbv) | (first | (rw [el]; exact L.1) | (rw [el]; show 2 ≤ 268435456; decide)))) | (apply E_callX hE (c_wMake n.neg [E.conv .u32 n.m, E.conv .u32 (E.bin .shr .u64 n.m 32)] ?_ ?_); (case hf => rfl); (case hc => (cbv <;> trivial)); (case hle => (repeat' (first | exact u_nil | apply u_cons | apply u2_agg | exact u2_int | exact u1_int | exact u2_bool | exact u1_bool | exact u2_sli | exact u1_sli | exact u2_s0 | exact u1_s0))); all_goals (first | (intro x hx; cbv) | (first | (rw [el]; exact L.1) | (rw [el]; show 2 ≤ 268435456; decide)))))
  have hx : x = (n.neg && decide (n.m.toNat ≠ 0), lim n.m.toNat) := by
    have k : x = (n.neg && decide (lv [E.conv .u32 n.m, E.conv .u32 (E.bin .shr .u64 n.m 32)] ≠ 0), lim (lv [E.conv .u32 n.m, E.conv .u32 (E.bin .shr .u64 n.m 32)])) := hx
    rw [el, L.2] at k; exact k
  have xb : Lb x.2 ∧ x.2.length < 67108864 := by
    rw [hx]
    refine ⟨lim_lb _, ?_⟩
    have := lim_length_le' L.1
    rw [L.2] at this
    exact Nat.lt_of_le_of_lt this (show 2 < 67108864 by decide)
  (first | (apply E_pcallX hE (c_dyMake x.1 x.2 n.e xb.1 xb.2 ?_ ?_); (case hm => rfl); (case hle => (repeat' (first | exact u_nil | apply u_cons | apply u2_agg | exact u2_int | exact u1_int | exact u2_bool | exact u1_bool | exact u2_sli | exact u1_sli | exact u2_s0 | exact u1_s0))); all_goals (first | (intro t ht; cbv) | (first | exact Int.le_trans (by decide) e0 | exact Int.lt_of_le_of_lt e1 (by decide)))) | (apply E_callX hE (c_dyMake x.1 x.2 n.e xb.1 xb.2 ?_ ?_); (case hf => rfl); (case hc => (cbv <;> trivial)); (case hle => (repeat' (first | exact u_nil | apply u_cons | apply u2_agg | exact u2_int | exact u1_int | exact u2_bool | exact u1_bool | exact u2_sli | exact u1_sli | exact u2_s0 | exact u1_s0))); all_goals (first | (intro t ht; cbv) | (first | exact Int.le_trans (by decide) e0 | exact Int.lt_of_le_of_lt e1 (by decide)))))
  rw [← fin x hx t ht]
  exact ⟨⟨rfl, rfl, rfl, trivial⟩, rfl, trivial⟩

end Go.Proofs.YtpadpcjdakfokaaDoor.Ev

/- Contract of whole.May. Printed by gen.py. -/
namespace Go.Proofs.YtpadpcjdakfokaaDoor.Ev
open Go Go.Proofs
set_option linter.unusedVariables false
set_option linter.unusedSimpArgs false

attribute [local irreducible] Lb
def wMayB (neg : Bool) (m : List Int) : Bool := if m.length = 0 then !neg else decide (m.getD (m.length - 1) 0 ≠ 0)
theorem c_wMay (neg : Bool) (m : List Int) (hl_ : m.length < 4611686018427387904) : ∃ t : Bool, t = wMayB neg m ∧ CallsA Tryd.prog 108 [.agg [.bool (.s neg), .sli .u32 m]] (.bool (.s t)) := by
  refine ⟨_, rfl, ?_⟩
  generalize hr : wMayB neg m = r
  have z0 : (m.length : Int) = 0 → (!neg) = r := by intro h; rw [← hr]; unfold wMayB; rw [if_pos (by omega)]
  have z1 : ¬ (m.length : Int) = 0 → IntKind.i64.wrap ((m.length : Int) - 1) = (m.length : Int) - 1 ∧ 0 ≤ (m.length : Int) - 1 ∧ (m.length : Int) - 1 < m.length ∧ ∀ x : Bool, x = decide (m.getD ((m.length : Int) - 1).toNat 0 ≠ 0) → x = r := by
    intro h
    refine ⟨wi64_in (by omega) (by omega), by omega, by omega, fun x hx => ?_⟩
    rw [hx, ← hr]; unfold wMayB; rw [if_neg (by omega), show ((m.length : Int) - 1).toNat = m.length - 1 by omega]
  clear hr
  refine callsA_of hG hm Tryd.func108 (by kernel_rfl) ?_
  intro E hE lp hl
  cbv
  refine E_br hE (fun g => ?_) (fun g => ?_) <;> cbv
  · subst hE; exact z0 (eql_t g)
  · have z1 := z1 (by subst hE; exact eql_f g)
    have es : E.bin .sub .i64 (E.len m) 1 = (m.length : Int) - 1 := by subst hE; exact z1.1
    refine E_br hE (fun b1 => ?_) (fun b1 => ?_) <;> cbv
    · refine E_br hE (fun b2 => ?_) (fun b2 => ?_) <;> cbv
      · refine z1.2.2.2 _ ?_
        show E.cmp .neq (E.get m (E.bin .sub .i64 (E.len m) 1)) 0 = _
        rw [es]
        subst hE
        exact cmp_neq _ _
      · rw [es] at b2
        subst hE
        exact lss_f b2 z1.2.2.1
    · rw [es] at b1
      subst hE
      exact leq_f b1 z1.2.1

end Go.Proofs.YtpadpcjdakfokaaDoor.Ev

/- Contracts of dy.May, fair, Move, Floor: of dyadic numbers as they may be. Printed by gen.py. -/
namespace Go.Proofs.YtpadpcjdakfokaaDoor.Ev
open Go Go.Proofs
set_option linter.unusedVariables false
set_option linter.unusedSimpArgs false

attribute [local irreducible] Lb
/-- a dyadic number, as it may be -/
def DyC (p : Bool × Nat × Int) : Prop := p = (false, 0, 0) ∨ (p.2.1 % 2 = 1 ∧ -4194304 ≤ p.2.2 ∧ p.2.2 ≤ 4194304)
theorem and_one {x : Int} (h0 : 0 ≤ x) (h1 : x < 4294967296) : intBinR .and .u32 x 1 = x % 2 := by
  obtain ⟨n, rfl⟩ := Int.eq_ofNat_of_zero_le h0
  show IntKind.u32.wrap ((BitVec.ofInt IntKind.u32.bits (n : Int) &&& BitVec.ofInt IntKind.u32.bits 1).toNat : Int) = _
  have b1 : (BitVec.ofInt IntKind.u32.bits (n : Int)).toNat = n := by
    show (BitVec.ofInt 32 (n : Int)).toNat = n
    rw [BitVec.ofInt_natCast, BitVec.toNat_ofNat]; omega
  have b2 : (BitVec.ofInt IntKind.u32.bits 1).toNat = 1 := by decide
  rw [BitVec.toNat_and, b1, b2, Nat.and_one_is_mod, wu32]
  omega
theorem lim_top {k : Nat} (h : k ≠ 0) : (lim k).length ≠ 0 ∧ (lim k).getD ((lim k).length - 1) 0 ≠ 0 := by
  have ne : lim k ≠ [] := fun z => h (lim_eq_nil.1 z)
  exact ⟨fun z => ne (List.length_eq_zero_iff.1 z), (lim_cn k).last ne⟩
theorem lim_low {k : Nat} (h : k % 2 = 1) : (lim k).getD 0 0 % 2 = 1 ∧ 0 < (lim k).length := by
  have n0 : k ≠ 0 := by intro z; rw [z] at h; cases h
  have L := lim_lb k
  have V := lv_lim k
  have N := (lim_top n0).1
  match hq : lim k, L, V, N with
  | [], _, _, N => exact absurd rfl N
  | y :: r, L, V, _ =>
    have hy := L.head
    simp only [lv] at V
    refine ⟨?_, Nat.zero_lt_succ _⟩
    show y % 2 = 1
    omega
theorem c_dyMayT (p : Bool × Nat × Int) (hp : DyC p) (x : Bool × List Int × Int) (hx : x = dyL p) (hl_ : x.2.1.length < 4611686018427387904) : ∃ t : Bool, t = true ∧ CallsA Tryd.prog 84 [.agg [.bool (.s x.1), .sli .u32 x.2.1, .int .i64 (.s x.2.2)]] (.bool (.s t)) := by
  refine ⟨_, rfl, ?_⟩
  have z0 : (x.2.1.length : Int) = 0 → x.1 = false ∧ x.2.2 = 0 := by
    intro h
    rcases hp with hp | hp
    · rw [hx, hp]; exact ⟨rfl, rfl⟩
    · exfalso
      have := (lim_low hp.1).2
      rw [hx] at h
      have h : ((lim p.2.1).length : Int) = 0 := h
      omega
  have z1 : ¬ (x.2.1.length : Int) = 0 → wMayB x.1 x.2.1 = true ∧ x.2.1.getD 0 0 % 2 = 1 ∧ 0 ≤ x.2.1.getD 0 0 ∧ x.2.1.getD 0 0 < 4294967296 ∧ (0 : Int) < x.2.1.length ∧ -4194304 ≤ x.2.2 ∧ x.2.2 ≤ 4194304 := by
    intro h
    rcases hp with hp | hp
    · exfalso; apply h; rw [hx, hp]; rfl
    · have n0 : p.2.1 ≠ 0 := by intro z; rw [z] at hp; cases hp.1
      have l1 := lim_top n0
      have l2 := lim_low hp.1
      have l3 := (lim_lb p.2.1).getD 0
      have e : x.2.1 = lim p.2.1 := by rw [hx]; rfl
      have e2 : x.2.2 = p.2.2 := by rw [hx]; rfl
      rw [e, e2]
      refine ⟨?_, l2.1, l3.1, l3.2, by omega, hp.2.1, hp.2.2⟩
      unfold wMayB
      rw [if_neg l1.1, decide_eq_true l1.2]
  refine callsA_of hG hm Tryd.func84 (by kernel_rfl) ?_
  intro E hE lp hl
  cbv
  refine E_br hE (fun g => ?_) (fun g => ?_) <;> cbv
  · have z := z0 (by subst hE; exact eql_t g)
    have b : E.bnot x.1 = true := by rw [z.1]; subst hE; rfl
    refine E_br_t hE b ?_; cbv
    show E.cmp .eql x.2.2 0 = true
    rw [z.2]; subst hE; rfl
  have z := z1 (by subst hE; exact eql_f g)
  (first | (apply E_pcallX hE (c_wMay x.1 x.2.1 hl_); (case hm => rfl); (case hle => (repeat' (first | exact u_nil | apply u_cons | apply u2_agg | exact u2_int | exact u1_int | exact u2_bool | exact u1_bool | exact u2_sli | exact u1_sli | exact u2_s0 | exact u1_s0))); all_goals (first | (intro w hw; cbv) | (assumption))) | (apply E_callX hE (c_wMay x.1 x.2.1 hl_); (case hf => rfl); (case hc => (cbv <;> trivial)); (case hle => (repeat' (first | exact u_nil | apply u_cons | apply u2_agg | exact u2_int | exact u1_int | exact u2_bool | exact u1_bool | exact u2_sli | exact u1_sli | exact u2_s0 | exact u1_s0))); all_goals (first | (intro w hw; cbv) | (assumption))))
  have w1 : w = true := hw.trans z.1
  refine E_br_t hE w1 ?_; cbv
  refine E_br hE (fun b2 => ?_) (fun b2 => ?_) <;> cbv
  · have e : E.cmp .eql (E.bin .and .u32 (E.get x.2.1 0) 1) 1 = true := by
      subst hE
      show decide (intBinR .and .u32 (x.2.1.getD 0 0) 1 = 1) = true
      rw [and_one z.2.2.1 z.2.2.2.1, z.2.1]; rfl
    refine E_br_t hE e ?_; cbv
    (first | (apply E_pcallX hE (c_within _); (case hm => rfl); (case hle => (repeat' (first | exact u_nil | apply u_cons | apply u2_agg | exact u2_int | exact u1_int | exact u2_bool | exact u1_bool | exact u2_sli | exact u1_sli | exact u2_s0 | exact u1_s0))); all_goals (first | (intro v hv; cbv) | (assumption))) | (apply E_callX hE (c_within _); (case hf => rfl); (case hc => (cbv <;> trivial)); (case hle => (repeat' (first | exact u_nil | apply u_cons | apply u2_agg | exact u2_int | exact u1_int | exact u2_bool | exact u1_bool | exact u2_sli | exact u1_sli | exact u2_s0 | exact u1_s0))); all_goals (first | (intro v hv; cbv) | (assumption))))
    rw [hv]
    show (decide (-4194304 ≤ x.2.2) && decide (x.2.2 ≤ 4194304)) = true
    rw [decide_eq_true z.2.2.2.2.2.1, decide_eq_true z.2.2.2.2.2.2]; rfl
  · exfalso
    subst hE
    exact lss_f b2 z.2.2.2.2.1
theorem c_dyFair (p : Bool × Nat × Int) (hp : DyC p) (x : Bool × List Int × Int) (hx : x = dyL p) (hl_ : x.2.1.length < 4611686018427387904) : ∃ t : Bool × List Int × Int, t = x ∧ CallsA Tryd.prog 49 [.agg [.bool (.s x.1), .sli .u32 x.2.1, .int .i64 (.s x.2.2)]] (.agg [.bool (.s t.1), .sli .u32 t.2.1, .int .i64 (.s t.2.2)]) := by
  refine ⟨_, rfl, ?_⟩
  refine callsA_of hG hm Tryd.func49 (by kernel_rfl) ?_
  intro E hE lp hl
  cbv
  (first | (apply E_pcallX hE (c_dyMayT p hp x hx hl_); (case hm => rfl); (case hle => (repeat' (first | exact u_nil | apply u_cons | apply u2_agg | exact u2_int | exact u1_int | exact u2_bool | exact u1_bool | exact u2_sli | exact u1_sli | exact u2_s0 | exact u1_s0))); all_goals (first | (intro w hw; cbv) | (assumption))) | (apply E_callX hE (c_dyMayT p hp x hx hl_); (case hf => rfl); (case hc => (cbv <;> trivial)); (case hle => (repeat' (first | exact u_nil | apply u_cons | apply u2_agg | exact u2_int | exact u1_int | exact u2_bool | exact u1_bool | exact u2_sli | exact u1_sli | exact u2_s0 | exact u1_s0))); all_goals (first | (intro w hw; cbv) | (assumption))))
  refine E_br_t hE hw ?_; cbv
theorem shl_len {k L n : Nat} (h : (lim k).length ≤ L) : (lim (k * 2 ^ n)).length ≤ L + (n / 32 + 1) := by
  refine lim_length_le ?_
  have a := lv_lt (lim_lb k)
  rw [lv_lim] at a
  have b : 2 ^ n ≤ 4294967296 ^ (n / 32 + 1) := by
    rw [show (4294967296 : Nat) = 2 ^ 32 by rfl, ← Nat.pow_mul]
    exact Nat.pow_le_pow_right (by decide) (by omega)
  have c : 4294967296 ^ (lim k).length ≤ 4294967296 ^ L := Nat.pow_le_pow_right (by decide) h
  rw [Nat.pow_add]
  exact Nat.mul_lt_mul_of_lt_of_le' (Nat.lt_of_lt_of_le a c) b (Nat.two_pow_pos n)
end Go.Proofs.YtpadpcjdakfokaaDoor.Ev

/- What intervals have together, and the least one that has all of some: plain Lean. -/
namespace Go.Proofs.YtpadpcjdakfokaaDoor.Ev
open Go

/-- those that are not empty, and may be -/
def Iv.goods : List Iv → List Iv
  | [] => []
  | x :: r => if x.fair.empty then goods r else x.fair :: goods r
def Iv.los (l : List Iv) : List Num := (Iv.goods l).map Iv.lo
def Iv.his (l : List Iv) : List Num := (Iv.goods l).map Iv.hi
def Iv.allGood (l : List Iv) : Bool := l.all (fun x => !x.fair.empty)
def Iv.meet (l : List Iv) : Iv := if Iv.allGood l then Iv.make (Num.most (Iv.los l)) (Num.least (Iv.his l)) else Iv.none
def Iv.hull (l : List Iv) : Iv := if (Iv.los l).length = 0 then Iv.none else Iv.make (Num.least (Iv.los l)) (Num.most (Iv.his l))

end Go.Proofs.YtpadpcjdakfokaaDoor.Ev

/- Products and sums of whole numbers, and what intervals make of them: plain Lean. -/
namespace Go.Proofs.YtpadpcjdakfokaaDoor.Ev
open Go

def Int.sm (n : Int) : Prop := -4611686018427387904 ≤ n ∧ n ≤ 4611686018427387904
theorem min2 (a b : Int) : ∃ m, m ∈ [a, b] ∧ ∀ x ∈ [a, b], m ≤ x := by
  rcases Int.le_total a b with h | h
  · exact ⟨a, by simp, by simp; exact h⟩
  · exact ⟨b, by simp, by simp; exact h⟩
theorem max2 (a b : Int) : ∃ m, m ∈ [a, b] ∧ ∀ x ∈ [a, b], x ≤ m := by
  rcases Int.le_total a b with h | h
  · exact ⟨b, by simp, by simp; exact h⟩
  · exact ⟨a, by simp, by simp; exact h⟩
end Go.Proofs.YtpadpcjdakfokaaDoor.Ev

/- Fixed numbers: what a number times 2^192, rounded down, is: plain Lean. -/
namespace Go.Proofs.YtpadpcjdakfokaaDoor.Ev
open Go
set_option linter.unusedVariables false
set_option linter.unusedSimpArgs false

end Go.Proofs.YtpadpcjdakfokaaDoor.Ev

/- Exact sums, differences and products of dyadic numbers, by their values: plain Lean. -/
namespace Go.Proofs.YtpadpcjdakfokaaDoor.Ev
open Go
set_option linter.unusedVariables false
set_option linter.unusedSimpArgs false

/-- a dyadic number of a value, its bits between two places -/
structure DyV (B : Nat) (p : Bool × Nat × Int) (t : Int) : Prop where
  odd : p = (false, 0, 0) ∨ p.2.1 % 2 = 1
  lo : -(B : Int) ≤ p.2.2
  hi : p.2.2 + blen (p.2.1 : Int) ≤ B
  val : dyv p = t

theorem DyV.c {B : Nat} {p : Bool × Nat × Int} {t : Int} (h : DyV B p t) (hB : B ≤ 4000000) : DyC p := by
  have lo := h.lo
  have hi := h.hi
  have b := blen_nonneg (p.2.1 : Int)
  rcases h.odd with k | k
  · exact .inl k
  · exact .inr ⟨k, by omega, by omega⟩
theorem lim_blen (k : Nat) : (lim k).length ≤ (blen (k : Int)).toNat / 32 + 1 := by
  refine lim_length_le ?_
  have a := blen_lt (n := k)
  have b : 2 ^ (blen (k : Int)).toNat ≤ 4294967296 ^ ((blen (k : Int)).toNat / 32 + 1) := by
    rw [show (4294967296 : Nat) = 2 ^ 32 by rfl, ← Nat.pow_mul]
    exact Nat.pow_le_pow_right (by decide) (by omega)
  omega
theorem DyV.len {B : Nat} {p : Bool × Nat × Int} {t : Int} (h : DyV B p t) (hB : B ≤ 4000000) : (dyL p).2.1.length ≤ 250001 := by
  have lo := h.lo
  have hi := h.hi
  have b := lim_blen p.2.1
  show (lim p.2.1).length ≤ _
  omega
theorem DyV.mono {A B : Nat} {p : Bool × Nat × Int} {t : Int} (h : DyV A p t) (hB : A ≤ B) : DyV B p t :=
  ⟨h.odd, by have := h.lo; omega, by have := h.hi; omega, h.val⟩
theorem DyV.of {p : Bool × Nat × Int} {t : Int} (h : Dy p t) : DyV 1048704 p t := by
  refine ⟨h.odd, by have := h.lo; omega, ?_, h.val⟩
  have hi := h.hi
  have lt := h.lt
  have := blen_le (x := (p.2.1 : Int)) 64 (by have : (p.2.1 : Int) < 18446744073709551616 := by omega
                                              exact this)
  show p.2.2 + blen (p.2.1 : Int) ≤ 1048704
  omega
/-- a whole number times a power of two -/
def dyZ (z : Int) (e : Int) : Bool × Nat × Int := dyMake (decide (z < 0)) z.natAbs e
theorem dyZ_val {B : Nat} {z e : Int} (hB : B ≤ 4000000) (he : -(B : Int) ≤ e) (hz : (z.natAbs : Int) < 2 ^ (B - e).toNat) (heB : e ≤ B) : DyV B (dyZ z e) (z * pw e) := by
  by_cases h : z = 0
  · subst h
    have : dyZ 0 e = (false, 0, 0) := by unfold dyZ; exact dyMake_zero _ _
    rw [this]
    exact ⟨.inl rfl, by show -(B : Int) ≤ 0; omega, by show (0 : Int) + blen 0 ≤ B; rw [blen_zero]; omega, by simp [dyv]⟩
  · have bl := blen_le _ hz
    have v := v2_blen (k := z.natAbs) (by omega)
    have d := dyMake_val (ng := decide (z < 0)) (k := z.natAbs) (e := e) (by omega) (by omega) (by omega)
    obtain ⟨d1, d2, d3, d4, d5, d6⟩ := d
    refine ⟨.inr d1, by unfold dyZ; omega, by unfold dyZ; omega, ?_⟩
    unfold dyv dyZ
    rw [d2, d5]
    split
    · rename_i g
      have g : z < 0 := of_decide_eq_true g
      rw [← Int.neg_mul]; congr 1; omega
    · rename_i g
      have g : ¬ z < 0 := fun k => g (decide_eq_true k)
      congr 1; omega
/-- the sum of two -/
def dySum (p q : Bool × Nat × Int) : Bool × Nat × Int :=
  if p.2.1 = 0 then q else if q.2.1 = 0 then p else if q.2.2 < p.2.2 then dyZ (sv q.1 q.2.1 + sv p.1 (p.2.1 * 2 ^ (p.2.2 - q.2.2).toNat)) q.2.2
    else dyZ (sv p.1 p.2.1 + sv q.1 (q.2.1 * 2 ^ (q.2.2 - p.2.2).toNat)) p.2.2
theorem sv_abs (n : Bool) (k : Nat) : (sv n k).natAbs = k := by unfold sv; split <;> omega
theorem align_val {B : Nat} {p q : Bool × Nat × Int} {t u : Int} (hB : B ≤ 3999999) (hp : DyV B p t) (hq : DyV B q u) (he : p.2.2 ≤ q.2.2) :
    DyV (B + 1) (dyZ (sv p.1 p.2.1 + sv q.1 (q.2.1 * 2 ^ (q.2.2 - p.2.2).toNat)) p.2.2) (t + u) := by
  have plo := hp.lo
  have phi := hp.hi
  have qhi := hq.hi
  have pb := blen_nonneg (p.2.1 : Int)
  have qb := blen_nonneg (q.2.1 : Int)
  have e1 := pw_add (e := p.2.2) (f := q.2.2 - p.2.2) (by omega) (by omega)
  rw [show p.2.2 + (q.2.2 - p.2.2) = q.2.2 by omega] at e1
  have ev : (sv p.1 p.2.1 + sv q.1 (q.2.1 * 2 ^ (q.2.2 - p.2.2).toNat)) * pw p.2.2 = t + u := by
    rw [← hp.val, ← hq.val, dyv_sv, dyv_sv, Int.add_mul]
    congr 1
    rw [e1]
    unfold sv
    split
    · rw [Int.natCast_mul, Int.natCast_pow, Int.neg_mul, Int.neg_mul, Int.mul_assoc, Int.mul_comm (pw p.2.2)]; rfl
    · rw [Int.natCast_mul, Int.natCast_pow, Int.mul_assoc, Int.mul_comm (pw p.2.2)]; rfl
  rw [← ev]
  refine dyZ_val (by omega) (by omega) ?_ (by omega)
  have a := blen_lt (n := p.2.1)
  have b := blen_lt (n := q.2.1)
  obtain ⟨D, hD⟩ : ∃ D : Nat, (B : Int) - p.2.2 = D := ⟨((B : Int) - p.2.2).toNat, by omega⟩
  have a2 : 2 ^ (blen (p.2.1 : Int)).toNat ≤ 2 ^ D := Nat.pow_le_pow_right (by decide) (by omega)
  have b2 : 2 ^ (blen (q.2.1 : Int)).toNat * 2 ^ (q.2.2 - p.2.2).toNat ≤ 2 ^ D := by
    rw [← Nat.pow_add]; exact Nat.pow_le_pow_right (by decide) (by omega)
  have b3 : q.2.1 * 2 ^ (q.2.2 - p.2.2).toNat < 2 ^ D := Nat.lt_of_lt_of_le (Nat.mul_lt_mul_of_pos_right b (Nat.two_pow_pos _)) b2
  have s := Int.natAbs_add_le (sv p.1 p.2.1) (sv q.1 (q.2.1 * 2 ^ (q.2.2 - p.2.2).toNat))
  rw [sv_abs, sv_abs] at s
  have f : (sv p.1 p.2.1 + sv q.1 (q.2.1 * 2 ^ (q.2.2 - p.2.2).toNat)).natAbs < 2 ^ (D + 1) := by rw [Nat.pow_succ]; omega
  have g : (((B + 1 : Nat) : Int) - p.2.2).toNat = D + 1 := by omega
  rw [g]
  have := Int.ofNat_lt.2 f
  rw [Int.natCast_pow] at this
  exact this
theorem DyV.zero {B : Nat} {p : Bool × Nat × Int} {t : Int} (h : DyV B p t) (z : p.2.1 = 0) : t = 0 := by
  rcases h.odd with k | k
  · rw [← h.val, k]; simp [dyv]
  · rw [z] at k; cases k
theorem dySum_val {B : Nat} {p q : Bool × Nat × Int} {t u : Int} (hB : B ≤ 3999999) (hp : DyV B p t) (hq : DyV B q u) : DyV (B + 1) (dySum p q) (t + u) := by
  unfold dySum
  split
  · rename_i z
    rw [hp.zero z, Int.zero_add]
    exact hq.mono (by omega)
  · split
    · rename_i z
      rw [hq.zero z, Int.add_zero]
      exact hp.mono (by omega)
    · split
      · rw [Int.add_comm t u]
        exact align_val hB hq hp (by omega)
      · exact align_val hB hp hq (by omega)
/-- the opposite of one -/
def dyOpp (p : Bool × Nat × Int) : Bool × Nat × Int := (!p.1 && decide (p.2.1 ≠ 0), p.2.1, p.2.2)
theorem dyOpp_val {B : Nat} {p : Bool × Nat × Int} {t : Int} (hp : DyV B p t) : DyV B (dyOpp p) (-t) := by
  refine ⟨?_, hp.lo, hp.hi, ?_⟩
  · rcases hp.odd with k | k
    · left; rw [k]; rfl
    · exact .inr k
  · rw [← hp.val]
    by_cases z : p.2.1 = 0
    · simp [dyv, dyOpp, z]
    · unfold dyv dyOpp
      dsimp only
      rw [decide_eq_true z, Bool.and_true]
      cases p.1 <;> simp
theorem dyMake_self {p : Bool × Nat × Int} (h : DyC p) : dyMake p.1 p.2.1 p.2.2 = p := by
  rcases h with k | k
  · rw [k]; exact dyMake_zero _ _
  · exact dyMake_odd k.1 k.2.1 k.2.2
/-- the sign of one is that of its value -/
theorem dyv_sign {p : Bool × Nat × Int} {B : Nat} {t : Int} (hp : DyV B p t) : (if p.2.1 = 0 then 0 else if p.1 then -1 else 1 : Int) = if t < 0 then -1 else if 0 < t then 1 else 0 := by
  have pe := pw_pos p.2.2
  split
  · rename_i z; rw [hp.zero z]; rfl
  · rename_i z
    have m : 0 < (p.2.1 : Int) * pw p.2.2 := Int.mul_pos (by omega) pe
    have v := hp.val
    unfold dyv at v
    split
    · rename_i g
      rw [if_pos g] at v
      rw [if_pos (by omega)]
    · rename_i g
      rw [if_neg g] at v
      rw [if_neg (by omega), if_pos (by omega)]
/-- the product of two -/
theorem dyProd_val {A B : Nat} {p q : Bool × Nat × Int} {t u : Int} (hA : A + B ≤ 4000000) (hp : DyV A p t) (hq : DyV B q u) :
    ∃ v, DyV (A + B) (dyMake ((p.1 != q.1) && decide (p.2.1 * q.2.1 ≠ 0)) (p.2.1 * q.2.1) (p.2.2 + q.2.2)) v ∧ v * pw 0 = t * u := by
  have plo := hp.lo
  have phi := hp.hi
  have qlo := hq.lo
  have qhi := hq.hi
  have pb := blen_nonneg (p.2.1 : Int)
  have qb := blen_nonneg (q.2.1 : Int)
  refine ⟨sv p.1 p.2.1 * sv q.1 q.2.1 * pw (p.2.2 + q.2.2), ?_, ?_⟩
  · have e : dyMake ((p.1 != q.1) && decide (p.2.1 * q.2.1 ≠ 0)) (p.2.1 * q.2.1) (p.2.2 + q.2.2) = dyZ (sv p.1 p.2.1 * sv q.1 q.2.1) (p.2.2 + q.2.2) := by
      unfold dyZ
      rw [Int.natAbs_mul, sv_abs, sv_abs]
      congr 1
      by_cases z1 : p.2.1 = 0
      · simp [z1, sv]
      · by_cases z2 : q.2.1 = 0
        · simp [z2, sv]
        · have z3 : p.2.1 * q.2.1 ≠ 0 := Nat.mul_ne_zero z1 z2
          have z4 : (0 : Int) < (p.2.1 : Int) * q.2.1 := Int.mul_pos (by omega) (by omega)
          rw [decide_eq_true z3, Bool.and_true]
          unfold sv
          cases p.1 <;> cases q.1 <;> simp [Int.neg_mul, Int.mul_neg] <;> omega
    rw [e]
    refine dyZ_val hA (by omega) ?_ (by omega)
    rw [Int.natAbs_mul, sv_abs, sv_abs]
    have a := blen_lt (n := p.2.1)
    have b := blen_lt (n := q.2.1)
    have c : p.2.1 * q.2.1 < 2 ^ (((A + B : Nat) : Int) - (p.2.2 + q.2.2)).toNat := by
      refine Nat.lt_of_lt_of_le (Nat.mul_lt_mul'' a b) ?_
      rw [← Nat.pow_add]
      exact Nat.pow_le_pow_right (by decide) (by omega)
    have := Int.ofNat_lt.2 c
    rw [Int.natCast_pow] at this
    exact this
  · rw [← hp.val, ← hq.val, dyv_sv, dyv_sv]
    have m := pw_mul (e := p.2.2) (f := q.2.2) (by omega) (by omega) (by omega)
    have e1 : sv p.1 p.2.1 * pw p.2.2 * (sv q.1 q.2.1 * pw q.2.2) = sv p.1 p.2.1 * sv q.1 q.2.1 * (pw p.2.2 * pw q.2.2) := by
      simp only [Int.mul_assoc, Int.mul_comm, Int.mul_left_comm]
    rw [e1, m]
    simp only [Int.mul_assoc, Int.mul_comm, Int.mul_left_comm]
end Go.Proofs.YtpadpcjdakfokaaDoor.Ev

/- Contracts of dy.Neg, Sign, add, Add, Sub, Cmp, Mul: by the values of dyadic numbers. Printed by gen.py. -/
namespace Go.Proofs.YtpadpcjdakfokaaDoor.Ev
open Go Go.Proofs
set_option linter.unusedVariables false
set_option linter.unusedSimpArgs false

attribute [local irreducible] Lb
abbrev DyT := Bool × List Int × Int
theorem c_dyNeg (B : Nat) (hB : B ≤ 4000000) (p : Bool × Nat × Int) (v : Int) (hp : DyV B p v) (x : DyT) (hx : x = dyL p) :
    ∃ t : DyT, t = dyL (dyOpp p) ∧ CallsA Tryd.prog 54 [.agg [.bool (.s x.1), .sli .u32 x.2.1, .int .i64 (.s x.2.2)]] (.agg [.bool (.s t.1), .sli .u32 t.2.1, .int .i64 (.s t.2.2)]) := by
  refine ⟨_, rfl, ?_⟩
  generalize hr : dyL (dyOpp p) = r
  have xl := hp.len hB
  rw [← hx] at xl
  have xl1 : x.2.1.length ≤ 268435456 := by omega
  have x1 : x.1 = p.1 := by rw [hx]; rfl
  have x2 : x.2.1 = lim p.2.1 := by rw [hx]; rfl
  have x3 : x.2.2 = p.2.2 := by rw [hx]; rfl
  have xb : Lb x.2.1 := by rw [x2]; exact lim_lb _
  have C := hp.c hB
  have e0 : -4194304 ≤ p.2.2 ∧ p.2.2 ≤ 4194304 := by rcases C with k | k; rw [k]; exact ⟨by decide, by decide⟩; exact k.2
  have fin : ∀ u : Bool × List Int, u = (!x.1 && decide (lv x.2.1 ≠ 0), lim (lv x.2.1)) → Lb u.2 ∧ u.2.length < 67108864 ∧ dyL (dyMake u.1 (lv u.2) x.2.2) = r := by
    intro u hu
    rw [x1, x2, lv_lim] at hu
    have e : u.2 = lim p.2.1 := by rw [hu]
    rw [e]
    refine ⟨lim_lb _, by rw [← x2]; omega, ?_⟩
    rw [lv_lim, hu, x3, ← hr]
    exact congrArg dyL (dyMake_self ((dyOpp_val hp).c hB))
  refine callsA_of hG hm Tryd.func54 (by kernel_rfl) ?_
  intro E hE lp hl
  cbv
  (first | (apply E_pcallX hE (c_wNeg x.1 x.2.1 xb xl1); (case hm => rfl); (case hle => (repeat' (first | exact u_nil | apply u_cons | apply u2_agg | exact u2_int | exact u1_int | exact u2_bool | exact u1_bool | exact u2_sli | exact u1_sli | exact u2_s0 | exact u1_s0))); all_goals (first | (intro u hu; cbv) | (assumption))) | (apply E_callX hE (c_wNeg x.1 x.2.1 xb xl1); (case hf => rfl); (case hc => (cbv <;> trivial)); (case hle => (repeat' (first | exact u_nil | apply u_cons | apply u2_agg | exact u2_int | exact u1_int | exact u2_bool | exact u1_bool | exact u2_sli | exact u1_sli | exact u2_s0 | exact u1_s0))); all_goals (first | (intro u hu; cbv) | (assumption))))
  have F := fin u hu
  (first | (apply E_pcallX hE (c_dyMake u.1 u.2 x.2.2 F.1 F.2.1 ?_ ?_); (case hm => rfl); (case hle => (repeat' (first | exact u_nil | apply u_cons | apply u2_agg | exact u2_int | exact u1_int | exact u2_bool | exact u1_bool | exact u2_sli | exact u1_sli | exact u2_s0 | exact u1_s0))); all_goals (first | (intro t ht; cbv) | ((rw [x3]; omega)))) | (apply E_callX hE (c_dyMake u.1 u.2 x.2.2 F.1 F.2.1 ?_ ?_); (case hf => rfl); (case hc => (cbv <;> trivial)); (case hle => (repeat' (first | exact u_nil | apply u_cons | apply u2_agg | exact u2_int | exact u1_int | exact u2_bool | exact u1_bool | exact u2_sli | exact u1_sli | exact u2_s0 | exact u1_s0))); all_goals (first | (intro t ht; cbv) | ((rw [x3]; omega)))))
  rw [← F.2.2, ← ht]; exact ⟨rfl, rfl, rfl, trivial⟩
theorem c_dySign (B : Nat) (hB : B ≤ 4000000) (p : Bool × Nat × Int) (v : Int) (hp : DyV B p v) (x : DyT) (hx : x = dyL p) :
    ∃ t : Int, t = (if v < 0 then -1 else if 0 < v then 1 else 0) ∧ CallsA Tryd.prog 44 [.agg [.bool (.s x.1), .sli .u32 x.2.1, .int .i64 (.s x.2.2)]] (.int .i64 (.s t)) := by
  refine ⟨_, rfl, ?_⟩
  generalize hr : (if v < 0 then -1 else if 0 < v then 1 else 0 : Int) = r
  rw [← dyv_sign hp] at hr
  have xl := hp.len hB
  rw [← hx] at xl
  have xl2 : x.2.1.length < 4611686018427387904 := by omega
  have C := hp.c hB
  have x1 : x.1 = p.1 := by rw [hx]; rfl
  have x2 : x.2.1 = lim p.2.1 := by rw [hx]; rfl
  refine callsA_of hG hm Tryd.func44 (by kernel_rfl) ?_
  intro E hE lp hl
  cbv
  (first | (apply E_pcallX hE (c_dyFair p C x hx xl2); (case hm => rfl); (case hle => (repeat' (first | exact u_nil | apply u_cons | apply u2_agg | exact u2_int | exact u1_int | exact u2_bool | exact u1_bool | exact u2_sli | exact u1_sli | exact u2_s0 | exact u1_s0))); all_goals (first | (intro y hy; cbv) | (assumption))) | (apply E_callX hE (c_dyFair p C x hx xl2); (case hf => rfl); (case hc => (cbv <;> trivial)); (case hle => (repeat' (first | exact u_nil | apply u_cons | apply u2_agg | exact u2_int | exact u1_int | exact u2_bool | exact u1_bool | exact u2_sli | exact u1_sli | exact u2_s0 | exact u1_s0))); all_goals (first | (intro y hy; cbv) | (assumption))))
  have yb : Lb y.2.1 ∧ y.2.1.length < 67108864 := by rw [hy]; exact ⟨by rw [x2]; exact lim_lb _, Nat.lt_of_le_of_lt xl (by decide)⟩
  (first | (apply E_pcallX hE (c_wSign y.1 y.2.1 yb.1 yb.2); (case hm => rfl); (case hle => (repeat' (first | exact u_nil | apply u_cons | apply u2_agg | exact u2_int | exact u1_int | exact u2_bool | exact u1_bool | exact u2_sli | exact u1_sli | exact u2_s0 | exact u1_s0))); all_goals (first | (intro s hs; cbv) | (assumption))) | (apply E_callX hE (c_wSign y.1 y.2.1 yb.1 yb.2); (case hf => rfl); (case hc => (cbv <;> trivial)); (case hle => (repeat' (first | exact u_nil | apply u_cons | apply u2_agg | exact u2_int | exact u1_int | exact u2_bool | exact u1_bool | exact u2_sli | exact u1_sli | exact u2_s0 | exact u1_s0))); all_goals (first | (intro s hs; cbv) | (assumption))))
  (try (refine E_nm hE (fun s1 hs1 => ?_); cbv))
  have k : s = r := by
    have k : s = (if lv y.2.1 = 0 then 0 else if y.1 then -1 else 1) := hs
    rw [k, hy, x1, x2, lv_lim, hr]
  first | exact k | exact hs1.trans k
set_option maxHeartbeats 2000000 in
theorem c_dyadd (B : Nat) (hB : B ≤ 3999999) (p q : Bool × Nat × Int) (v w : Int) (hp : DyV B p v) (hq : DyV B q w) (x y : DyT) (hx : x = dyL p) (hy : y = dyL q) :
    ∃ t : DyT, t = dyL (dySum p q) ∧ CallsA Tryd.prog 48 [.agg [.bool (.s x.1), .sli .u32 x.2.1, .int .i64 (.s x.2.2)], .agg [.bool (.s y.1), .sli .u32 y.2.1, .int .i64 (.s y.2.2)]] (.agg [.bool (.s t.1), .sli .u32 t.2.1, .int .i64 (.s t.2.2)]) := by
  refine ⟨_, rfl, ?_⟩
  generalize hr : dyL (dySum p q) = r
  have xl := hp.len (by omega)
  rw [← hx] at xl
  have yl := hq.len (by omega)
  rw [← hy] at yl
  have x1 : x.1 = p.1 := by rw [hx]; rfl
  have x2 : x.2.1 = lim p.2.1 := by rw [hx]; rfl
  have x3 : x.2.2 = p.2.2 := by rw [hx]; rfl
  have y1 : y.1 = q.1 := by rw [hy]; rfl
  have y2 : y.2.1 = lim q.2.1 := by rw [hy]; rfl
  have y3 : y.2.2 = q.2.2 := by rw [hy]; rfl
  have xb : Lb x.2.1 := by rw [x2]; exact lim_lb _
  have yb : Lb y.2.1 := by rw [y2]; exact lim_lb _
  have plo := hp.lo
  have phi := hp.hi
  have qlo := hq.lo
  have qhi := hq.hi
  have pbl := blen_nonneg (p.2.1 : Int)
  have qbl := blen_nonneg (q.2.1 : Int)
  have z1 : (x.2.1.length : Int) = 0 ↔ p.2.1 = 0 := by
    rw [x2]
    exact ⟨fun h => lim_eq_nil.1 (List.length_eq_zero_iff.1 (by omega)), fun h => by rw [h]; rfl⟩
  have z2 : (y.2.1.length : Int) = 0 ↔ q.2.1 = 0 := by
    rw [y2]
    exact ⟨fun h => lim_eq_nil.1 (List.length_eq_zero_iff.1 (by omega)), fun h => by rw [h]; rfl⟩
  have r1 : p.2.1 = 0 → y = r := by intro h; rw [← hr]; unfold dySum; rw [if_pos h, hy]
  have r2 : p.2.1 ≠ 0 → q.2.1 = 0 → x = r := by intro h g; rw [← hr]; unfold dySum; rw [if_neg h, if_pos g, hx]
  have step : ∀ (a b : Bool × Nat × Int) (α β : DyT), α = dyL a → β = dyL b → α.2.1.length ≤ 250001 → β.2.1.length ≤ 250001 → a.2.2 ≤ b.2.2 → b.2.2 - a.2.2 ≤ 8000000 →
      dyL (dyZ (sv a.1 a.2.1 + sv b.1 (b.2.1 * 2 ^ (b.2.2 - a.2.2).toNat)) a.2.2) = r → ∀ u, u = (if b.2.2 - a.2.2 < 1 then lim (lv β.2.1) else if 16777216 < b.2.2 - a.2.2 then [] else lim (lv β.2.1 * 2 ^ (b.2.2 - a.2.2).toNat)) →
      Lb u ∧ u.length < 134217728 ∧ ∀ z : Bool × List Int, z = whN (wv α.1 α.2.1 + wv β.1 u) → Lb z.2 ∧ z.2.length < 67108864 ∧ dyL (dyMake z.1 (lv z.2) a.2.2) = r := by
    intro a b α β hα hβ lα lβ hle hd hr u hu
    have b2 : β.2.1 = lim b.2.1 := by rw [hβ]; rfl
    have hu : u = lim (b.2.1 * 2 ^ (b.2.2 - a.2.2).toNat) := by
      rw [hu, b2, lv_lim]
      split
      · rw [show (b.2.2 - a.2.2).toNat = 0 by omega, Nat.pow_zero, Nat.mul_one]
      · rw [if_neg (by omega)]
    have ul := shl_len (k := b.2.1) (L := 250001) (n := (b.2.2 - a.2.2).toNat) (by rw [← b2]; exact lβ)
    refine ⟨by rw [hu]; exact lim_lb _, by rw [hu]; omega, fun z hz => ?_⟩
    have e : wv α.1 α.2.1 + wv β.1 u = sv a.1 a.2.1 + sv b.1 (b.2.1 * 2 ^ (b.2.2 - a.2.2).toNat) := by
      rw [hu, hα, hβ]
      unfold wv sv dyL
      dsimp only
      rw [lv_lim, lv_lim]
    have zl : (whN (wv α.1 α.2.1 + wv β.1 u)).2.length ≤ 600000 := by
      rw [e]
      refine whN_len ?_
      have a2 : α.2.1 = lim a.2.1 := by rw [hα]; rfl
      have s := Int.natAbs_add_le (sv a.1 a.2.1) (sv b.1 (b.2.1 * 2 ^ (b.2.2 - a.2.2).toNat))
      rw [sv_abs, sv_abs] at s
      have k1 := lv_lt (lim_lb a.2.1)
      have k2 := lv_lt (lim_lb (b.2.1 * 2 ^ (b.2.2 - a.2.2).toNat))
      rw [lv_lim] at k1 k2
      rw [← a2] at k1
      obtain ⟨M, hM⟩ : ∃ M : Nat, M = 599999 := ⟨_, rfl⟩
      have m1 : (4294967296 : Nat) ^ α.2.1.length ≤ 4294967296 ^ M := Nat.pow_le_pow_right (by decide) (by omega)
      have m2 : (4294967296 : Nat) ^ (lim (b.2.1 * 2 ^ (b.2.2 - a.2.2).toNat)).length ≤ 4294967296 ^ M := Nat.pow_le_pow_right (by decide) (by omega)
      rw [show (600000 : Nat) = M + 1 by omega, Nat.pow_succ]
      have : 0 < 4294967296 ^ M := Nat.pow_pos (by decide)
      omega
    refine ⟨by rw [hz]; exact whN_lb _, by rw [hz]; omega, ?_⟩
    rw [hz, e, ← hr]
    unfold dyZ whN
    dsimp only
    rw [lv_lim]
  have sw : p.2.1 ≠ 0 → q.2.1 ≠ 0 → q.2.2 < p.2.2 → dyL (dyZ (sv q.1 q.2.1 + sv p.1 (p.2.1 * 2 ^ (p.2.2 - q.2.2).toNat)) q.2.2) = r := by
    intro h g k; rw [← hr]; unfold dySum; rw [if_neg h, if_neg g, if_pos k]
  have ns : p.2.1 ≠ 0 → q.2.1 ≠ 0 → ¬ q.2.2 < p.2.2 → dyL (dyZ (sv p.1 p.2.1 + sv q.1 (q.2.1 * 2 ^ (q.2.2 - p.2.2).toNat)) p.2.2) = r := by
    intro h g k; rw [← hr]; unfold dySum; rw [if_neg h, if_neg g, if_neg k]
  have S1 := fun h g (k : q.2.2 < p.2.2) => step q p y x hy hx yl xl (by omega) (by omega) (sw h g k)
  have S2 := fun h g (k : ¬ q.2.2 < p.2.2) => step p q x y hx hy xl yl (by omega) (by omega) (ns h g k)
  have xl2 : x.2.1.length < 67108864 := by omega
  have yl2 : y.2.1.length < 67108864 := by omega
  have xl3 : x.2.1.length < 134217728 := by omega
  have yl3 : y.2.1.length < 134217728 := by omega
  have pr : -4194304 ≤ p.2.2 ∧ p.2.2 ≤ 4194304 := by omega
  have qr : -4194304 ≤ q.2.2 ∧ q.2.2 ≤ 4194304 := by omega
  clear step sw ns hr
  refine callsA_of hG hm Tryd.func48 (by kernel_rfl) ?_
  intro E hE lp hl
  cbv
  refine E_br hE (fun g => ?_) (fun g => ?_) <;> cbv
  · rw [← r1 (z1.1 (by subst hE; exact eql_t g))]; exact ⟨rfl, rfl, rfl, trivial⟩
  have n1 : p.2.1 ≠ 0 := fun h => by subst hE; exact eql_f g (z1.2 h)
  refine E_br hE (fun g2 => ?_) (fun g2 => ?_) <;> cbv
  · rw [← r2 n1 (z2.1 (by subst hE; exact eql_t g2))]; exact ⟨rfl, rfl, rfl, trivial⟩
  have n2 : q.2.1 ≠ 0 := fun h => by subst hE; exact eql_f g2 (z2.2 h)
  refine E_br hE (fun g3 => ?_) (fun g3 => ?_) <;> cbv
  · have k : q.2.2 < p.2.2 := by rw [← x3, ← y3]; subst hE; exact gtr_t g3
    have es : E.bin .sub .i64 x.2.2 y.2.2 = p.2.2 - q.2.2 := by rw [x3, y3]; subst hE; show IntKind.i64.wrap (p.2.2 - q.2.2) = _; exact wi64_in (by omega) (by omega)
    (first | (apply E_pcallX hE (c_natShl x.2.1 (E.bin .sub .i64 x.2.2 y.2.2) xb xl2); (case hm => rfl); (case hle => (repeat' (first | exact u_nil | apply u_cons | apply u2_agg | exact u2_int | exact u1_int | exact u2_bool | exact u1_bool | exact u2_sli | exact u1_sli | exact u2_s0 | exact u1_s0))); all_goals (first | (intro u hu; cbv) | (assumption))) | (apply E_callX hE (c_natShl x.2.1 (E.bin .sub .i64 x.2.2 y.2.2) xb xl2); (case hf => rfl); (case hc => (cbv <;> trivial)); (case hle => (repeat' (first | exact u_nil | apply u_cons | apply u2_agg | exact u2_int | exact u1_int | exact u2_bool | exact u1_bool | exact u2_sli | exact u1_sli | exact u2_s0 | exact u1_s0))); all_goals (first | (intro u hu; cbv) | (assumption))))
    rw [es] at hu
    have U := S1 n1 n2 k u hu
    (first | (apply E_pcallX hE (c_wAdd y.1 y.2.1 x.1 u yb U.1 yl3 U.2.1); (case hm => rfl); (case hle => (repeat' (first | exact u_nil | apply u_cons | apply u2_agg | exact u2_int | exact u1_int | exact u2_bool | exact u1_bool | exact u2_sli | exact u1_sli | exact u2_s0 | exact u1_s0))); all_goals (first | (intro z hz; cbv) | (assumption))) | (apply E_callX hE (c_wAdd y.1 y.2.1 x.1 u yb U.1 yl3 U.2.1); (case hf => rfl); (case hc => (cbv <;> trivial)); (case hle => (repeat' (first | exact u_nil | apply u_cons | apply u2_agg | exact u2_int | exact u1_int | exact u2_bool | exact u1_bool | exact u2_sli | exact u1_sli | exact u2_s0 | exact u1_s0))); all_goals (first | (intro z hz; cbv) | (assumption))))
    have Z := U.2.2 z hz
    (first | (apply E_pcallX hE (c_dyMake z.1 z.2 y.2.2 Z.1 Z.2.1 ?_ ?_); (case hm => rfl); (case hle => (repeat' (first | exact u_nil | apply u_cons | apply u2_agg | exact u2_int | exact u1_int | exact u2_bool | exact u1_bool | exact u2_sli | exact u1_sli | exact u2_s0 | exact u1_s0))); all_goals (first | (intro t ht; cbv) | ((rw [y3]; omega)))) | (apply E_callX hE (c_dyMake z.1 z.2 y.2.2 Z.1 Z.2.1 ?_ ?_); (case hf => rfl); (case hc => (cbv <;> trivial)); (case hle => (repeat' (first | exact u_nil | apply u_cons | apply u2_agg | exact u2_int | exact u1_int | exact u2_bool | exact u1_bool | exact u2_sli | exact u1_sli | exact u2_s0 | exact u1_s0))); all_goals (first | (intro t ht; cbv) | ((rw [y3]; omega)))))
    rw [y3] at ht
    rw [← Z.2.2, ← ht]; exact ⟨rfl, rfl, rfl, trivial⟩
  · have k : ¬ q.2.2 < p.2.2 := by rw [← x3, ← y3]; subst hE; exact gtr_f g3
    have es : E.bin .sub .i64 y.2.2 x.2.2 = q.2.2 - p.2.2 := by rw [x3, y3]; subst hE; show IntKind.i64.wrap (q.2.2 - p.2.2) = _; exact wi64_in (by omega) (by omega)
    (first | (apply E_pcallX hE (c_natShl y.2.1 (E.bin .sub .i64 y.2.2 x.2.2) yb yl2); (case hm => rfl); (case hle => (repeat' (first | exact u_nil | apply u_cons | apply u2_agg | exact u2_int | exact u1_int | exact u2_bool | exact u1_bool | exact u2_sli | exact u1_sli | exact u2_s0 | exact u1_s0))); all_goals (first | (intro u hu; cbv) | (assumption))) | (apply E_callX hE (c_natShl y.2.1 (E.bin .sub .i64 y.2.2 x.2.2) yb yl2); (case hf => rfl); (case hc => (cbv <;> trivial)); (case hle => (repeat' (first | exact u_nil | apply u_cons | apply u2_agg | exact u2_int | exact u1_int | exact u2_bool | exact u1_bool | exact u2_sli | exact u1_sli | exact u2_s0 | exact u1_s0))); all_goals (first | (intro u hu; cbv) | (assumption))))
    rw [es] at hu
    have U := S2 n1 n2 k u hu
    (first | (apply E_pcallX hE (c_wAdd x.1 x.2.1 y.1 u xb U.1 xl3 U.2.1); (case hm => rfl); (case hle => (repeat' (first | exact u_nil | apply u_cons | apply u2_agg | exact u2_int | exact u1_int | exact u2_bool | exact u1_bool | exact u2_sli | exact u1_sli | exact u2_s0 | exact u1_s0))); all_goals (first | (intro z hz; cbv) | (assumption))) | (apply E_callX hE (c_wAdd x.1 x.2.1 y.1 u xb U.1 xl3 U.2.1); (case hf => rfl); (case hc => (cbv <;> trivial)); (case hle => (repeat' (first | exact u_nil | apply u_cons | apply u2_agg | exact u2_int | exact u1_int | exact u2_bool | exact u1_bool | exact u2_sli | exact u1_sli | exact u2_s0 | exact u1_s0))); all_goals (first | (intro z hz; cbv) | (assumption))))
    have Z := U.2.2 z hz
    (first | (apply E_pcallX hE (c_dyMake z.1 z.2 x.2.2 Z.1 Z.2.1 ?_ ?_); (case hm => rfl); (case hle => (repeat' (first | exact u_nil | apply u_cons | apply u2_agg | exact u2_int | exact u1_int | exact u2_bool | exact u1_bool | exact u2_sli | exact u1_sli | exact u2_s0 | exact u1_s0))); all_goals (first | (intro t ht; cbv) | ((rw [x3]; omega)))) | (apply E_callX hE (c_dyMake z.1 z.2 x.2.2 Z.1 Z.2.1 ?_ ?_); (case hf => rfl); (case hc => (cbv <;> trivial)); (case hle => (repeat' (first | exact u_nil | apply u_cons | apply u2_agg | exact u2_int | exact u1_int | exact u2_bool | exact u1_bool | exact u2_sli | exact u1_sli | exact u2_s0 | exact u1_s0))); all_goals (first | (intro t ht; cbv) | ((rw [x3]; omega)))))
    rw [x3] at ht
    rw [← Z.2.2, ← ht]; exact ⟨rfl, rfl, rfl, trivial⟩

end Go.Proofs.YtpadpcjdakfokaaDoor.Ev

/- Contracts of dy.Add of two, Sub, Cmp, Mul: by the values of dyadic numbers. Printed by gen.py. -/
namespace Go.Proofs.YtpadpcjdakfokaaDoor.Ev
open Go Go.Proofs
set_option linter.unusedVariables false
set_option linter.unusedSimpArgs false

attribute [local irreducible] Lb
theorem c_dyOwn (x : DyT) (xb : Lb x.2.1) (xl : x.2.1.length < 67108864) (x0 : -9223372036854775808 ≤ x.2.2) (x1 : x.2.2 < 9223372036854775808) :
    ∃ t : DyT, t = dyL (dyMake x.1 (lv x.2.1) x.2.2) ∧ CallsA Tryd.prog 50 [.agg [.bool (.s x.1), .sli .u32 x.2.1, .int .i64 (.s x.2.2)]] (.agg [.bool (.s t.1), .sli .u32 t.2.1, .int .i64 (.s t.2.2)]) := by
  refine ⟨_, rfl, ?_⟩
  generalize hr : dyL (dyMake x.1 (lv x.2.1) x.2.2) = r
  refine callsA_of hG hm Tryd.func50 (by kernel_rfl) ?_
  intro E hE lp hl'
  cbv
  (first | (apply E_pcallX hE (c_dyMake x.1 x.2.1 x.2.2 xb xl x0 x1); (case hm => rfl); (case hle => (repeat' (first | exact u_nil | apply u_cons | apply u2_agg | exact u2_int | exact u1_int | exact u2_bool | exact u1_bool | exact u2_sli | exact u1_sli | exact u2_s0 | exact u1_s0))); all_goals (first | (intro t ht; cbv) | (assumption))) | (apply E_callX hE (c_dyMake x.1 x.2.1 x.2.2 xb xl x0 x1); (case hf => rfl); (case hc => (cbv <;> trivial)); (case hle => (repeat' (first | exact u_nil | apply u_cons | apply u2_agg | exact u2_int | exact u1_int | exact u2_bool | exact u1_bool | exact u2_sli | exact u1_sli | exact u2_s0 | exact u1_s0))); all_goals (first | (intro t ht; cbv) | (assumption))))
  rw [← hr, ← ht]; exact ⟨rfl, rfl, rfl, trivial⟩
theorem dyv0 (B : Nat) : DyV B (false, 0, 0) 0 := ⟨.inl rfl, by show -(B : Int) ≤ 0; omega, by show (0 : Int) + blen 0 ≤ B; rw [blen_zero]; omega, by simp [dyv]⟩
set_option maxHeartbeats 2000000 in
theorem c_dyAdd2 (B : Nat) (hB : B ≤ 3999998) (p q : Bool × Nat × Int) (v w : Int) (hp : DyV B p v) (hq : DyV B q w) (x y : DyT) (hx : x = dyL p) (hy : y = dyL q) :
    ∃ t : DyT, t = dyL (dySum p q) ∧ CallsA Tryd.prog 18 [.slc 3 (.l 2) (fun i => getRow [[.bool (.s x.1), .sli .u32 x.2.1, .int .i64 (.s x.2.2)], [.bool (.s y.1), .sli .u32 y.2.1, .int .i64 (.s y.2.2)]] (Int.ofNat i))] (.agg [.bool (.s t.1), .sli .u32 t.2.1, .int .i64 (.s t.2.2)]) := by
  refine ⟨_, rfl, ?_⟩
  generalize hr : dyL (dySum p q) = r
  have hB1 : B ≤ 3999999 := by omega
  have hB2 : B ≤ 4000000 := by omega
  have xl := hp.len hB2
  rw [← hx] at xl
  have yl := hq.len hB2
  rw [← hy] at yl
  have xl2 : x.2.1.length < 4611686018427387904 := by omega
  have yl2 : y.2.1.length < 4611686018427387904 := by omega
  have Cp := hp.c hB2
  have Cq := hq.c hB2
  have S := dySum_val hB1 hp hq
  have rl := S.len (by omega)
  have Cr := S.c (by omega)
  rw [hr] at rl
  have e1 : dyL (dySum (false, 0, 0) p) = x := by rw [hx]; rfl
  have own : r.2.1.length < 67108864 ∧ Lb r.2.1 ∧ -9223372036854775808 ≤ r.2.2 ∧ r.2.2 < 9223372036854775808 ∧ dyL (dyMake r.1 (lv r.2.1) r.2.2) = r := by
    have e : r.2.2 = (dySum p q).2.2 := by rw [← hr]; rfl
    have b : -4194304 ≤ (dySum p q).2.2 ∧ (dySum p q).2.2 ≤ 4194304 := by rcases Cr with k | k; rw [k]; exact ⟨by decide, by decide⟩; exact k.2
    refine ⟨by omega, by rw [← hr]; exact lim_lb _, by omega, by omega, ?_⟩
    rw [← hr]
    show dyL (dyMake (dySum p q).1 (lv (lim (dySum p q).2.1)) (dySum p q).2.2) = _
    rw [lv_lim, dyMake_self Cr]
  have z0 := dyv0 B
  refine callsA_of hG hm Tryd.func18 (by kernel_rfl) ?_
  intro E hE lp hl'
  cbv
  refine E_rounds hE hG hm hl' 3 ?_
  cbv
  (first | (apply E_pcallX hE (c_dyFair p Cp x hx xl2); (case hm => rfl); (case hle => (repeat' (first | exact u_nil | apply u_cons | apply u2_agg | exact u2_int | exact u1_int | exact u2_bool | exact u1_bool | exact u2_sli | exact u1_sli | exact u2_s0 | exact u1_s0))); all_goals (first | (intro a ha; cbv) | (assumption))) | (apply E_callX hE (c_dyFair p Cp x hx xl2); (case hf => rfl); (case hc => (cbv <;> trivial)); (case hle => (repeat' (first | exact u_nil | apply u_cons | apply u2_agg | exact u2_int | exact u1_int | exact u2_bool | exact u1_bool | exact u2_sli | exact u1_sli | exact u2_s0 | exact u1_s0))); all_goals (first | (intro a ha; cbv) | (assumption))))
  have ha : a = dyL p := ha.trans hx
  (first | (apply E_pcallX hE (c_dyadd B hB1 (false, 0, 0) p 0 v z0 hp (false, [], 0) a rfl ha); (case hm => rfl); (case hle => (repeat' (first | exact u_nil | apply u_cons | apply u2_agg | exact u2_int | exact u1_int | exact u2_bool | exact u1_bool | exact u2_sli | exact u1_sli | exact u2_s0 | exact u1_s0))); all_goals (first | (intro s hs; cbv) | (assumption))) | (apply E_callX hE (c_dyadd B hB1 (false, 0, 0) p 0 v z0 hp (false, [], 0) a rfl ha); (case hf => rfl); (case hc => (cbv <;> trivial)); (case hle => (repeat' (first | exact u_nil | apply u_cons | apply u2_agg | exact u2_int | exact u1_int | exact u2_bool | exact u1_bool | exact u2_sli | exact u1_sli | exact u2_s0 | exact u1_s0))); all_goals (first | (intro s hs; cbv) | (assumption))))
  have hs : s = dyL p := by rw [hs, e1, hx]
  (first | (apply E_pcallX hE (c_dyFair q Cq y hy yl2); (case hm => rfl); (case hle => (repeat' (first | exact u_nil | apply u_cons | apply u2_agg | exact u2_int | exact u1_int | exact u2_bool | exact u1_bool | exact u2_sli | exact u1_sli | exact u2_s0 | exact u1_s0))); all_goals (first | (intro b hb; cbv) | (assumption))) | (apply E_callX hE (c_dyFair q Cq y hy yl2); (case hf => rfl); (case hc => (cbv <;> trivial)); (case hle => (repeat' (first | exact u_nil | apply u_cons | apply u2_agg | exact u2_int | exact u1_int | exact u2_bool | exact u1_bool | exact u2_sli | exact u1_sli | exact u2_s0 | exact u1_s0))); all_goals (first | (intro b hb; cbv) | (assumption))))
  have hb : b = dyL q := hb.trans hy
  (first | (apply E_pcallX hE (c_dyadd B hB1 p q v w hp hq s b hs hb); (case hm => rfl); (case hle => (repeat' (first | exact u_nil | apply u_cons | apply u2_agg | exact u2_int | exact u1_int | exact u2_bool | exact u1_bool | exact u2_sli | exact u1_sli | exact u2_s0 | exact u1_s0))); all_goals (first | (intro u hu; cbv) | (assumption))) | (apply E_callX hE (c_dyadd B hB1 p q v w hp hq s b hs hb); (case hf => rfl); (case hc => (cbv <;> trivial)); (case hle => (repeat' (first | exact u_nil | apply u_cons | apply u2_agg | exact u2_int | exact u1_int | exact u2_bool | exact u1_bool | exact u2_sli | exact u1_sli | exact u2_s0 | exact u1_s0))); all_goals (first | (intro u hu; cbv) | (assumption))))
  have hu : u = r := by rw [hu, hr]
  (first | (apply E_pcallX hE (c_dyOwn u (by rw [hu]; exact own.2.1) (by rw [hu]; exact own.1) (by rw [hu]; exact own.2.2.1) (by rw [hu]; exact own.2.2.2.1)); (case hm => rfl); (case hle => (repeat' (first | exact u_nil | apply u_cons | apply u2_agg | exact u2_int | exact u1_int | exact u2_bool | exact u1_bool | exact u2_sli | exact u1_sli | exact u2_s0 | exact u1_s0))); all_goals (first | (intro t ht; cbv) | (assumption))) | (apply E_callX hE (c_dyOwn u (by rw [hu]; exact own.2.1) (by rw [hu]; exact own.1) (by rw [hu]; exact own.2.2.1) (by rw [hu]; exact own.2.2.2.1)); (case hf => rfl); (case hc => (cbv <;> trivial)); (case hle => (repeat' (first | exact u_nil | apply u_cons | apply u2_agg | exact u2_int | exact u1_int | exact u2_bool | exact u1_bool | exact u2_sli | exact u1_sli | exact u2_s0 | exact u1_s0))); all_goals (first | (intro t ht; cbv) | (assumption))))
  have k : t = r := by
    have k : t = dyL (dyMake u.1 (lv u.2.1) u.2.2) := ht
    rw [k, hu]; exact own.2.2.2.2
  rw [← k]; exact ⟨rfl, rfl, rfl, trivial⟩
set_option maxHeartbeats 1000000 in
theorem c_dySub (B : Nat) (hB : B ≤ 3999998) (p q : Bool × Nat × Int) (v w : Int) (hp : DyV B p v) (hq : DyV B q w) (x y : DyT) (hx : x = dyL p) (hy : y = dyL q) :
    ∃ t : DyT, t = dyL (dySum p (dyOpp q)) ∧ CallsA Tryd.prog 20 [.agg [.bool (.s x.1), .sli .u32 x.2.1, .int .i64 (.s x.2.2)], .agg [.bool (.s y.1), .sli .u32 y.2.1, .int .i64 (.s y.2.2)]] (.agg [.bool (.s t.1), .sli .u32 t.2.1, .int .i64 (.s t.2.2)]) := by
  refine ⟨_, rfl, ?_⟩
  generalize hr : dyL (dySum p (dyOpp q)) = r
  have hB2 : B ≤ 4000000 := by omega
  refine callsA_of hG hm Tryd.func20 (by kernel_rfl) ?_
  intro E hE lp hl'
  cbv
  (first | (apply E_pcallX hE (c_dyNeg B hB2 q w hq y hy); (case hm => rfl); (case hle => (repeat' (first | exact u_nil | apply u_cons | apply u2_agg | exact u2_int | exact u1_int | exact u2_bool | exact u1_bool | exact u2_sli | exact u1_sli | exact u2_s0 | exact u1_s0))); all_goals (first | (intro a ha; cbv) | (assumption))) | (apply E_callX hE (c_dyNeg B hB2 q w hq y hy); (case hf => rfl); (case hc => (cbv <;> trivial)); (case hle => (repeat' (first | exact u_nil | apply u_cons | apply u2_agg | exact u2_int | exact u1_int | exact u2_bool | exact u1_bool | exact u2_sli | exact u1_sli | exact u2_s0 | exact u1_s0))); all_goals (first | (intro a ha; cbv) | (assumption))))
  apply E_pcallX hE (c_dyAdd2 B hB p (dyOpp q) v (-w) hp (dyOpp_val hq) x a hx ha)
  case hm => rfl
  case hle => exact ⟨u2_slc', trivial⟩
  intro t ht
  cbv
  rw [← hr, ← ht]; exact ⟨rfl, rfl, rfl, trivial⟩
theorem c_dyCmp (B : Nat) (hB : B ≤ 3999998) (p q : Bool × Nat × Int) (v w : Int) (hp : DyV B p v) (hq : DyV B q w) (x y : DyT) (hx : x = dyL p) (hy : y = dyL q) :
    ∃ t : Int, t = (if v < w then -1 else if w < v then 1 else 0) ∧ CallsA Tryd.prog 14 [.agg [.bool (.s x.1), .sli .u32 x.2.1, .int .i64 (.s x.2.2)], .agg [.bool (.s y.1), .sli .u32 y.2.1, .int .i64 (.s y.2.2)]] (.int .i64 (.s t)) := by
  refine ⟨_, rfl, ?_⟩
  generalize hr : (if v < w then -1 else if w < v then 1 else 0 : Int) = r
  have S := dySum_val (by omega) hp (dyOpp_val hq)
  have fin : ∀ s : Int, s = (if v + -w < 0 then -1 else if 0 < v + -w then 1 else 0) → s = r := by
    intro s hs
    rw [hs, ← hr]
    by_cases h1 : v < w
    · rw [if_pos h1, if_pos (by omega)]
    · by_cases h2 : w < v
      · rw [if_neg h1, if_pos h2, if_neg (by omega), if_pos (by omega)]
      · rw [if_neg h1, if_neg h2, if_neg (by omega), if_neg (by omega)]
  have hB3 : B + 1 ≤ 4000000 := by omega
  clear hr
  refine callsA_of hG hm Tryd.func14 (by kernel_rfl) ?_
  intro E hE lp hl'
  cbv
  (first | (apply E_pcallX hE (c_dySub B hB p q v w hp hq x y hx hy); (case hm => rfl); (case hle => (repeat' (first | exact u_nil | apply u_cons | apply u2_agg | exact u2_int | exact u1_int | exact u2_bool | exact u1_bool | exact u2_sli | exact u1_sli | exact u2_s0 | exact u1_s0))); all_goals (first | (intro u hu; cbv) | (assumption))) | (apply E_callX hE (c_dySub B hB p q v w hp hq x y hx hy); (case hf => rfl); (case hc => (cbv <;> trivial)); (case hle => (repeat' (first | exact u_nil | apply u_cons | apply u2_agg | exact u2_int | exact u1_int | exact u2_bool | exact u1_bool | exact u2_sli | exact u1_sli | exact u2_s0 | exact u1_s0))); all_goals (first | (intro u hu; cbv) | (assumption))))
  (first | (apply E_pcallX hE (c_dySign (B + 1) hB3 (dySum p (dyOpp q)) (v + -w) S u hu); (case hm => rfl); (case hle => (repeat' (first | exact u_nil | apply u_cons | apply u2_agg | exact u2_int | exact u1_int | exact u2_bool | exact u1_bool | exact u2_sli | exact u1_sli | exact u2_s0 | exact u1_s0))); all_goals (first | (intro s hs; cbv) | (assumption))) | (apply E_callX hE (c_dySign (B + 1) hB3 (dySum p (dyOpp q)) (v + -w) S u hu); (case hf => rfl); (case hc => (cbv <;> trivial)); (case hle => (repeat' (first | exact u_nil | apply u_cons | apply u2_agg | exact u2_int | exact u1_int | exact u2_bool | exact u1_bool | exact u2_sli | exact u1_sli | exact u2_s0 | exact u1_s0))); all_goals (first | (intro s hs; cbv) | (assumption))))
  (try (refine E_nm hE (fun s1 hs1 => ?_); cbv))
  first | exact fin s hs | exact hs1.trans (fin s hs)
set_option maxHeartbeats 1000000 in
theorem c_dyMul (A B : Nat) (hA : A + B ≤ 4000000) (p q : Bool × Nat × Int) (v w : Int) (hp : DyV A p v) (hq : DyV B q w) (x y : DyT) (hx : x = dyL p) (hy : y = dyL q) :
    ∃ t : DyT, t = dyL (dyMake ((p.1 != q.1) && decide (p.2.1 * q.2.1 ≠ 0)) (p.2.1 * q.2.1) (p.2.2 + q.2.2)) ∧ CallsA Tryd.prog 22 [.agg [.bool (.s x.1), .sli .u32 x.2.1, .int .i64 (.s x.2.2)], .agg [.bool (.s y.1), .sli .u32 y.2.1, .int .i64 (.s y.2.2)]] (.agg [.bool (.s t.1), .sli .u32 t.2.1, .int .i64 (.s t.2.2)]) := by
  refine ⟨_, rfl, ?_⟩
  generalize hr : dyL (dyMake ((p.1 != q.1) && decide (p.2.1 * q.2.1 ≠ 0)) (p.2.1 * q.2.1) (p.2.2 + q.2.2)) = r
  have hA1 : A ≤ 4000000 := by omega
  have hB1 : B ≤ 4000000 := by omega
  have xl := hp.len hA1
  rw [← hx] at xl
  have yl := hq.len hB1
  rw [← hy] at yl
  have xl2 : x.2.1.length < 4611686018427387904 := by omega
  have yl2 : y.2.1.length < 4611686018427387904 := by omega
  have Cp := hp.c hA1
  have Cq := hq.c hB1
  have plo := hp.lo
  have phi := hp.hi
  have qlo := hq.lo
  have qhi := hq.hi
  have pbl := blen_nonneg (p.2.1 : Int)
  have qbl := blen_nonneg (q.2.1 : Int)
  have rng : -9223372036854775808 ≤ p.2.2 + q.2.2 ∧ p.2.2 + q.2.2 < 9223372036854775808 := by omega
  have xb : Lb x.2.1 := by rw [hx]; exact lim_lb _
  have yb : Lb y.2.1 := by rw [hy]; exact lim_lb _
  have xl3 : x.2.1.length < 60000000 := by omega
  have yl3 : y.2.1.length < 60000000 := by omega
  have fin : ∀ u : Bool × List Int, u = ((x.1 != y.1) && decide (lv x.2.1 * lv y.2.1 ≠ 0), lim (lv x.2.1 * lv y.2.1)) → Lb u.2 ∧ u.2.length < 67108864 ∧ dyL (dyMake u.1 (lv u.2) (p.2.2 + q.2.2)) = r := by
    intro u hu
    have l := mulLen xb yb
    rw [hu]
    refine ⟨lim_lb _, by dsimp only; omega, ?_⟩
    dsimp only
    rw [lv_lim, ← hr, hx, hy]
    unfold dyL
    dsimp only
    rw [lv_lim, lv_lim]
  have x3 : x.2.2 = p.2.2 := by rw [hx]; rfl
  have y3 : y.2.2 = q.2.2 := by rw [hy]; rfl
  clear hr
  refine callsA_of hG hm Tryd.func22 (by kernel_rfl) ?_
  intro E hE lp hl'
  cbv
  (first | (apply E_pcallX hE (c_dyFair p Cp x hx xl2); (case hm => rfl); (case hle => (repeat' (first | exact u_nil | apply u_cons | apply u2_agg | exact u2_int | exact u1_int | exact u2_bool | exact u1_bool | exact u2_sli | exact u1_sli | exact u2_s0 | exact u1_s0))); all_goals (first | (intro a ha; cbv) | (assumption))) | (apply E_callX hE (c_dyFair p Cp x hx xl2); (case hf => rfl); (case hc => (cbv <;> trivial)); (case hle => (repeat' (first | exact u_nil | apply u_cons | apply u2_agg | exact u2_int | exact u1_int | exact u2_bool | exact u1_bool | exact u2_sli | exact u1_sli | exact u2_s0 | exact u1_s0))); all_goals (first | (intro a ha; cbv) | (assumption))))
  (first | (apply E_pcallX hE (c_dyFair q Cq y hy yl2); (case hm => rfl); (case hle => (repeat' (first | exact u_nil | apply u_cons | apply u2_agg | exact u2_int | exact u1_int | exact u2_bool | exact u1_bool | exact u2_sli | exact u1_sli | exact u2_s0 | exact u1_s0))); all_goals (first | (intro b hb; cbv) | (assumption))) | (apply E_callX hE (c_dyFair q Cq y hy yl2); (case hf => rfl); (case hc => (cbv <;> trivial)); (case hle => (repeat' (first | exact u_nil | apply u_cons | apply u2_agg | exact u2_int | exact u1_int | exact u2_bool | exact u1_bool | exact u2_sli | exact u1_sli | exact u2_s0 | exact u1_s0))); all_goals (first | (intro b hb; cbv) | (assumption))))
  subst ha hb
  apply E_pcallX hE (c_wMul2 a.1 a.2.1 b.1 b.2.1 xb yb xl3 yl3)
  case hm => rfl
  case hle => exact ⟨u2_slc', trivial⟩
  intro u hu
  cbv
  have U := fin u hu
  have es : E.bin .add .i64 a.2.2 b.2.2 = p.2.2 + q.2.2 := by rw [x3, y3]; subst hE; show IntKind.i64.wrap (p.2.2 + q.2.2) = _; exact wi64_in rng.1 rng.2
  (first | (apply E_pcallX hE (c_dyMake u.1 u.2 (E.bin .add .i64 a.2.2 b.2.2) U.1 U.2.1 ?_ ?_); (case hm => rfl); (case hle => (repeat' (first | exact u_nil | apply u_cons | apply u2_agg | exact u2_int | exact u1_int | exact u2_bool | exact u1_bool | exact u2_sli | exact u1_sli | exact u2_s0 | exact u1_s0))); all_goals (first | (intro t ht; cbv) | ((rw [es]; first | exact rng.1 | exact rng.2)))) | (apply E_callX hE (c_dyMake u.1 u.2 (E.bin .add .i64 a.2.2 b.2.2) U.1 U.2.1 ?_ ?_); (case hf => rfl); (case hc => (cbv <;> trivial)); (case hle => (repeat' (first | exact u_nil | apply u_cons | apply u2_agg | exact u2_int | exact u1_int | exact u2_bool | exact u1_bool | exact u2_sli | exact u1_sli | exact u2_s0 | exact u1_s0))); all_goals (first | (intro t ht; cbv) | ((rw [es]; first | exact rng.1 | exact rng.2)))))
  have k : t = r := by
    have k : t = dyL (dyMake u.1 (lv u.2) (E.bin .add .i64 a.2.2 b.2.2)) := ht
    rw [k, es]; exact U.2.2
  rw [← k]; exact ⟨rfl, rfl, rfl, trivial⟩

end Go.Proofs.YtpadpcjdakfokaaDoor.Ev

/- Sums and products of numbers: their order, and their opposites. Plain Lean. -/
namespace Go.Proofs.YtpadpcjdakfokaaDoor.Ev
open Go

theorem Num.may_fair {n : Num} (h : n.may = true) : n.fair = n := by unfold Num.fair; rw [if_pos h]
theorem Num.opp_inf (b : Bool) : (Num.inf b).opp = Num.inf (!b) := by cases b <;> decide
theorem Num.fair_inf {a : Num} (oa : a.ok) (k : a.fair.kind = 2) : a.fair = Num.inf a.fair.neg := Num.inf_of a.fair_may (Num.fair_ok oa) k

theorem Num.add_inf {a b : Num} (up : Bool) (ka : a.fair.kind = 2) : Num.add a b up = if b.fair.kind = 2 ∧ a.fair.neg ≠ b.fair.neg then Num.inf (!up) else a.fair := by
  unfold Num.add
  by_cases h : b.fair.kind = 2 ∧ a.fair.neg ≠ b.fair.neg
  · rw [if_pos ⟨ka, h⟩, if_pos h]
  · rw [if_neg (fun k => h k.2), if_neg h, if_pos (.inl ka)]
theorem Num.add_inf2 {a b : Num} (oa : a.ok) (ob : b.ok) (up : Bool) (kb : b.fair.kind = 2) : Num.add a b up = if a.fair.kind = 2 ∧ b.fair.neg ≠ a.fair.neg then Num.inf (!up) else b.fair := by
  unfold Num.add
  by_cases h : a.fair.kind = 2 ∧ b.fair.neg ≠ a.fair.neg
  · rw [if_pos ⟨h.1, kb, fun e => h.2 e.symm⟩, if_pos h]
  · rw [if_neg (fun k => h ⟨k.1, fun e => k.2.2 e.symm⟩), if_neg h]
    by_cases ka : a.fair.kind = 2
    · rw [if_pos (.inl ka), Num.fair_inf oa ka, Num.fair_inf ob kb]
      congr 1
      exact (Classical.not_not.1 (fun e => h ⟨ka, e⟩)).symm
    · rw [if_neg (by rw [kb]; simp [ka]), if_pos (.inl kb)]
theorem Num.add_comm {a b : Num} (oa : a.ok) (ob : b.ok) (up : Bool) : Num.add a b up = Num.add b a up := by
  by_cases ka : a.fair.kind = 2
  · rw [Num.add_inf up ka, Num.add_inf2 ob oa up ka]
  · by_cases kb : b.fair.kind = 2
    · rw [Num.add_inf2 oa ob up kb, Num.add_inf up kb]
    · exact (add_best oa ob ka kb up).uniq (add_best ob oa kb ka up) (by decide) (by decide) (by rw [Int.add_comm])

theorem Num.mul_comm {a b : Num} (oa : a.ok) (ob : b.ok) (up : Bool) : Num.mul a b up = Num.mul b a up := by
  have key : a.fair.kind = 2 ∨ b.fair.kind = 2 → Num.mul a b up = Num.mul b a up := by
    intro h
    unfold Num.mul
    by_cases h0 : a.fair.kind = 0 ∨ b.fair.kind = 0
    · have h0' : b.fair.kind = 0 ∨ a.fair.kind = 0 := h0.symm
      rw [if_pos h0]
      exact (if_pos h0').symm
    · have h0' : ¬ (b.fair.kind = 0 ∨ a.fair.kind = 0) := fun k => h0 k.symm
      rw [if_neg h0, if_pos h]
      refine Eq.trans ?_ (Eq.trans (if_pos h.symm).symm (if_neg h0').symm)
      congr 1
      cases a.fair.neg <;> cases b.fair.neg <;> rfl
  by_cases ka : a.fair.kind = 2
  · exact key (.inl ka)
  · by_cases kb : b.fair.kind = 2
    · exact key (.inr kb)
    · exact (mul_best oa ob ka kb up).uniq (mul_best ob oa kb ka up) (pw_pos 0) (pw_pos 0) (by rw [Int.mul_comm a.fair.val])

theorem Best.opp {r : Num} {up : Bool} {t c : Int} (h : Best r up t c) : Best r.opp (!up) (-t) c := by
  have fr := Num.may_fair h.may
  have vr : r.opp.val = -r.val := by rw [Num.opp_val, fr]
  have inj : ∀ b, r.opp = Num.inf b → r = Num.inf (!b) := by
    intro b e
    have := congrArg Num.opp e
    rw [Num.opp_opp, fr, Num.opp_inf] at this
    exact this
  have back : ∀ s : Num, s.may = true → s.ok → ∀ b, s ≠ Num.inf b → s.opp ≠ Num.inf (!b) := by
    intro s ms os b hs e
    have := congrArg Num.opp e
    rw [Num.opp_opp, Num.may_fair ms, Num.opp_inf, Bool.not_not] at this
    exact hs this
  have vs : ∀ s : Num, s.may = true → s.opp.val = -s.val := fun s ms => by rw [Num.opp_val, Num.may_fair ms]
  refine ⟨Num.opp_may r, Num.opp_ok h.ok, fun hu => ?_, fun hu s ms os hs hle => ?_, fun hu s ms os hs hle => ?_, fun hu => ?_⟩
  · have hu' : up = true := by simpa using hu
    obtain ⟨h1, h2⟩ := h.hi hu'
    refine ⟨fun e => h1 (inj _ e), ?_⟩
    rcases h2 with h2 | h2
    · left; rw [h2, Num.opp_inf]; rfl
    · right; rw [vr, Int.neg_mul]; omega
  · have hu' : up = true := by simpa using hu
    have := h.uopt hu' s.opp (Num.opp_may s) (Num.opp_ok os) (back s ms os false hs) (by rw [vs s ms, Int.neg_mul]; omega)
    rw [vs s ms] at this
    rw [vr]; omega
  · have hu' : up = false := by simpa using hu
    have := h.dopt hu' s.opp (Num.opp_may s) (Num.opp_ok os) (back s ms os true hs) (by rw [vs s ms, Int.neg_mul]; omega)
    rw [vs s ms] at this
    rw [vr]; omega
  · have hu' : up = false := by simpa using hu
    obtain ⟨h1, h2⟩ := h.down hu'
    refine ⟨fun e => h1 (inj _ e), ?_⟩
    rcases h2 with h2 | h2
    · left; rw [h2, Num.opp_inf]; rfl
    · right; rw [vr, Int.neg_mul]; omega

theorem Num.opp_fair (n : Num) : n.opp.fair = n.opp := Num.may_fair (Num.opp_may n)
theorem Num.opp_kind (n : Num) : n.opp.kind = n.fair.kind := rfl
theorem Num.opp_of_fair (a : Num) : a.opp = a.fair.opp := by unfold Num.opp; rw [Num.may_fair a.fair_may]
theorem Num.opp_of_inf {a : Num} (oa : a.ok) (k : a.fair.kind = 2) : a.opp = Num.inf (!a.fair.neg) := by
  rw [Num.opp_of_fair, Num.fair_inf oa k, Num.opp_inf]; rfl
theorem Num.add_opp {a b : Num} (oa : a.ok) (ob : b.ok) (up : Bool) : Num.add a.opp b.opp (!up) = (Num.add a b up).opp := by
  have half : ∀ {a b : Num}, a.ok → b.ok → a.fair.kind = 2 → Num.add a.opp b.opp (!up) = (Num.add a b up).opp := by
    intro a b oa ob ka
    rw [Num.add_inf (!up) (by rw [Num.opp_fair, Num.opp_kind]; exact ka), Num.add_inf up ka, Num.opp_fair, Num.opp_fair, Num.opp_kind, Num.opp_of_inf oa ka]
    by_cases kb : b.fair.kind = 2
    · rw [Num.opp_of_inf ob kb]
      by_cases hn : a.fair.neg = b.fair.neg
      · rw [if_neg (by rintro ⟨-, h⟩; exact h (by show (!_) = (!_); rw [hn])), if_neg (fun h => h.2 hn), ← Num.opp_of_fair, Num.opp_of_inf oa ka]
      · rw [if_pos ⟨kb, fun h => hn (by have h' : (!a.fair.neg) = (!b.fair.neg) := h; revert h'; cases a.fair.neg <;> cases b.fair.neg <;> simp)⟩, if_pos ⟨kb, hn⟩, Num.opp_inf]
    · rw [if_neg (fun h => kb h.1), if_neg (fun h => kb h.1), ← Num.opp_of_fair, Num.opp_of_inf oa ka]
  by_cases ka : a.fair.kind = 2
  · exact half oa ob ka
  · by_cases kb : b.fair.kind = 2
    · rw [Num.add_comm (Num.opp_ok oa) (Num.opp_ok ob), Num.add_comm oa ob]
      exact half ob oa kb
    · have h1 := (add_best oa ob ka kb up).opp
      have h2 := add_best (Num.opp_ok oa) (Num.opp_ok ob) (by rw [Num.opp_fair, Num.opp_kind]; exact ka) (by rw [Num.opp_fair, Num.opp_kind]; exact kb) (!up)
      refine h2.uniq h1 (by decide) (by decide) ?_
      rw [Num.opp_fair, Num.opp_fair, Num.opp_val, Num.opp_val]; omega
end Go.Proofs.YtpadpcjdakfokaaDoor.Ev

/- The law of rules, all but roots: plain Lean. -/
namespace Go.Proofs.YtpadpcjdakfokaaDoor.Ev
open Go

theorem Iv.bad_two (a b : Iv) : Iv.anyBad [a, b] = (a.bad || b.bad) := by simp [Iv.anyBad]
theorem Iv.bad_one (a : Iv) : Iv.anyBad [a] = a.bad := by simp [Iv.anyBad]

theorem Iv.add2_eq {a b : Iv} : Iv.add [a, b] = if (a.bad || b.bad) = true then Iv.none else Iv.make (Num.add a.lo b.lo false) (Num.add a.hi b.hi true) := by
  unfold Iv.add
  rw [Iv.bad_two]
  rfl
theorem Iv.add2_comm {a b : Iv} (ha : a.lo.ok ∧ a.hi.ok) (hb : b.lo.ok ∧ b.hi.ok) : Iv.add [a, b] = Iv.add [b, a] := by
  rw [Iv.add2_eq, Iv.add2_eq, Bool.or_comm, Num.add_comm ha.1 hb.1, Num.add_comm ha.2 hb.2]

theorem Num.least_perm {w x y z : Num} (hw : w.ok) (hx : x.ok) (hy : y.ok) (hz : z.ok) : Num.least [w, x, y, z] = Num.least [w, y, x, z] := by
  have s1 := Num.least_spec [w, x, y, z] (by simp; exact ⟨hw, hx, hy, hz⟩)
  have s2 := Num.least_spec [w, y, x, z] (by simp; exact ⟨hw, hy, hx, hz⟩)
  refine Num.val_inj s1.1 s2.1 s1.2.1 s2.2.1 ?_
  have l1 := s1.2.2.1
  have l2 := s2.2.2.1
  have top1 := (Num.val_le s1.1 s1.2.1).2
  have top2 := (Num.val_le s2.1 s2.2.1).2
  apply Int.le_antisymm
  · rcases s2.2.2.2 with e | ⟨v, hv, e⟩
    · rw [e, Num.val_inf]; simpa using top1
    · have := l1 v (by simp at hv ⊢; rcases hv with h | h | h | h <;> simp [h])
      rw [e]; exact this
  · rcases s1.2.2.2 with e | ⟨v, hv, e⟩
    · rw [e, Num.val_inf]; simpa using top2
    · have := l2 v (by simp at hv ⊢; rcases hv with h | h | h | h <;> simp [h])
      rw [e]; exact this
theorem Num.most_perm {w x y z : Num} (hw : w.ok) (hx : x.ok) (hy : y.ok) (hz : z.ok) : Num.most [w, x, y, z] = Num.most [w, y, x, z] := by
  have s1 := Num.most_spec [w, x, y, z] (by simp; exact ⟨hw, hx, hy, hz⟩)
  have s2 := Num.most_spec [w, y, x, z] (by simp; exact ⟨hw, hy, hx, hz⟩)
  refine Num.val_inj s1.1 s2.1 s1.2.1 s2.2.1 ?_
  have l1 := s1.2.2.1
  have l2 := s2.2.2.1
  have top1 := (Num.val_le s1.1 s1.2.1).1
  have top2 := (Num.val_le s2.1 s2.2.1).1
  apply Int.le_antisymm
  · rcases s1.2.2.2 with e | ⟨v, hv, e⟩
    · rw [e, Num.val_inf]; simpa using top2
    · have := l2 v (by simp at hv ⊢; rcases hv with h | h | h | h <;> simp [h])
      rw [e]; exact this
  · rcases s2.2.2.2 with e | ⟨v, hv, e⟩
    · rw [e, Num.val_inf]; simpa using top1
    · have := l1 v (by simp at hv ⊢; rcases hv with h | h | h | h <;> simp [h])
      rw [e]; exact this

theorem Iv.mul_comm {a b : Iv} (ha : a.lo.ok ∧ a.hi.ok) (hb : b.lo.ok ∧ b.hi.ok) : Iv.mul a b = Iv.mul b a := by
  unfold Iv.mul
  rw [Iv.bad_two, Iv.bad_two, Bool.or_comm]
  unfold Iv.corners
  rw [Num.least_perm (Num.mul_ok ha.1 hb.1 _) (Num.mul_ok ha.1 hb.2 _) (Num.mul_ok ha.2 hb.1 _) (Num.mul_ok ha.2 hb.2 _),
    Num.most_perm (Num.mul_ok ha.1 hb.1 _) (Num.mul_ok ha.1 hb.2 _) (Num.mul_ok ha.2 hb.1 _) (Num.mul_ok ha.2 hb.2 _)]
  rw [Num.mul_comm ha.1 hb.1 false, Num.mul_comm ha.2 hb.1 false, Num.mul_comm ha.1 hb.2 false, Num.mul_comm ha.2 hb.2 false,
    Num.mul_comm ha.1 hb.1 true, Num.mul_comm ha.2 hb.1 true, Num.mul_comm ha.1 hb.2 true, Num.mul_comm ha.2 hb.2 true]

theorem Iv.none_bad : Iv.none.bad = true := by decide
theorem Iv.neg_eq (a : Iv) : Iv.neg a = if a.bad = true then Iv.none else Iv.make a.hi.opp a.lo.opp := by
  unfold Iv.neg; rw [Iv.bad_one]

theorem Iv.Real.neg {x : Iv} (h : x.Real) : (Iv.mk false x.hi.opp x.lo.opp).Real := by
  have vl : x.lo.opp.val = -x.lo.val := by rw [Num.opp_val, Num.may_fair h.lom]
  have vh : x.hi.opp.val = -x.hi.val := by rw [Num.opp_val, Num.may_fair h.him]
  have l := h.lt
  have g := h.gt
  have le := h.le
  exact ⟨rfl, Num.opp_may _, Num.opp_may _, Num.opp_ok h.hio, Num.opp_ok h.loo, by show x.hi.opp.val ≤ x.lo.opp.val; omega, by show x.hi.opp.val < _; omega, by show _ < x.lo.opp.val; omega⟩
theorem Iv.neg_real {x : Iv} (h : x.Real) : Iv.neg x = ⟨false, x.hi.opp, x.lo.opp⟩ := by
  rw [Iv.neg_eq, if_neg (by rw [h.good]; decide)]
  have := Iv.make_real (lo := x.hi.opp) (hi := x.lo.opp) (by rw [Num.opp_fair, Num.opp_fair]; exact h.neg)
  rw [this, Num.opp_fair, Num.opp_fair]
end Go.Proofs.YtpadpcjdakfokaaDoor.Ev

/- Squares are within products: plain Lean. -/
namespace Go.Proofs.YtpadpcjdakfokaaDoor.Ev
open Go

theorem Iv.empty_within (b : Iv) : Iv.none.within b = true := by
  unfold Iv.within
  have : Iv.none.fair.empty = true := by decide
  rw [this]; rfl
theorem Iv.real_within {a b : Iv} (ha : a.Real) (hb : b.Real) (h1 : b.lo.val ≤ a.lo.val) (h2 : a.hi.val ≤ b.hi.val) : a.within b = true := by
  unfold Iv.within
  rw [ha.fair, hb.fair, ha.some, hb.some]
  have e1 : b.lo.cmp a.lo ≤ 0 := (Num.cmp_le hb.loo ha.loo).2 (by rw [Num.may_fair hb.lom, Num.may_fair ha.lom]; exact h1)
  have e2 : a.hi.cmp b.hi ≤ 0 := (Num.cmp_le ha.hio hb.hio).2 (by rw [Num.may_fair ha.him, Num.may_fair hb.him]; exact h2)
  simp [e1, e2]
theorem Iv.make_within {x y u v : Num} (ox : x.ok) (oy : y.ok) (ou : u.ok) (ov : v.ok) (h1 : u.fair.val ≤ x.fair.val) (h2 : y.fair.val ≤ v.fair.val) : (Iv.make x y).within (Iv.make u v) = true := by
  rcases Iv.make_cases ox oy with ⟨e, -⟩ | ⟨e, r⟩
  · rw [e]; exact Iv.empty_within _
  · have l := r.lt
    have g := r.gt
    have le := r.le
    dsimp only at l g le
    have r2 : (Iv.mk false u.fair v.fair).Real := ⟨rfl, u.fair_may, v.fair_may, Num.fair_ok ou, Num.fair_ok ov, by show u.fair.val ≤ v.fair.val; omega, by show u.fair.val < _; omega, by show _ < v.fair.val; omega⟩
    rw [e, Iv.make_real r2]
    exact Iv.real_within r r2 h1 h2

theorem Num.mul_inf {a b : Num} (up : Bool) (h : a.fair.kind = 2 ∨ b.fair.kind = 2) : Num.mul a b up = if a.fair.kind = 0 ∨ b.fair.kind = 0 then Num.zero else Num.inf (a.fair.neg != b.fair.neg) := by
  unfold Num.mul
  by_cases h0 : a.fair.kind = 0 ∨ b.fair.kind = 0
  · rw [if_pos h0, if_pos h0]
  · rw [if_neg h0, if_neg h0, if_pos h]
theorem Num.opp_neg {a : Num} (h : a.fair.kind ≠ 0) : a.opp.neg = !a.fair.neg := by
  show (decide (a.fair.kind ≠ 0) && !a.fair.neg) = _
  simp [h]
theorem Num.mul_opp_opp {a b : Num} (oa : a.ok) (ob : b.ok) (up : Bool) : Num.mul a.opp b.opp up = Num.mul a b up := by
  by_cases h : a.fair.kind = 2 ∨ b.fair.kind = 2
  · rw [Num.mul_inf up h, Num.mul_inf up (by rw [Num.opp_fair, Num.opp_fair, Num.opp_kind, Num.opp_kind]; exact h), Num.opp_fair, Num.opp_fair, Num.opp_kind, Num.opp_kind]
    by_cases h0 : a.fair.kind = 0 ∨ b.fair.kind = 0
    · rw [if_pos h0, if_pos h0]
    · rw [if_neg h0, if_neg h0, Num.opp_neg (fun e => h0 (.inl e)), Num.opp_neg (fun e => h0 (.inr e))]
      congr 1
      cases a.fair.neg <;> cases b.fair.neg <;> rfl
  · have ka : a.fair.kind ≠ 2 := fun e => h (.inl e)
    have kb : b.fair.kind ≠ 2 := fun e => h (.inr e)
    refine (mul_best (Num.opp_ok oa) (Num.opp_ok ob) (by rw [Num.opp_fair, Num.opp_kind]; exact ka) (by rw [Num.opp_fair, Num.opp_kind]; exact kb) up).uniq (mul_best oa ob ka kb up) (pw_pos 0) (pw_pos 0) ?_
    rw [Num.opp_fair, Num.opp_fair, Num.opp_val, Num.opp_val, Int.neg_mul_neg]
theorem Num.mul_may {a b : Num} (oa : a.ok) (ob : b.ok) (up : Bool) : (Num.mul a b up).may = true := by
  by_cases h : a.fair.kind = 2 ∨ b.fair.kind = 2
  · rw [Num.mul_inf up h]; split
    · exact Num.zero_may
    · exact Num.inf_may _
  · exact (mul_best oa ob (fun e => h (.inl e)) (fun e => h (.inr e)) up).may

end Go.Proofs.YtpadpcjdakfokaaDoor.Ev

/- A square is within the product with itself: plain Lean. -/
namespace Go.Proofs.YtpadpcjdakfokaaDoor.Ev
open Go

/-- how far from nought, told by cases -/
theorem Iv.abs_cases {a : Iv} (r : a.Real) : (0 ≤ a.lo.val ∧ Iv.abs a = a) ∨ (a.lo.val < 0 ∧ a.hi.val ≤ 0 ∧ Iv.abs a = ⟨false, a.hi.opp, a.lo.opp⟩) ∨
    (a.lo.val < 0 ∧ 0 < a.hi.val ∧ (Iv.abs a = ⟨false, Num.zero, Num.most [a.hi, a.lo.opp]⟩) ∧ (Num.most [a.hi, a.lo.opp] = a.hi ∨ Num.most [a.hi, a.lo.opp] = a.lo.opp) ∧ a.hi.val ≤ (Num.most [a.hi, a.lo.opp]).val ∧ -a.lo.val ≤ (Num.most [a.hi, a.lo.opp]).val) := by
  have sl := Num.sign_of r.lom r.loo
  have sh := Num.sign_of r.him r.hio
  have ab : Iv.abs a = if 0 ≤ a.lo.sign then a else if a.hi.sign ≤ 0 then Iv.neg a else Iv.make Num.zero (Num.most [a.hi, a.lo.opp]) := by
    unfold Iv.abs
    rw [Iv.bad_one, r.good, if_neg (by decide)]
  by_cases h1 : 0 ≤ a.lo.sign
  · left
    rw [ab, if_pos h1]
    exact ⟨by omega, rfl⟩
  · right
    rw [if_neg h1] at ab
    by_cases h2 : a.hi.sign ≤ 0
    · left
      rw [ab, if_pos h2]
      exact ⟨by omega, by omega, Iv.neg_real r⟩
    · right
      rw [if_neg h2] at ab
      have vo : a.lo.opp.val = -a.lo.val := by rw [Num.opp_val, Num.may_fair r.lom]
      have sp := Num.most_spec [a.hi, a.lo.opp] (by simp; exact ⟨r.hio, Num.opp_ok r.loo⟩)
      have m1 := sp.2.2.1 a.hi (by simp)
      have m2 := sp.2.2.1 a.lo.opp (by simp)
      rw [Num.may_fair r.him] at m1
      rw [Num.opp_fair, vo] at m2
      have hv : 0 < a.hi.val := by omega
      have real : (Iv.mk false Num.zero.fair (Num.most [a.hi, a.lo.opp]).fair).Real := by
        rw [Num.may_fair sp.1, Num.may_fair Num.zero_may]
        have p := pw_pos 1048640
        exact ⟨rfl, Num.zero_may, sp.1, Num.zero_ok, sp.2.1, by show Num.zero.val ≤ _; rw [Num.val_zero]; show 0 ≤ (Num.most [a.hi, a.lo.opp]).val; omega, by show Num.zero.val < _; rw [Num.val_zero]; exact p, by show -pw 1048640 < (Num.most [a.hi, a.lo.opp]).val; omega⟩
      refine ⟨by omega, hv, ?_, ?_, m1, m2⟩
      · rw [ab, Iv.make_real real, Num.may_fair sp.1, Num.may_fair Num.zero_may]
      · rcases sp.2.2.2 with e | ⟨x, hx, e⟩
        · exfalso
          rw [e, Num.val_inf] at m1
          have p := pw_pos 1048640
          simp at m1; omega
        · simp at hx
          rcases hx with rfl | rfl
          · left; rw [e, Num.may_fair r.him]
          · right; rw [e, Num.opp_fair]

end Go.Proofs.YtpadpcjdakfokaaDoor.Ev

/- Contracts: the quotient of intervals. Printed by gen.py out of C10.spec. -/
namespace Go.Proofs.YtpadpcjdakfokaaDoor.Ev
open Go Go.Proofs
set_option linter.unusedVariables false
set_option linter.unusedSimpArgs false

set_option maxHeartbeats 4000000 in
theorem c_opDiv (a : Iv) (b : Iv) (h1 : a.lo.ok) (h2 : a.hi.ok) (h3 : b.lo.ok) (h4 : b.hi.ok) : ∃ t : Iv, t = Iv.div a b ∧ CallsA Tryd.prog 46 [a.av, b.av] (t.av) := by
  refine ⟨_, rfl, ?_⟩
  generalize hr : Iv.div a b = r
  refine callsA_of hG hm Tryd.func46 (by kernel_rfl) ?_
  intro E hE lp hl
  cbv
  repeat' (first
    | (apply E_br_t hE; assumption; cbv)
    | (apply E_br_f hE; assumption; cbv)
    | (refine E_br hE (fun h => ?_) (fun h => ?_) <;> cbv)
    | (refine E_nm hE (fun v hv => ?_); cbv)
    | (apply E_callX hE (c_none [a, b] 2 rfl (by decide)); (case hf => rfl); (case hc => (cbv <;> trivial)); (case hle => exact ⟨slcO2 hE, trivial⟩); intro t ht; cbv)
    | (apply E_callX hE (c_corners a b 82 Num.div Num.ok (fun x y up hx hy => c_quDiv x y up hx hy) h1 h2 h3 h4); (case hf => rfl); (case hc => (cbv <;> trivial)); (case hle => (repeat' (first | exact u_nil | apply u_cons | apply u2_agg | exact u2_int | exact u1_int | exact u2_bool | exact u1_bool | exact u2_sli | exact u1_sli | exact u2_s0 | exact u1_s0 | exact u2_fn))); intro t ht; cbv)
    | (apply E_callX hE (c_Sign ⟨_, _, _, _⟩); (case hf => rfl); (case hc => (cbv <;> trivial)); (case hle => exact u_up); intro t ht; cbv)
    | (apply E_pcallX hE (c_Sign ⟨_, _, _, _⟩); (case hm => rfl); (case hle => exact u_up); intro t ht; cbv)
    | (apply E_callX hE (c_ivNone ); (case hf => rfl); (case hc => (cbv <;> trivial)); (case hle => exact u_up); intro t ht; cbv)
    | (apply E_callX hE (c_ivHas ⟨_, ⟨_, _, _, _⟩, ⟨_, _, _, _⟩⟩ ⟨_, _, _, _⟩); (case hf => rfl); (case hc => (cbv <;> trivial)); (case hle => exact u_up); intro t ht; cbv)
    | (apply E_callX hE (c_ivAll ); (case hf => rfl); (case hc => (cbv <;> trivial)); (case hle => exact u_up); intro t ht; cbv)
    | (apply E_callX hE (c_quDiv ⟨_, _, _, _⟩ ⟨_, _, _, _⟩ _ ?_ ?_); (case hf => rfl); (case hc => (cbv <;> trivial)); (case hle => exact u_up); all_goals (first | (intro t ht; cbv) | (subst hE; (try simp only [realE, cmp_eql, cmp_neq, cmp_lss, cmp_leq, cmp_gtr, cmp_geq, intBinR, decide_eq_true_eq, decide_eq_false_iff_not, SI.val, SB.val, Num.eta, Iv.eta] at *); first | exact h1 | exact h2 | exact h3 | exact h4)))
    | (apply E_pcallX hE (c_quDiv ⟨_, _, _, _⟩ ⟨_, _, _, _⟩ _ ?_ ?_); (case hm => rfl); (case hle => exact u_up); all_goals (first | (intro t ht; cbv) | (subst hE; (try simp only [realE, cmp_eql, cmp_neq, cmp_lss, cmp_leq, cmp_gtr, cmp_geq, intBinR, decide_eq_true_eq, decide_eq_false_iff_not, SI.val, SB.val, Num.eta, Iv.eta] at *); first | exact h1 | exact h2 | exact h3 | exact h4)))
    | (apply E_callX hE (c_Inf _); (case hf => rfl); (case hc => (cbv <;> trivial)); (case hle => exact u_up); intro t ht; cbv)
    | (apply E_pcallX hE (c_Inf _); (case hm => rfl); (case hle => exact u_up); intro t ht; cbv)
    | (apply E_callX hE (c_ivMake ⟨_, _, _, _⟩ ⟨_, _, _, _⟩); (case hf => rfl); (case hc => (cbv <;> trivial)); (case hle => exact u_up); intro t ht; cbv)
    | (apply E_pcallX hE (c_ivMake ⟨_, _, _, _⟩ ⟨_, _, _, _⟩); (case hm => rfl); (case hle => exact u_up); intro t ht; cbv)
    | fail)
  all_goals (subst hE; subst hr)
  all_goals (try simp only [realE, cmp_eql, cmp_neq, cmp_lss, cmp_leq, cmp_gtr, cmp_geq, intBinR, decide_eq_true_eq, decide_eq_false_iff_not, SI.val, SB.val, Num.eta, Iv.eta] at *)
  all_goals (try refine Iv.fin (t := ⟨_, ⟨_, _, _, _⟩, ⟨_, _, _, _⟩⟩) ?_)
  all_goals (change t = _; subst_vars; try simp only [show ({ kind := 0, neg := false, m := 0, e := 0 } : Num) = Num.zero from rfl] at *)
  all_goals (try replace hv := hv.symm)
  all_goals first
    | (exfalso; omega)
    | (unfold Iv.div Iv.corners; first
      | rw [if_pos (.inl ‹_›)]
      | rw [if_pos (.inr ⟨by omega, by omega⟩)]
      | (rw [if_neg (by rintro (q | q) <;> first | omega | simp_all)]; first
        | rw [if_pos (show 0 < b.lo.sign ∨ b.hi.sign < 0 by omega)]
        | (rw [if_neg (show ¬ (0 < b.lo.sign ∨ b.hi.sign < 0) by omega)]; first
          | rw [if_pos (.inl ⟨by omega, by omega⟩)]
          | rw [if_pos (.inr ‹_›)]
          | (rw [if_neg (by rintro (q | q) <;> first | omega | simp_all)]; unfold Iv.half
             (first | rw [if_pos (show a.lo.sign < 0 by omega)] | rw [if_neg (show ¬ a.lo.sign < 0 by omega)])
             (first | rw [if_pos (show b.hi.sign = 0 by omega)] | rw [if_neg (show ¬ b.hi.sign = 0 by omega)])
             (first | rw [if_pos (by omega)] | rw [if_neg (by omega)])))))

end Go.Proofs.YtpadpcjdakfokaaDoor.Ev

/- Contracts: the chapter's examples. Printed by gen.py out of C12a.spec. -/
namespace Go.Proofs.YtpadpcjdakfokaaDoor.Ev
open Go Go.Proofs
set_option linter.unusedVariables false
set_option linter.unusedSimpArgs false

set_option maxHeartbeats 4000000 in
theorem c_awake   : ∃ t : Bool, t = true ∧ CallsA Tryd.prog 15 [] (.bool (.s t)) := by
  refine ⟨_, rfl, ?_⟩
  generalize hr : true = r
  refine callsA_of hG hm Tryd.func15 (by kernel_rfl) ?_
  intro E hE lp hl
  cbv
  repeat' (first
    | (apply E_br_t hE; assumption; cbv)
    | (apply E_br_f hE; assumption; cbv)
    | (refine E_br hE (fun h => ?_) (fun h => ?_) <;> cbv)
    | (refine E_nm hE (fun v hv => ?_); cbv)
    | (apply E_callX hE (c_ivOf _ _ ?_ ?_ ?_ ?_); (case hf => rfl); (case hc => (cbv <;> trivial)); (case hle => exact u_up); all_goals (first | (intro t ht; cbv) | (subst hE; (try simp only [realE, cmp_eql, cmp_neq, cmp_lss, cmp_leq, cmp_gtr, cmp_geq, intBinR, decide_eq_true_eq, decide_eq_false_iff_not, SI.val, SB.val, Num.eta, Iv.eta] at *); (subst_vars; first | exact (Iv.ofInts_ok (-1) 2).1 | exact (Iv.ofInts_ok (-1) 2).2 | exact (Iv.ofInts_ok (3) 4).1 | exact (Iv.ofInts_ok (3) 4).2 | exact (Iv.ofInts_ok (1) 2).1 | exact (Iv.ofInts_ok (1) 2).2 | exact (Iv.ofInts_ok (0) 4).1 | exact (Iv.ofInts_ok (0) 4).2 | decide))))
    | (apply E_pcallX hE (c_ivOf _ _ ?_ ?_ ?_ ?_); (case hm => rfl); (case hle => exact u_up); all_goals (first | (intro t ht; cbv) | (subst hE; (try simp only [realE, cmp_eql, cmp_neq, cmp_lss, cmp_leq, cmp_gtr, cmp_geq, intBinR, decide_eq_true_eq, decide_eq_false_iff_not, SI.val, SB.val, Num.eta, Iv.eta] at *); (subst_vars; first | exact (Iv.ofInts_ok (-1) 2).1 | exact (Iv.ofInts_ok (-1) 2).2 | exact (Iv.ofInts_ok (3) 4).1 | exact (Iv.ofInts_ok (3) 4).2 | exact (Iv.ofInts_ok (1) 2).1 | exact (Iv.ofInts_ok (1) 2).2 | exact (Iv.ofInts_ok (0) 4).1 | exact (Iv.ofInts_ok (0) 4).2 | decide))))
    | (apply E_callX hE (c_opMul ⟨_, ⟨_, _, _, _⟩, ⟨_, _, _, _⟩⟩ ⟨_, ⟨_, _, _, _⟩, ⟨_, _, _, _⟩⟩ ?_ ?_ ?_ ?_); (case hf => rfl); (case hc => (cbv <;> trivial)); (case hle => exact u_up); all_goals (first | (intro t ht; cbv) | (subst hE; (try simp only [realE, cmp_eql, cmp_neq, cmp_lss, cmp_leq, cmp_gtr, cmp_geq, intBinR, decide_eq_true_eq, decide_eq_false_iff_not, SI.val, SB.val, Num.eta, Iv.eta] at *); (subst_vars; first | exact (Iv.ofInts_ok (-1) 2).1 | exact (Iv.ofInts_ok (-1) 2).2 | exact (Iv.ofInts_ok (3) 4).1 | exact (Iv.ofInts_ok (3) 4).2 | exact (Iv.ofInts_ok (1) 2).1 | exact (Iv.ofInts_ok (1) 2).2 | exact (Iv.ofInts_ok (0) 4).1 | exact (Iv.ofInts_ok (0) 4).2 | decide))))
    | (apply E_callX hE (c_opDiv ⟨_, ⟨_, _, _, _⟩, ⟨_, _, _, _⟩⟩ ⟨_, ⟨_, _, _, _⟩, ⟨_, _, _, _⟩⟩ ?_ ?_ ?_ ?_); (case hf => rfl); (case hc => (cbv <;> trivial)); (case hle => exact u_up); all_goals (first | (intro t ht; cbv) | (subst hE; (try simp only [realE, cmp_eql, cmp_neq, cmp_lss, cmp_leq, cmp_gtr, cmp_geq, intBinR, decide_eq_true_eq, decide_eq_false_iff_not, SI.val, SB.val, Num.eta, Iv.eta] at *); (subst_vars; first | exact (Iv.ofInts_ok (-1) 2).1 | exact (Iv.ofInts_ok (-1) 2).2 | exact (Iv.ofInts_ok (3) 4).1 | exact (Iv.ofInts_ok (3) 4).2 | exact (Iv.ofInts_ok (1) 2).1 | exact (Iv.ofInts_ok (1) 2).2 | exact (Iv.ofInts_ok (0) 4).1 | exact (Iv.ofInts_ok (0) 4).2 | decide))))
    | (apply E_pcallX hE (c_Inf _); (case hm => rfl); (case hle => exact u_up); intro t ht; cbv)
    | (apply E_pcallX hE (c_Cmp ⟨_, _, _, _⟩ ⟨_, _, _, _⟩); (case hm => rfl); (case hle => exact u_up); intro t ht; cbv)
    | (apply E_pcallX hE (c_Of _ ?_ ?_); (case hm => rfl); (case hle => exact u_up); all_goals (first | (intro t ht; cbv) | (subst hE; (try simp only [realE, cmp_eql, cmp_neq, cmp_lss, cmp_leq, cmp_gtr, cmp_geq, intBinR, decide_eq_true_eq, decide_eq_false_iff_not, SI.val, SB.val, Num.eta, Iv.eta] at *); (subst_vars; first | exact (Iv.ofInts_ok (-1) 2).1 | exact (Iv.ofInts_ok (-1) 2).2 | exact (Iv.ofInts_ok (3) 4).1 | exact (Iv.ofInts_ok (3) 4).2 | exact (Iv.ofInts_ok (1) 2).1 | exact (Iv.ofInts_ok (1) 2).2 | exact (Iv.ofInts_ok (0) 4).1 | exact (Iv.ofInts_ok (0) 4).2 | decide))))
    | (apply E_pcallX hE (c_opSqr ⟨_, ⟨_, _, _, _⟩, ⟨_, _, _, _⟩⟩ ?_ ?_); (case hm => rfl); (case hle => exact u_up); all_goals (first | (intro t ht; cbv) | (subst hE; (try simp only [realE, cmp_eql, cmp_neq, cmp_lss, cmp_leq, cmp_gtr, cmp_geq, intBinR, decide_eq_true_eq, decide_eq_false_iff_not, SI.val, SB.val, Num.eta, Iv.eta] at *); (subst_vars; first | exact (Iv.ofInts_ok (-1) 2).1 | exact (Iv.ofInts_ok (-1) 2).2 | exact (Iv.ofInts_ok (3) 4).1 | exact (Iv.ofInts_ok (3) 4).2 | exact (Iv.ofInts_ok (1) 2).1 | exact (Iv.ofInts_ok (1) 2).2 | exact (Iv.ofInts_ok (0) 4).1 | exact (Iv.ofInts_ok (0) 4).2 | decide))))
    | fail)
  all_goals (subst hE; subst hr)
  all_goals (try simp only [realE, cmp_eql, cmp_neq, cmp_lss, cmp_leq, cmp_gtr, cmp_geq, intBinR, decide_eq_true_eq, decide_eq_false_iff_not, SI.val, SB.val, Num.eta, Iv.eta] at *)
  all_goals (subst_vars; try simp only [aw1, aw3, aw5] at *)
  all_goals (simp_all [aw2, aw4, aw6, Num.inf])

end Go.Proofs.YtpadpcjdakfokaaDoor.Ev

/- Contracts: the sum and the difference of two words with a carry; these have no body in the program's form: the model answers at once. -/
namespace Go.Proofs.YtpadpcjdakfokaaDoor.Ev
open Go Go.Proofs Go.RowKit
set_option linter.unusedVariables false

theorem three_vals {O : Nat → Prop} {w : World} {x y c : Int} {vals : Array Value} (hl : [AV.int .u64 (.s x), AV.int .u64 (.s y), AV.int .u64 (.s c)].length = vals.size)
    (hr : ∀ (j : Nat) (a : AV), [AV.int .u64 (.s x), AV.int .u64 (.s y), AV.int .u64 (.s c)][j]? = some a → RoV O w a (vals.getD j undef)) : vals = #[.int .u64 x, .int .u64 y, .int .u64 c] := by
  have g : ∀ {n : Int} {v : Value}, RoV O w (.int .u64 (.s n)) v → v = .int .u64 n := by
    intro n v h; cases h; rename_i h; subst h; rfl
  have e0 := g (hr 0 _ rfl)
  have e1 := g (hr 1 _ rfl)
  have e2 := g (hr 2 _ rfl)
  obtain ⟨l⟩ := vals
  rcases l with _ | ⟨a, _ | ⟨b, _ | ⟨d, _ | ⟨e, r⟩⟩⟩⟩ <;> simp at hl
  simp at e0 e1 e2
  rw [e0, e1, e2]

theorem ro_pair {O : Nat → Prop} {w : World} (a b : Int) : RoV O w (.tup [.int .u64 (.s a), .int .u64 (.s b)]) (.tuple #[.int .u64 a, .int .u64 b]) := by
  refine .tup _ _ rfl (fun j c hj => ?_)
  match j, hj with
  | 0, hj => simp at hj; subst hj; exact .int _ _ _ rfl
  | 1, hj => simp at hj; subst hj; exact .int _ _ _ rfl
  | j + 2, hj => simp at hj

theorem c_Add64 (x y c : Int) (hx : 0 ≤ x) (hy : 0 ≤ y) (hc0 : 0 ≤ c) (hc : c ≤ 1) : ∃ t : Int × Int, t = ((x + y + c) % 18446744073709551616, (x + y + c) / 18446744073709551616) ∧
    CallsA Tryd.prog 110 [.int .u64 (.s x), .int .u64 (.s y), .int .u64 (.s c)] (.tup [.int .u64 (.s t.1), .int .u64 (.s t.2)]) := by
  refine ⟨_, rfl, fun O w vals hO hg hl hr => .inr ⟨.tuple #[.int .u64 ((x + y + c) % 18446744073709551616), .int .u64 ((x + y + c) / 18446744073709551616)], ?_, _, rfl, ro_pair _ _, Below.refl _ _⟩⟩
  rw [three_vals hl hr, run_callFunc_extern Tryd.func110 (by kernel_rfl) (by kernel_rfl) (by kernel_rfl) (e := add64Entry) (by kernel_rfl), run_add64 x y c hx hy hc0 hc]
  rfl

def subE : Array Value → Sem Value := (Extern.MathBitsCarry.rows.getD 1 ("", fun _ => pure .nilIface)).2
theorem run_subE {P : Program} (x y b : Int) (hx : 0 ≤ x) (hy : 0 ≤ y) (hy' : y < 18446744073709551616) (hb0 : 0 ≤ b) (hb : b ≤ 1) (w : World) :
    (subE #[.int .u64 x, .int .u64 y, .int .u64 b]).run P w = .ok (.tuple #[.int .u64 ((x - y - b) % 18446744073709551616), .int .u64 (if x < y + b then 1 else 0)]) w := by
  have key : ∀ k : Nat, k ≤ 1 → (subE #[.int .u64 x, .int .u64 y, .int .u64 (k : Int)]).run P w =
      .ok (Extern.MathBitsCarry.pair ((x.toNat + Extern.MathBitsCarry.m64 - y.toNat - k) % Extern.MathBitsCarry.m64) (if x.toNat < y.toNat + k then 1 else 0)) w := by
    intro k hk
    have : k = 0 ∨ k = 1 := by omega
    rcases this with rfl | rfl <;> rfl
  obtain ⟨k, rfl⟩ := Int.eq_ofNat_of_zero_le hb0
  rw [key k (by omega)]
  obtain ⟨X, rfl⟩ := Int.eq_ofNat_of_zero_le hx
  obtain ⟨Y, rfl⟩ := Int.eq_ofNat_of_zero_le hy
  have e1 : ((((X : Int).toNat + Extern.MathBitsCarry.m64 - (Y : Int).toNat - k) % Extern.MathBitsCarry.m64 : Nat) : Int) = ((X : Int) - Y - k) % 18446744073709551616 := by
    simp only [Extern.MathBitsCarry.m64, Int.toNat_natCast]; omega
  have e2 : (((if (X : Int).toNat < (Y : Int).toNat + k then 1 else 0 : Nat)) : Int) = if (X : Int) < Y + k then 1 else 0 := by
    simp only [Int.toNat_natCast]; split <;> split <;> omega
  show Result.ok (Value.tuple #[.int .u64 _, .int .u64 _]) w = _
  rw [← e1, ← e2]
  rfl
theorem c_Sub64 (x y b : Int) (hx : 0 ≤ x) (hy : 0 ≤ y) (hy' : y < 18446744073709551616) (hb0 : 0 ≤ b) (hb : b ≤ 1) : ∃ t : Int × Int, t = ((x - y - b) % 18446744073709551616, if x < y + b then 1 else 0) ∧
    CallsA Tryd.prog 111 [.int .u64 (.s x), .int .u64 (.s y), .int .u64 (.s b)] (.tup [.int .u64 (.s t.1), .int .u64 (.s t.2)]) := by
  refine ⟨_, rfl, fun O w vals hO hg hl hr => .inr ⟨.tuple #[.int .u64 ((x - y - b) % 18446744073709551616), .int .u64 (if x < y + b then 1 else 0)], ?_, _, rfl, ro_pair _ _, Below.refl _ _⟩⟩
  rw [three_vals hl hr, run_callFunc_extern Tryd.func111 (by kernel_rfl) (by kernel_rfl) (by kernel_rfl) (e := subE) (by kernel_rfl), run_subE x y b hx hy hy' hb0 hb]
  rfl
end Go.Proofs.YtpadpcjdakfokaaDoor.Ev

/- Contracts: sums. Printed by gen.py out of C14.spec. -/
namespace Go.Proofs.YtpadpcjdakfokaaDoor.Ev
open Go Go.Proofs
set_option linter.unusedVariables false
set_option linter.unusedSimpArgs false

theorem c_lower (m : Int) (k : Int) (h0 : 0 < m) (h1 : m < 18446744073709551616) (h2 : 0 ≤ k) (h3 : k < 9223372036854775808) : ∃ t : Dbl, t = lowerP m k ∧ CallsA Tryd.prog 109 [.int .u64 (.s m), .int .i64 (.s k)] (t.av) := by
  refine ⟨_, rfl, ?_⟩
  generalize hr : lowerP m k = r
  refine callsA_of hG hm Tryd.func109 (by kernel_rfl) ?_
  intro E hE lp hl
  cbv
  repeat' (first
    | (apply E_br_t hE; assumption; cbv)
    | (apply E_br_f hE; assumption; cbv)
    | (refine E_br hE (fun h => ?_) (fun h => ?_) <;> cbv)
    | (refine E_nm hE (fun v hv => ?_); cbv)
    | fail)
  all_goals (subst hE; subst hr)
  all_goals (try simp only [realE, cmp_eql, cmp_neq, cmp_lss, cmp_leq, cmp_gtr, cmp_geq, intBinR, decide_eq_true_eq, decide_eq_false_iff_not, SI.val, SB.val, Num.eta, Iv.eta] at *)
  all_goals (try (exfalso; (try simp only [wi64] at *); omega))
  case refine_1.refine_2.refine_2 =>
    rw [lower_small h2 ‹k < 64›, show IntKind.i64.wrap (64 - k) = 64 - k by (simp only [wi64]; omega), show min k.toNat IntKind.u64.bits = k.toNat by (show min k.toNat 64 = _; omega),
      show min (64 - k).toNat IntKind.u64.bits = (64 - k).toNat by (show min (64 - k).toNat 64 = _; omega), shr_lit (Int.le_of_lt (two_pos _)), wu64]
    exact ⟨rfl, rfl, rfl, trivial⟩
  case refine_2.refine_1.refine_2.refine_2 =>
    have ev : v = k - 64 := by rw [hv]; simp only [wi64]; omega
    subst ev
    rw [lower_mid (by omega) h1 (by omega) ‹k < 128›, show IntKind.i64.wrap (64 - (k - 64)) = 128 - k by (simp only [wi64]; omega), show min (k - 64).toNat IntKind.u64.bits = (k - 64).toNat by (show min (k - 64).toNat 64 = _; omega),
      show min (128 - k).toNat IntKind.u64.bits = (128 - k).toNat by (show min (128 - k).toNat 64 = _; omega), shr_lit (Int.le_of_lt (two_pos _)), wu64]
    exact ⟨rfl, rfl, rfl, trivial⟩
  case refine_2.refine_2 =>
    rw [lower_far h0 h1 (by omega)]
    exact ⟨rfl, rfl, rfl, trivial⟩

theorem c_plus (a : Num) (b : Num) (up : Bool) (ha : a.Fin) (hb : b.Fin) (hk : b.e ≤ a.e) : ∃ t : Num, t = plusP a b up ∧ CallsA Tryd.prog 87 [a.av, b.av, .bool (.s up)] (t.av) := by
  refine ⟨_, rfl, ?_⟩
  generalize hr : plusP a b up = r
  refine callsA_of hG hm Tryd.func87 (by kernel_rfl) ?_
  intro E hE lp hl
  cbv
  repeat' (first
    | (apply E_br_t hE; assumption; cbv)
    | (apply E_br_f hE; assumption; cbv)
    | (refine E_br hE (fun h => ?_) (fun h => ?_) <;> cbv)
    | (refine E_nm hE (fun v hv => ?_); cbv)
    | (apply E_callX hE (c_lower _ _ ?_ ?_ ?_ ?_); (case hf => rfl); (case hc => (cbv <;> trivial)); (case hle => exact u_up); all_goals (first | (intro t ht; cbv) | (subst hE; (try simp only [realE, cmp_eql, cmp_neq, cmp_lss, cmp_leq, cmp_gtr, cmp_geq, intBinR, decide_eq_true_eq, decide_eq_false_iff_not, SI.val, SB.val, Num.eta, Iv.eta] at *); (have := ha.lo; have := ha.hi; have := hb.lo; have := hb.hi; have := ha.elo; have := ha.ehi; have := hb.elo; have := hb.ehi; first | omega | exact (show 0 < b.m by omega) | exact (show b.m < 18446744073709551616 by omega) | exact (show 0 ≤ IntKind.i64.wrap (a.e - b.e) by (simp only [wi64]; omega)) | exact (show IntKind.i64.wrap (a.e - b.e) < 9223372036854775808 by (simp only [wi64]; omega)) | exact (show 0 ≤ a.m by omega) | (subst_vars; exact lowerP_nn _ _ (by omega))))))
    | (apply E_callX hE (c_Add64 _ _ _ ?_ ?_ ?_ ?_); (case hf => rfl); (case hc => (cbv <;> trivial)); (case hle => exact u_up); all_goals (first | (intro t ht; cbv) | (subst hE; (try simp only [realE, cmp_eql, cmp_neq, cmp_lss, cmp_leq, cmp_gtr, cmp_geq, intBinR, decide_eq_true_eq, decide_eq_false_iff_not, SI.val, SB.val, Num.eta, Iv.eta] at *); (have := ha.lo; have := ha.hi; have := hb.lo; have := hb.hi; have := ha.elo; have := ha.ehi; have := hb.elo; have := hb.ehi; first | omega | exact (show 0 < b.m by omega) | exact (show b.m < 18446744073709551616 by omega) | exact (show 0 ≤ IntKind.i64.wrap (a.e - b.e) by (simp only [wi64]; omega)) | exact (show IntKind.i64.wrap (a.e - b.e) < 9223372036854775808 by (simp only [wi64]; omega)) | exact (show 0 ≤ a.m by omega) | (subst_vars; exact lowerP_nn _ _ (by omega))))))
    | (apply E_callX hE (c_Grow _ _ _ _ _); (case hf => rfl); (case hc => (cbv <;> trivial)); (case hle => exact u_up); intro t ht; cbv)
    | fail)
  all_goals (subst hE; subst hr)
  all_goals (try simp only [realE, cmp_eql, cmp_neq, cmp_lss, cmp_leq, cmp_gtr, cmp_geq, intBinR, decide_eq_true_eq, decide_eq_false_iff_not, SI.val, SB.val, Num.eta, Iv.eta] at *)
  all_goals (refine Num.fin (t := t) ?_)
  all_goals (subst_vars; dsimp only at *)
  all_goals (have hw : IntKind.i64.wrap (a.e - b.e) = a.e - b.e := by (have := ha.elo; have := ha.ehi; have := hb.elo; have := hb.ehi; rw [wi64]; omega))
  all_goals (simp only [hw] at *)
  all_goals (first | rw [plus_carry ha hb rfl ‹_›] | rw [plus_flat ha hb rfl ‹_›])
  all_goals (first | (simp [*]; done) | (simp [*]; rfl) | trace_state)

end Go.Proofs.YtpadpcjdakfokaaDoor.Ev

/- Contracts: differences. Printed by gen.py out of C15.spec. -/
namespace Go.Proofs.YtpadpcjdakfokaaDoor.Ev
open Go Go.Proofs
set_option linter.unusedVariables false
set_option linter.unusedSimpArgs false

set_option maxHeartbeats 4000000 in
theorem c_minus (a : Num) (b : Num) (up : Bool) (ha : a.Fin) (hb : b.Fin) (hk : b.e ≤ a.e) (hgt : b.e < a.e ∨ b.m < a.m) : ∃ t : Num, t = minusP a b up ∧ CallsA Tryd.prog 88 [a.av, b.av, .bool (.s up)] (t.av) := by
  refine ⟨_, rfl, ?_⟩
  generalize hr : minusP a b up = r
  refine callsA_of hG hm Tryd.func88 (by kernel_rfl) ?_
  intro E hE lp hl
  cbv
  repeat' (first
    | (apply E_br_t hE; assumption; cbv)
    | (apply E_br_f hE; assumption; cbv)
    | (refine E_br hE (fun h => ?_) (fun h => ?_) <;> cbv)
    | (refine E_nm hE (fun v hv => ?_); cbv)
    | (apply E_callX hE (c_lower _ _ ?_ ?_ ?_ ?_); (case hf => rfl); (case hc => (cbv <;> trivial)); (case hle => exact u_up); all_goals (first | (intro t ht; cbv) | (subst hE; (try simp only [realE, cmp_eql, cmp_neq, cmp_lss, cmp_leq, cmp_gtr, cmp_geq, intBinR, decide_eq_true_eq, decide_eq_false_iff_not, SI.val, SB.val, Num.eta, Iv.eta] at *); (have := ha.lo; have := ha.hi; have := hb.lo; have := hb.hi; have := ha.elo; have := ha.ehi; have := hb.elo; have := hb.ehi; first | omega | exact (show 0 < b.m by omega) | exact (show b.m < 18446744073709551616 by omega) | exact (show 0 ≤ IntKind.i64.wrap (a.e - b.e) by (simp only [wi64]; omega)) | exact (show IntKind.i64.wrap (a.e - b.e) < 9223372036854775808 by (simp only [wi64]; omega)) | exact (show 0 ≤ a.m by omega) | (subst_vars; first | exact lowerP_nn _ _ (by omega) | exact lowerP_lo _ _ | exact lowerP_lo2 _ _ | exact lowerP_hi2 _ _ (by omega) (by omega) | (dsimp only; first | exact Int.emod_nonneg _ (by decide) | exact Int.emod_lt_of_pos _ (by decide) | exact borrow_nn _ | exact borrow_le _))))))
    | (apply E_callX hE (c_Sub64 _ _ _ ?_ ?_ ?_ ?_ ?_); (case hf => rfl); (case hc => (cbv <;> trivial)); (case hle => exact u_up); all_goals (first | (intro t ht; cbv) | (subst hE; (try simp only [realE, cmp_eql, cmp_neq, cmp_lss, cmp_leq, cmp_gtr, cmp_geq, intBinR, decide_eq_true_eq, decide_eq_false_iff_not, SI.val, SB.val, Num.eta, Iv.eta] at *); (have := ha.lo; have := ha.hi; have := hb.lo; have := hb.hi; have := ha.elo; have := ha.ehi; have := hb.elo; have := hb.ehi; first | omega | exact (show 0 < b.m by omega) | exact (show b.m < 18446744073709551616 by omega) | exact (show 0 ≤ IntKind.i64.wrap (a.e - b.e) by (simp only [wi64]; omega)) | exact (show IntKind.i64.wrap (a.e - b.e) < 9223372036854775808 by (simp only [wi64]; omega)) | exact (show 0 ≤ a.m by omega) | (subst_vars; first | exact lowerP_nn _ _ (by omega) | exact lowerP_lo _ _ | exact lowerP_lo2 _ _ | exact lowerP_hi2 _ _ (by omega) (by omega) | (dsimp only; first | exact Int.emod_nonneg _ (by decide) | exact Int.emod_lt_of_pos _ (by decide) | exact borrow_nn _ | exact borrow_le _))))))
    | (apply E_callX hE (c_LZ64 _ ?_ ?_); (case hf => rfl); (case hc => (cbv <;> trivial)); (case hle => exact u_up); all_goals (first | (intro t ht; cbv) | (subst hE; (try simp only [realE, cmp_eql, cmp_neq, cmp_lss, cmp_leq, cmp_gtr, cmp_geq, intBinR, decide_eq_true_eq, decide_eq_false_iff_not, SI.val, SB.val, Num.eta, Iv.eta] at *); (have := ha.lo; have := ha.hi; have := hb.lo; have := hb.hi; have := ha.elo; have := ha.ehi; have := hb.elo; have := hb.ehi; first | omega | exact (show 0 < b.m by omega) | exact (show b.m < 18446744073709551616 by omega) | exact (show 0 ≤ IntKind.i64.wrap (a.e - b.e) by (simp only [wi64]; omega)) | exact (show IntKind.i64.wrap (a.e - b.e) < 9223372036854775808 by (simp only [wi64]; omega)) | exact (show 0 ≤ a.m by omega) | (subst_vars; first | exact lowerP_nn _ _ (by omega) | exact lowerP_lo _ _ | exact lowerP_lo2 _ _ | exact lowerP_hi2 _ _ (by omega) (by omega) | (dsimp only; first | exact Int.emod_nonneg _ (by decide) | exact Int.emod_lt_of_pos _ (by decide) | exact borrow_nn _ | exact borrow_le _))))))
    | (apply E_callX hE (c_Grow _ _ _ _ _); (case hf => rfl); (case hc => (cbv <;> trivial)); (case hle => exact u_up); intro t ht; cbv)
    | fail)
  all_goals (subst hE; subst hr)
  all_goals (try simp only [realE, cmp_eql, cmp_neq, cmp_lss, cmp_leq, cmp_gtr, cmp_geq, intBinR, decide_eq_true_eq, decide_eq_false_iff_not, SI.val, SB.val, Num.eta, Iv.eta] at *)
  all_goals (try refine Num.fin (t := t) ?_)
  all_goals (subst_vars; dsimp only at *)
  all_goals (have hw : IntKind.i64.wrap (a.e - b.e) = a.e - b.e := by (have := ha.elo; have := ha.ehi; have := hb.elo; have := hb.ehi; rw [wi64]; omega))
  all_goals (simp only [hw] at *)
  all_goals (first
    | (have P := minus_parts (D := lowerP b.m (a.e - b.e)) (c := 1) ha hb hk hgt rfl (by rw [if_pos ‹(lowerP b.m (a.e - b.e)).cut = true›]) rfl rfl rfl)
    | (have P := minus_parts (D := lowerP b.m (a.e - b.e)) (c := 0) ha hb hk hgt rfl (by rw [if_neg (by rw [‹(lowerP b.m (a.e - b.e)).cut = false›]; decide)]) rfl rfl rfl))
  all_goals (obtain ⟨z0, z1, ehi, elo, ecut⟩ := P; simp only [ehi, elo, ecut] at *; clear ehi elo)
  all_goals (have bn := blen_nonneg (minusZ a b % 18446744073709551616); have bn2 := blen_nonneg (minusZ a b / 18446744073709551616))
  all_goals (try (exfalso; (try simp only [wi64] at *); omega))
  all_goals (try (exfalso; exact Bool.noConfusion (‹plusC a b = true›.symm.trans ‹plusC a b = false›)))
  all_goals first
    | rw [minus_A_zero ha z0 (by omega) (by omega)]
    | rw [minus_B_zero ha z0 z1 (by omega) (by omega)]
    | rw [minus_B_pos ha z0 z1 (by omega) (by omega)]
    | rw [minus_A_pos ha z0 (by omega)]
  all_goals first
    | (rw [‹plusC a b = true›]; rfl)
    | (rw [‹plusC a b = false›]; rfl)
    | trace_state

end Go.Proofs.YtpadpcjdakfokaaDoor.Ev

/- Contracts: the sum of two numbers. Printed by gen.py out of C16.spec. -/
namespace Go.Proofs.YtpadpcjdakfokaaDoor.Ev
open Go Go.Proofs
set_option linter.unusedVariables false
set_option linter.unusedSimpArgs false

set_option maxHeartbeats 4000000 in
theorem c_arAdd (a : Num) (b : Num) (up : Bool) (ha : a.ok) (hb : b.ok) : ∃ t : Num, t = Num.add a b up ∧ CallsA Tryd.prog 53 [a.av, b.av, .bool (.s up)] (t.av) := by
  refine ⟨_, rfl, ?_⟩
  generalize hr : Num.add a b up = r
  refine callsA_of hG hm Tryd.func53 (by kernel_rfl) ?_
  intro E hE lp hl
  cbv
  repeat' (first
    | (apply E_br_t hE; assumption; cbv)
    | (apply E_br_f hE; assumption; cbv)
    | (refine E_br hE (fun h => ?_) (fun h => ?_) <;> cbv)
    | (refine E_nm hE (fun v hv => ?_); cbv)
    | (apply E_pcallX hE (c_arFair ⟨_, _, _, _⟩); (case hm => rfl); (case hle => exact u_up); intro t ht; cbv)
    | (apply E_callX hE (c_Inf _); (case hf => rfl); (case hc => (cbv <;> trivial)); (case hle => exact u_up); intro t ht; cbv)
    | (apply E_callX hE (c_plus ⟨_, _, _, _⟩ ⟨_, _, _, _⟩ _ ?_ ?_ ?_); (case hf => rfl); (case hc => (cbv <;> trivial)); (case hle => exact u_up); all_goals (first | (intro t ht; cbv) | (subst hE; (try simp only [realE, cmp_eql, cmp_neq, cmp_lss, cmp_leq, cmp_gtr, cmp_geq, intBinR, decide_eq_true_eq, decide_eq_false_iff_not, SI.val, SB.val, Num.eta, Iv.eta] at *); (subst_vars; have fa := Num.fin_of (n := a) ‹_› ‹_›; have fb := Num.fin_of (n := b) ‹_› ‹_›; have FA : a.fair.Fin := ⟨fa.1, fa.2.1, (Num.fair_ok ha).2, fa.2.2.1, fa.2.2.2⟩; have FB : b.fair.Fin := ⟨fb.1, fb.2.1, (Num.fair_ok hb).2, fb.2.2.1, fb.2.2.2⟩; first | exact FA | exact FB | exact (show b.fair.e ≤ a.fair.e by omega) | exact (show a.fair.e ≤ b.fair.e by omega) | exact (show b.fair.e < a.fair.e ∨ b.fair.m < a.fair.m by omega) | exact (show a.fair.e < b.fair.e ∨ a.fair.m < b.fair.m by omega)))))
    | (apply E_callX hE (c_minus ⟨_, _, _, _⟩ ⟨_, _, _, _⟩ _ ?_ ?_ ?_ ?_); (case hf => rfl); (case hc => (cbv <;> trivial)); (case hle => exact u_up); all_goals (first | (intro t ht; cbv) | (subst hE; (try simp only [realE, cmp_eql, cmp_neq, cmp_lss, cmp_leq, cmp_gtr, cmp_geq, intBinR, decide_eq_true_eq, decide_eq_false_iff_not, SI.val, SB.val, Num.eta, Iv.eta] at *); (subst_vars; have fa := Num.fin_of (n := a) ‹_› ‹_›; have fb := Num.fin_of (n := b) ‹_› ‹_›; have FA : a.fair.Fin := ⟨fa.1, fa.2.1, (Num.fair_ok ha).2, fa.2.2.1, fa.2.2.2⟩; have FB : b.fair.Fin := ⟨fb.1, fb.2.1, (Num.fair_ok hb).2, fb.2.2.1, fb.2.2.2⟩; first | exact FA | exact FB | exact (show b.fair.e ≤ a.fair.e by omega) | exact (show a.fair.e ≤ b.fair.e by omega) | exact (show b.fair.e < a.fair.e ∨ b.fair.m < a.fair.m by omega) | exact (show a.fair.e < b.fair.e ∨ a.fair.m < b.fair.m by omega)))))
    | fail)
  all_goals (subst hE; subst hr)
  all_goals (try simp only [realE, cmp_eql, cmp_neq, cmp_lss, cmp_leq, cmp_gtr, cmp_geq, intBinR, decide_eq_true_eq, decide_eq_false_iff_not, SI.val, SB.val, Num.eta, Iv.eta] at *)
  all_goals subst_vars
  all_goals (try (exfalso; omega))
  all_goals (refine Num.fin (t := ⟨_, _, _, _⟩) ?_)
  all_goals (unfold Num.add Num.addF Num.addS)
  all_goals ((repeat' split) <;> first | rfl | (exfalso; omega) | (exfalso; simp_all; done) | (exfalso; simp_all; omega))

end Go.Proofs.YtpadpcjdakfokaaDoor.Ev

/- Contracts: the sum of intervals. -/
namespace Go.Proofs.YtpadpcjdakfokaaDoor.Ev
open Go Go.Proofs
set_option linter.unusedVariables false
set_option linter.unusedSimpArgs false

def addS (l : List Iv) (n : Int) (z : Iv) : Option (Int × Num × Num) → St
  | none => ⟨[(12, .int .i64 (.s 0)), (11, .int .i64 (.s n)), (10, .slc 9 (.s n) (fun i => Iv.cells (l.getD i z))), (4, .ptr 2 4 (.l 0) 0), (3, .ptr 1 4 (.l 0) 0), (2, .ptr 0 9 (.l 0) 0)],
      [.rows true 9 [.bool (.l false), .int .i64 (.l 0), .bool (.l false), .int .u64 (.l 0), .int .i64 (.l 0), .int .i64 (.l 0), .bool (.l false), .int .u64 (.l 0), .int .i64 (.l 0)]
        [[.bool (.l false), .int .i64 (.l 0), .bool (.l false), .int .u64 (.l 0), .int .i64 (.l 0), .int .i64 (.l 0), .bool (.l false), .int .u64 (.l 0), .int .i64 (.l 0)]],
       .rows true 4 [.int .i64 (.l 0), .bool (.l false), .int .u64 (.l 0), .int .i64 (.l 0)] [[.int .i64 (.l 0), .bool (.l false), .int .u64 (.l 0), .int .i64 (.l 0)]],
       .rows true 4 [.int .i64 (.l 0), .bool (.l false), .int .u64 (.l 0), .int .i64 (.l 0)] [[.int .i64 (.l 0), .bool (.l false), .int .u64 (.l 0), .int .i64 (.l 0)]]]⟩
  | some p => ⟨[(12, .int .i64 (.s p.1)), (11, .int .i64 (.s n)), (10, .slc 9 (.s n) (fun i => Iv.cells (l.getD i z))), (4, .ptr 2 4 (.l 0) 0), (3, .ptr 1 4 (.l 0) 0), (2, .ptr 0 9 (.l 0) 0)],
      [.rows true 9 [.bool (.l false), .int .i64 (.l 0), .bool (.l false), .int .u64 (.l 0), .int .i64 (.l 0), .int .i64 (.l 0), .bool (.l false), .int .u64 (.l 0), .int .i64 (.l 0)]
        [[.bool (.l false), .int .i64 (.l 0), .bool (.l false), .int .u64 (.l 0), .int .i64 (.l 0), .int .i64 (.l 0), .bool (.l false), .int .u64 (.l 0), .int .i64 (.l 0)]],
       .rows true 4 [.int .i64 (.l 0), .bool (.l false), .int .u64 (.l 0), .int .i64 (.l 0)] [Num.cells p.2.1],
       .rows true 4 [.int .i64 (.l 0), .bool (.l false), .int .u64 (.l 0), .int .i64 (.l 0)] [Num.cells p.2.2]]⟩
set_option maxHeartbeats 4000000 in
theorem c_opAdd (l : List Iv) (n : Int) (hn : n = l.length) (hb : n < 9223372036854775808) (hok : ∀ x ∈ l, x.lo.ok ∧ x.hi.ok) :
    ∃ t, t = Iv.add l ∧ CallsA Tryd.prog 19 [.slc 9 (.s n) (fun i => Iv.cells (l.getD i Iv.none))] t.av := by
  refine ⟨_, rfl, ?_⟩
  generalize hr : Iv.add l = r
  refine callsA_of hG hm Tryd.func19 (by kernel_rfl) ?_
  intro E hE lp hl
  cbv
  (apply E_callX hE (c_none l n hn hb); (case hf => rfl); (case hc => (cbv <;> trivial)); (case hle => exact ⟨u2_slc', trivial⟩); intro t ht; cbv)
  refine E_br hE (fun h => ?_) (fun h => ?_)
  · cbv
    (apply E_callX hE c_ivNone; (case hf => rfl); (case hc => (cbv <;> trivial)); (case hle => exact trivial); intro t' ht'; cbv)
    have e : t' = r := by rw [← hr, ht']; unfold Iv.add; rw [if_pos (by rw [← ht]; exact h)]
    subst e
    exact ⟨rfl, rfl, rfl, rfl, rfl, rfl, rfl, rfl, rfl, trivial⟩
  have hbad : Iv.anyBad l = false := by rw [← ht]; exact h
  obtain ⟨z, hz⟩ : ∃ z, z = Iv.none := ⟨_, rfl⟩
  rw [← hz]
  cbv
  refine E_loopW hE hG hm hl (ι := Option (Int × Num × Num)) (addS l n z)
    (fun p => match p with | none => n.toNat + 1 | some p => (n - p.1).toNat) (fun p => match p with | none => True | some p => 1 ≤ p.1 ∧ p.1 ≤ n ∧ p.2 = Iv.addTo l p.1) (fun p => by cases p <;> rfl) ⟨none, trivial, stLe rfl ?_⟩ ?_
  · repeat' (first | exact t_nil | apply t_cons | exact u2_int | exact u2_ptr | exact u2_slc')
  rintro (_ | ⟨i, lo, hi⟩) hp
  · clear hp
    cbv
    repeat' (first
      | (apply E_br_t hE; assumption; cbv)
      | (apply E_br_f hE; assumption; cbv)
      | (refine E_br hE (fun h => ?_) (fun h => ?_) <;> cbv)
      | (refine E_nm hE (fun v hv => ?_); cbv)
      | (refine E_row hE (cell := Iv.cells) (fun x ex => ?_); cbv)
      | (apply E_callX hE (c_ivMake ⟨_, _, _, _⟩ ⟨_, _, _, _⟩); (case hf => rfl); (case hc => (cbv <;> trivial)); (case hle => exact u_up); intro t ht; cbv)
      | fail)
    all_goals (try refine ⟨some (E.bin .add .i64 0 1, x.lo, x.hi), ?_, ⟨?_, ?_, ?_⟩, stLeW rfl ⟨rfl, rfl, rfl, trivial⟩ ?_⟩)
    all_goals (try (refine w_cons ?_ rfl ?_; (repeat' (first | exact w_nil | refine w_cons ?_ rfl ?_ | exact u2_int | exact u2_ptr | exact u2_slc')); done))
    all_goals (try (exfalso; subst hE; simp only [realE, cmp_lss, cmp_leq, cmp_eql, intBinR, decide_eq_true_eq, decide_eq_false_iff_not, SI.val, SB.val, Num.eta, Iv.eta] at h; omega))
    all_goals (subst hE; simp only [realE, cmp_lss, cmp_leq, cmp_eql, intBinR, decide_eq_true_eq, decide_eq_false_iff_not, SI.val, SB.val, Num.eta, Iv.eta] at *)
    all_goals (replace hn : n = (l.length : Int) := hn)
    case none.refine_2.hK =>
      have hl : l = [] := List.length_eq_zero_iff.1 (by omega)
      have e : t = r := by
        rw [← hr, ht]; unfold Iv.add
        rw [if_neg (by rw [hbad]; decide), hl]; rfl
      subst e
      exact ⟨rfl, rfl, rfl, rfl, rfl, rfl, rfl, rfl, rfl, trivial⟩
    all_goals (rw [show IntKind.i64.wrap (0 + 1) = 1 by decide])
    · omega
    · decide
    · omega
    · rw [show (1 : Int) = 0 + 1 by rfl, Iv.addTo_succ l (by omega) (by omega), if_pos rfl, ← hz, ← ex]
  · obtain ⟨h1, h2, h3⟩ := hp
    dsimp only at h1 h2 h3
    replace hn : n = (l.length : Int) := hn
    have hx : ∀ x, i < n → x = l.getD i.toNat z → x.lo.ok ∧ x.hi.ok := by
      intro x hi e
      have hl : i.toNat < l.length := by omega
      rw [e]
      have : l.getD i.toNat z = l[i.toNat] := by simp [List.getD, List.getElem?_eq_getElem hl]
      rw [this]
      exact hok _ (List.getElem_mem hl)
    have hlh : lo.ok ∧ hi.ok := by
      have := Iv.addEnds_ok (l := l.take i.toNat) (fun y hy => hok y (List.mem_of_mem_take hy))
      rw [show Iv.addEnds (l.take i.toNat) = (lo, hi) from h3.symm] at this
      exact this
    have hlt : E.cmp .lss i n = true → i < n := by intro h; subst hE; simpa only [realE, cmp_lss, decide_eq_true_eq] using h
    cbv
    repeat' (first
      | (apply E_br_t hE; assumption; cbv)
      | (apply E_br_f hE; assumption; cbv)
      | (refine E_br hE (fun h => ?_) (fun h => ?_) <;> cbv)
      | (refine E_nm hE (fun v hv => ?_); cbv)
      | (refine E_row hE (cell := Iv.cells) (fun x ex => ?_); cbv)
      | (apply E_pcallX hE (c_arAdd ⟨_, _, _, _⟩ ⟨_, _, _, _⟩ _ ?_ ?_); (case hm => rfl); (case hle => exact u_up); all_goals (first | (intro t ht; cbv) | exact hlh.1 | exact hlh.2 | (have q := hx _ (hlt ‹E.cmp .lss i n = true›) ‹_ = l.getD i.toNat z›; first | exact q.1 | exact q.2)))
      | (apply E_callX hE (c_ivMake ⟨_, _, _, _⟩ ⟨_, _, _, _⟩); (case hf => rfl); (case hc => (cbv <;> trivial)); (case hle => exact u_up); intro t ht; cbv)
      | fail)
    clear hlt
    all_goals (try (exfalso; subst hE; simp only [realE, cmp_lss, cmp_leq, cmp_eql, intBinR, decide_eq_true_eq, decide_eq_false_iff_not, SI.val, SB.val, Num.eta, Iv.eta] at h; omega))
    all_goals (try refine ⟨some (E.bin .add .i64 i 1, _, _), ?_, ⟨?_, ?_, ?_⟩, stLeW rfl ⟨rfl, rfl, rfl, trivial⟩ ?_⟩)
    all_goals (try (refine w_cons ?_ rfl ?_; (repeat' (first | exact w_nil | refine w_cons ?_ rfl ?_ | exact u2_int | exact u2_ptr | exact u2_slc')); done))
    all_goals (subst hE; simp only [realE, cmp_lss, cmp_leq, cmp_eql, intBinR, decide_eq_true_eq, decide_eq_false_iff_not, SI.val, SB.val, Num.eta, Iv.eta] at *)
    all_goals (replace hn : n = (l.length : Int) := hn)
    case some.refine_2.hK =>
      have hi' : i = (l.length : Int) := by omega
      have e : t = r := by
        rw [← hr, ht]; unfold Iv.add
        rw [if_neg (by rw [hbad]; decide), ← Iv.addTo_all, ← hi', ← h3]
      subst e
      exact ⟨rfl, rfl, rfl, rfl, rfl, rfl, rfl, rfl, rfl, trivial⟩
    all_goals (rw [wi64_succ (by omega) ‹i < n› hb])
    · omega
    · omega
    · omega
    · rw [Iv.addTo_succ l (by omega) (by omega), if_neg (by omega), ← h3, ← hz, ← ex]
      exact Prod.ext ‹_ = lo.add x.lo false› ht
end Go.Proofs.YtpadpcjdakfokaaDoor.Ev

/- Contracts: the difference of intervals. Printed by gen.py out of C18.spec. -/
namespace Go.Proofs.YtpadpcjdakfokaaDoor.Ev
open Go Go.Proofs
set_option linter.unusedVariables false
set_option linter.unusedSimpArgs false
def Iv.sub (a b : Iv) : Iv := Iv.add [a, Iv.neg b]
theorem slcG2 {a b z : Iv} : sle2 (.slc 9 (.l 2) (fun i => getRow [a.cells, b.cells] (Int.ofNat i))) (.slc 9 (.s 2) (fun i => Iv.cells ([a, b].getD i z))) := by
  refine ⟨rfl, rfl, fun i hi => ?_⟩
  match i, hi with
  | 0, _ => exact iv_cells_self
  | 1, _ => exact iv_cells_self
  | i + 2, hi => exact absurd hi (by simp [SI.val])

theorem c_opSub (a : Iv) (b : Iv) (h1 : a.lo.ok) (h2 : a.hi.ok) (h3 : b.lo.ok) (h4 : b.hi.ok) : ∃ t : Iv, t = Iv.sub a b ∧ CallsA Tryd.prog 21 [a.av, b.av] (t.av) := by
  refine ⟨_, rfl, ?_⟩
  generalize hr : Iv.sub a b = r
  refine callsA_of hG hm Tryd.func21 (by kernel_rfl) ?_
  intro E hE lp hl
  cbv
  repeat' (first
    | (refine E_br hE (fun h => ?_) (fun h => ?_) <;> cbv)
    | (refine E_nm hE (fun v hv => ?_); cbv)
    | (apply E_pcallX hE (c_opAdd [a, ⟨_, ⟨_, _, _, _⟩, ⟨_, _, _, _⟩⟩] 2 rfl (by decide) ?_); (case hm => rfl); (case hle => exact ⟨slcG2, trivial⟩); all_goals (first | (subst_vars; intro x hx; simp only [List.mem_cons, List.not_mem_nil, or_false] at hx; rcases hx with rfl | rfl <;> first | exact ⟨h1, h2⟩ | exact Iv.neg_ok h3 h4) | (intro t ht; cbv)))
    | (apply E_pcallX hE (c_opNeg ⟨_, ⟨_, _, _, _⟩, ⟨_, _, _, _⟩⟩); (case hm => rfl); (case hle => exact u_up); intro t ht; cbv)
    | fail)
  all_goals (subst hE; subst hr)
  all_goals (try simp only [realE, cmp_eql, cmp_neq, cmp_lss, cmp_leq, cmp_gtr, cmp_geq, intBinR, decide_eq_true_eq, decide_eq_false_iff_not, SI.val, SB.val, Num.eta, Iv.eta] at *)
  all_goals (try refine Iv.fin (t := ⟨_, ⟨_, _, _, _⟩, ⟨_, _, _, _⟩⟩) ?_)
  all_goals (change t = _; subst_vars; rfl)

end Go.Proofs.YtpadpcjdakfokaaDoor.Ev

/- Contracts: the ends of some intervals. -/
namespace Go.Proofs.YtpadpcjdakfokaaDoor.Ev
open Go Go.Proofs
set_option linter.unusedVariables false
set_option linter.unusedSimpArgs false

end Go.Proofs.YtpadpcjdakfokaaDoor.Ev

/- Contracts: what intervals have together, and their hull. -/
namespace Go.Proofs.YtpadpcjdakfokaaDoor.Ev
open Go Go.Proofs
set_option linter.unusedVariables false
set_option linter.unusedSimpArgs false

end Go.Proofs.YtpadpcjdakfokaaDoor.Ev

/- Contracts that tell besides that a result's bits are 64. -/
namespace Go.Proofs.YtpadpcjdakfokaaDoor.Ev
open Go Go.Proofs
set_option linter.unusedVariables false
set_option linter.unusedSimpArgs false
def Iv.ok (x : Iv) : Prop := x.lo.ok ∧ x.hi.ok
theorem Iv.none_ok : Iv.none.ok := ⟨Num.zero_ok, Num.zero_ok⟩
theorem Iv.fair_ok {x : Iv} (h : x.ok) : x.fair.ok := by
  unfold Iv.fair
  split
  · exact h
  · exact Iv.none_ok
theorem Iv.add_ok {l : List Iv} (h : ∀ x ∈ l, x.ok) : (Iv.add l).ok := by
  unfold Iv.add
  split
  · exact Iv.none_ok
  · have := Iv.addEnds_ok h
    exact Iv.make_ok this.1 this.2
theorem Iv.sqr_ok {a : Iv} (h : a.ok) : (Iv.sqr a).ok := by
  have h1 := Iv.abs_ok h.1 h.2
  unfold Iv.sqr
  split
  · exact h1
  · exact Iv.make_ok (Num.mul_ok h1.1 h1.1 _) (Num.mul_ok h1.2 h1.2 _)

end Go.Proofs.YtpadpcjdakfokaaDoor.Ev

/- Contracts: the root of an interval. Printed by gen.py out of C23.spec. -/
namespace Go.Proofs.YtpadpcjdakfokaaDoor.Ev
open Go Go.Proofs
set_option linter.unusedVariables false
set_option linter.unusedSimpArgs false
def Iv.positive : Iv := Iv.make Num.zero (Num.inf false)
def Iv.root (a : Iv) : Iv := if (Iv.meet [a, Iv.positive]).empty then Iv.meet [a, Iv.positive] else Iv.make (Num.root (Iv.meet [a, Iv.positive]).lo false).1 (Num.root (Iv.meet [a, Iv.positive]).hi true).1
end Go.Proofs.YtpadpcjdakfokaaDoor.Ev

/- The root of a number: plain Lean. -/
namespace Go.Proofs.YtpadpcjdakfokaaDoor.Ev
open Go

end Go.Proofs.YtpadpcjdakfokaaDoor.Ev

/- The root of a number to either side: sound, and the best. Plain Lean. -/
namespace Go.Proofs.YtpadpcjdakfokaaDoor.Ev
open Go

end Go.Proofs.YtpadpcjdakfokaaDoor.Ev

/- How far from nought an interval is lies within the root of its square: plain Lean. -/
namespace Go.Proofs.YtpadpcjdakfokaaDoor.Ev
open Go

theorem Num.nn_cases {x : Num} (m : x.may = true) (o : x.ok) (h : 0 ≤ x.val) : x = Num.zero ∨ (x.Fin ∧ x.neg = false) ∨ x = Num.inf false := by
  rcases Num.may3 m o with k | k | k
  · exact .inl k
  · refine .inr (.inl ⟨k, ?_⟩)
    cases hn : x.neg with
    | false => rfl
    | true => exfalso; have := k.lt; unfold Num.val at h; rw [hn] at h; simp at h; omega
  · refine .inr (.inr ?_)
    have p := pw_pos 1048640
    rw [k] at h ⊢
    rw [Num.val_inf] at h
    cases hn : x.neg with
    | false => rfl
    | true => exfalso; rw [hn] at h; simp at h; omega

end Go.Proofs.YtpadpcjdakfokaaDoor.Ev

/- Sums grow with their operands: plain Lean. -/
namespace Go.Proofs.YtpadpcjdakfokaaDoor.Ev
open Go

theorem Num.add_may {a b : Num} (oa : a.ok) (ob : b.ok) (up : Bool) : (Num.add a b up).may = true := by
  by_cases ka : a.fair.kind = 2
  · rw [Num.add_inf up ka]; split
    · exact Num.inf_may _
    · exact a.fair_may
  · by_cases kb : b.fair.kind = 2
    · rw [Num.add_inf2 oa ob up kb]; split
      · exact Num.inf_may _
      · exact b.fair_may
    · exact (add_best oa ob ka kb up).may
/-- a number is finite, or one of the two others -/
theorem Num.three {a : Num} (oa : a.ok) : (a.fair.kind ≠ 2 ∧ -pw 1048640 < a.fair.val ∧ a.fair.val < pw 1048640) ∨ (a.fair = Num.inf false) ∨ (a.fair = Num.inf true) := by
  by_cases k : a.fair.kind = 2
  · have e := Num.fair_inf oa k
    cases h : a.fair.neg with
    | false => rw [h] at e; exact .inr (.inl e)
    | true => rw [h] at e; exact .inr (.inr e)
  · exact .inl ⟨k, (Num.fin_val a.fair_may (Num.fair_ok oa)).1 k⟩
end Go.Proofs.YtpadpcjdakfokaaDoor.Ev

/- Sums and products grow with their operands: what they rest on. -/

/- Products grow with their operands: plain Lean. -/
namespace Go.Proofs.YtpadpcjdakfokaaDoor.Ev
open Go

theorem Num.mul_opp_l {a b : Num} (oa : a.ok) (ob : b.ok) (up : Bool) : Num.mul a.opp b (!up) = (Num.mul a b up).opp := by
  by_cases h : a.fair.kind = 2 ∨ b.fair.kind = 2
  · rw [Num.mul_inf up h, Num.mul_inf (!up) (by rw [Num.opp_fair, Num.opp_kind]; exact h), Num.opp_fair, Num.opp_kind]
    by_cases h0 : a.fair.kind = 0 ∨ b.fair.kind = 0
    · rw [if_pos h0, if_pos h0]; decide
    · rw [if_neg h0, if_neg h0, Num.opp_neg (fun e => h0 (.inl e)), Num.opp_inf]
      congr 1
      cases a.fair.neg <;> cases b.fair.neg <;> rfl
  · have ka : a.fair.kind ≠ 2 := fun e => h (.inl e)
    have kb : b.fair.kind ≠ 2 := fun e => h (.inr e)
    refine (mul_best (Num.opp_ok oa) ob (by rw [Num.opp_fair, Num.opp_kind]; exact ka) kb (!up)).uniq (mul_best oa ob ka kb up).opp (pw_pos 0) (pw_pos 0) ?_
    rw [Num.opp_fair, Num.opp_val, Int.neg_mul]

theorem Num.mul_zero_l {a b : Num} (up : Bool) (h : a.fair.kind = 0) : Num.mul a b up = Num.zero := by unfold Num.mul; rw [if_pos (.inl h)]
theorem Num.pos_kind {a : Num} (oa : a.ok) (h : 0 < a.fair.val) : a.fair.kind ≠ 0 ∧ a.fair.neg = false := by
  rcases Num.nn_cases a.fair_may (Num.fair_ok oa) (by omega) with e | ⟨e, n⟩ | e
  · rw [e, Num.val_zero] at h; omega
  · exact ⟨by rw [e.kind]; decide, n⟩
  · rw [e]; exact ⟨by decide, rfl⟩
/-- A product with one above nought grows with the other. -/
theorem Num.mul_mono_pos {x y z : Num} (ox : x.ok) (oy : y.ok) (oz : z.ok) (hx : 0 < x.fair.val) (h : y.fair.val ≤ z.fair.val) (up : Bool) : (Num.mul x y up).val ≤ (Num.mul x z up).val := by
  have p := pw_pos 1048640
  have bz := (Num.val_le (Num.mul_may ox oz up) (Num.mul_ok ox oz up)).1
  have by_ := (Num.val_le (Num.mul_may ox oy up) (Num.mul_ok ox oy up)).2
  have vt : (Num.inf false).val = pw 1048640 := rfl
  have vb : (Num.inf true).val = -pw 1048640 := rfl
  obtain ⟨k0, nx⟩ := Num.pos_kind ox hx
  have it : ∀ w : Num, w.fair = Num.inf false → Num.mul x w up = Num.inf false := by
    intro w e; rw [Num.mul_inf up (.inr (by rw [e]; rfl)), e, nx, if_neg (by rintro (k | k); exact k0 k; exact absurd k (by decide))]; rfl
  have ib : ∀ w : Num, w.fair = Num.inf true → Num.mul x w up = Num.inf true := by
    intro w e; rw [Num.mul_inf up (.inr (by rw [e]; rfl)), e, nx, if_neg (by rintro (k | k); exact k0 k; exact absurd k (by decide))]; rfl
  rcases Num.three oy with ⟨k1, l1, u1⟩ | e1 | e1
  · rcases Num.three oz with ⟨k2, l2, u2⟩ | e2 | e2
    · by_cases kx : x.fair.kind = 2
      · have fx := Num.fair_inf ox kx
        rw [nx] at fx
        have f : ∀ w : Num, w.ok → Num.mul x w up = if w.fair.kind = 0 then Num.zero else Num.inf w.fair.neg := by
          intro w _
          rw [Num.mul_inf up (.inl kx), nx]
          by_cases kw : w.fair.kind = 0
          · rw [if_pos (.inr kw), if_pos kw]
          · rw [if_neg (by rintro (k | k); exact k0 k; exact kw k), if_neg kw]; cases w.fair.neg <;> rfl
        rw [f y oy, f z oz]
        have g : ∀ w : Num, w.ok → ((if w.fair.kind = 0 then Num.zero else Num.inf w.fair.neg).val = 0 ∧ w.fair.val = 0) ∨ ((if w.fair.kind = 0 then Num.zero else Num.inf w.fair.neg).val = pw 1048640 ∧ 0 < w.fair.val) ∨
            ((if w.fair.kind = 0 then Num.zero else Num.inf w.fair.neg).val = -pw 1048640 ∧ w.fair.val < 0) := by
          intro w ow
          rcases Num.sign_of w.fair_may (Num.fair_ok ow) with s | s | s
          · refine .inl ⟨?_, s.2.1⟩
            rw [if_pos (by rw [s.2.2.2]; rfl)]; rfl
          · refine .inr (.inl ⟨?_, by have := s.2.2.1; omega⟩)
            rw [if_neg s.2.2.2.2, s.2.2.2.1]; rfl
          · refine .inr (.inr ⟨?_, by have := s.2.2.1; omega⟩)
            rw [if_neg s.2.2.2.2, s.2.2.2.1]; rfl
        have gy := g y oy
        have gz := g z oz
        omega
      · refine (mul_best ox oy kx k1 up).mono (mul_best ox oz kx k2 up) (pw_pos 0) (pw_pos 0) ?_
        exact Int.mul_le_mul_of_nonneg_right (Int.mul_le_mul_of_nonneg_left h (by omega)) (Int.le_of_lt (pw_pos 0))
    · rw [it z e2, vt]; exact by_
    · exfalso; rw [e2, vb] at h; omega
  · have ez : z.fair = Num.inf false := by
      rcases Num.three oz with ⟨k2, l2, u2⟩ | e2 | e2
      · exfalso; rw [e1, vt] at h; omega
      · exact e2
      · exfalso; rw [e1, e2, vt, vb] at h; omega
    rw [it z ez, vt]; exact by_
  · rw [ib y e1, vb]; exact bz
theorem Num.mul_mono_neg {x y z : Num} (ox : x.ok) (oy : y.ok) (oz : z.ok) (hx : x.fair.val < 0) (h : y.fair.val ≤ z.fair.val) (up : Bool) : (Num.mul x z up).val ≤ (Num.mul x y up).val := by
  have e : ∀ w : Num, w.ok → (Num.mul x w up).val = -(Num.mul x.opp w (!up)).val := by
    intro w ow
    rw [Num.mul_opp_l ox ow, Num.opp_val, Num.may_fair (Num.mul_may ox ow up)]; omega
  rw [e y oy, e z oz]
  have := Num.mul_mono_pos (Num.opp_ok ox) oy oz (by rw [Num.opp_fair, Num.opp_val]; omega) h (!up)
  omega
end Go.Proofs.YtpadpcjdakfokaaDoor.Ev

/- Quotients grow with what is divided, and shrink with the divisor: plain Lean. -/
namespace Go.Proofs.YtpadpcjdakfokaaDoor.Ev
open Go

theorem Num.div_inf_r {a b : Num} (up : Bool) (h : b.fair.kind = 2) : Num.div a b up = Num.zero := by
  unfold Num.div
  rw [if_neg (by rw [h]; decide), if_pos (.inr h)]
theorem Num.div_inf_l {a b : Num} (up : Bool) (ha : a.fair.kind = 2) (h0 : b.fair.kind ≠ 0) (h2 : b.fair.kind ≠ 2) : Num.div a b up = Num.inf (a.fair.neg != b.fair.neg) := by
  unfold Num.div
  rw [if_neg h0, if_neg (by rintro (k | k); (rw [ha] at k; exact absurd k (by decide)); exact h2 k), if_pos ha]
theorem Num.kind1 {a : Num} (oa : a.ok) (h0 : a.fair.kind ≠ 0) (h2 : a.fair.kind ≠ 2) : a.fair.kind = 1 := (Num.fair_fin oa h0 h2).kind

theorem Num.div_may {a b : Num} (oa : a.ok) (ob : b.ok) (up : Bool) : (Num.div a b up).may = true := by
  by_cases h0 : b.fair.kind = 0
  · unfold Num.div; rw [if_pos h0]; exact Num.inf_may _
  · by_cases h2 : b.fair.kind = 2
    · rw [Num.div_inf_r up h2]; exact Num.zero_may
    · by_cases ha : a.fair.kind = 2
      · rw [Num.div_inf_l up ha h0 h2]; exact Num.inf_may _
      · exact (div_best oa ob ha (Num.kind1 ob h0 h2) up).may

end Go.Proofs.YtpadpcjdakfokaaDoor.Ev

/- Sums and products of parts are parts: plain Lean. -/
namespace Go.Proofs.YtpadpcjdakfokaaDoor.Ev
open Go

/-- a is a part of c -/
structure Iv.Part (a c : Iv) : Prop where
  ra : a.Real
  rc : c.Real
  lo : c.lo.val ≤ a.lo.val
  hi : a.hi.val ≤ c.hi.val
theorem Iv.fair_empty (a : Iv) : a.fair.empty = a.bad := by
  unfold Iv.fair Iv.bad
  cases h : a.may <;> simp [Iv.none]
theorem Iv.within_part {a c : Iv} (ha : a.lo.ok ∧ a.hi.ok) (hc : c.lo.ok ∧ c.hi.ok) (h : a.within c = true) : a.bad = true ∨ Iv.Part a c := by
  cases hb : a.bad with
  | true => exact .inl rfl
  | false =>
    right
    have ra := Iv.real_of_good hb ha.1 ha.2
    unfold Iv.within at h
    rw [Iv.fair_empty, Iv.fair_empty, hb] at h
    simp only [Bool.false_or, Bool.and_eq_true, decide_eq_true_eq, Bool.not_eq_true'] at h
    obtain ⟨⟨h1, h2⟩, h3⟩ := h
    have rc := Iv.real_of_good h1 hc.1 hc.2
    rw [ra.fair, rc.fair] at h2 h3
    have e1 := (Num.cmp_le hc.1 ha.1).1 h2
    have e2 := (Num.cmp_le ha.2 hc.2).1 h3
    rw [Num.may_fair rc.lom, Num.may_fair ra.lom] at e1
    rw [Num.may_fair ra.him, Num.may_fair rc.him] at e2
    exact ⟨ra, rc, e1, e2⟩
theorem Iv.Part.lo' {a c : Iv} (P : Iv.Part a c) : c.lo.fair.val ≤ a.lo.fair.val := by rw [Num.may_fair P.rc.lom, Num.may_fair P.ra.lom]; exact P.lo
theorem Iv.Part.hi' {a c : Iv} (P : Iv.Part a c) : a.hi.fair.val ≤ c.hi.fair.val := by rw [Num.may_fair P.rc.him, Num.may_fair P.ra.him]; exact P.hi
theorem Iv.Part.within {a c : Iv} (P : Iv.Part a c) : a.within c = true := Iv.real_within P.ra P.rc P.lo P.hi

theorem Iv.Part.neg {a c : Iv} (P : Iv.Part a c) : Iv.Part (Iv.neg a) (Iv.neg c) := by
  rw [Iv.neg_real P.ra, Iv.neg_real P.rc]
  refine ⟨P.ra.neg, P.rc.neg, ?_, ?_⟩
  · show c.hi.opp.val ≤ a.hi.opp.val
    rw [Num.opp_val, Num.opp_val]; have := P.hi'; omega
  · show a.lo.opp.val ≤ c.lo.opp.val
    rw [Num.opp_val, Num.opp_val]; have := P.lo'; omega
theorem Num.least_le {l l' : List Num} (h : ∀ x ∈ l, x.ok) (h' : ∀ x ∈ l', x.ok) (H : ∀ x ∈ l', ∃ s ∈ l, s.fair.val ≤ x.fair.val) : (Num.least l).val ≤ (Num.least l').val := by
  have a := Num.least_spec l h
  have b := Num.least_spec l' h'
  rcases b.2.2.2 with e | ⟨x, hx, e⟩
  · rw [e, Num.val_inf]; have := (Num.val_le a.1 a.2.1).2; simpa using this
  · obtain ⟨s, hs, k⟩ := H x hx
    have := a.2.2.1 s hs
    rw [e]; omega
theorem Num.most_le {l l' : List Num} (h : ∀ x ∈ l, x.ok) (h' : ∀ x ∈ l', x.ok) (H : ∀ x ∈ l, ∃ s ∈ l', x.fair.val ≤ s.fair.val) : (Num.most l).val ≤ (Num.most l').val := by
  have a := Num.most_spec l h
  have b := Num.most_spec l' h'
  rcases a.2.2.2 with e | ⟨x, hx, e⟩
  · rw [e, Num.val_inf]; have := (Num.val_le b.1 b.2.1).1; simpa using this
  · obtain ⟨s, hs, k⟩ := H x hx
    have := b.2.2.1 s hs
    rw [e]; omega
/-- the corners of a and b -/
theorem corner_mem {F : Num → Num → Bool → Num} {a b : Iv} {up : Bool} {z : Num} : z ∈ [F a.lo b.lo up, F a.lo b.hi up, F a.hi b.lo up, F a.hi b.hi up] ↔
    ∃ u v, (u = a.lo ∨ u = a.hi) ∧ (v = b.lo ∨ v = b.hi) ∧ z = F u v up := by
  simp only [List.mem_cons, List.not_mem_nil, or_false]
  constructor
  · rintro (h | h | h | h)
    · exact ⟨_, _, .inl rfl, .inl rfl, h⟩
    · exact ⟨_, _, .inl rfl, .inr rfl, h⟩
    · exact ⟨_, _, .inr rfl, .inl rfl, h⟩
    · exact ⟨_, _, .inr rfl, .inr rfl, h⟩
  · rintro ⟨u, v, rfl | rfl, rfl | rfl, rfl⟩
    · exact .inl rfl
    · exact .inr (.inl rfl)
    · exact .inr (.inr (.inl rfl))
    · exact .inr (.inr (.inr rfl))
structure Fine (F : Num → Num → Bool → Num) : Prop where
  ok : ∀ {x y : Num}, x.ok → y.ok → ∀ up, (F x y up).ok
  may : ∀ {x y : Num}, x.ok → y.ok → ∀ up, (F x y up).may = true
theorem end_ok {a : Iv} (r : a.Real) {x : Num} (h : x = a.lo ∨ x = a.hi) : x.ok := by
  rcases h with rfl | rfl
  · exact r.loo
  · exact r.hio
theorem corner_ok {F : Num → Num → Bool → Num} (hF : Fine F) {a b : Iv} (ra : a.Real) (rb : b.Real) (up : Bool) : ∀ z ∈ [F a.lo b.lo up, F a.lo b.hi up, F a.hi b.lo up, F a.hi b.hi up], z.ok := by
  intro z hz
  obtain ⟨u, v, hu, hv, rfl⟩ := corner_mem.1 hz
  exact hF.ok (end_ok ra hu) (end_ok rb hv) up
theorem Iv.corners_within {F : Num → Num → Bool → Num} (hF : Fine F) {a b c d : Iv} (ra : a.Real) (rb : b.Real) (rc : c.Real) (rd : d.Real)
    (L : ∀ x y, (x = a.lo ∨ x = a.hi) → (y = b.lo ∨ y = b.hi) → ∃ u v, (u = c.lo ∨ u = c.hi) ∧ (v = d.lo ∨ v = d.hi) ∧ (F u v false).val ≤ (F x y false).val)
    (U : ∀ x y, (x = a.lo ∨ x = a.hi) → (y = b.lo ∨ y = b.hi) → ∃ u v, (u = c.lo ∨ u = c.hi) ∧ (v = d.lo ∨ v = d.hi) ∧ (F x y true).val ≤ (F u v true).val) :
    (Iv.corners F a b).within (Iv.corners F c d) = true := by
  have l1 := Num.least_spec _ (corner_ok hF ra rb false)
  have l2 := Num.least_spec _ (corner_ok hF rc rd false)
  have m1 := Num.most_spec _ (corner_ok hF ra rb true)
  have m2 := Num.most_spec _ (corner_ok hF rc rd true)
  unfold Iv.corners
  refine Iv.make_within l1.2.1 m1.2.1 l2.2.1 m2.2.1 ?_ ?_
  · rw [Num.may_fair l1.1, Num.may_fair l2.1]
    refine Num.least_le (corner_ok hF rc rd false) (corner_ok hF ra rb false) (fun z hz => ?_)
    obtain ⟨x, y, hx, hy, rfl⟩ := corner_mem.1 hz
    obtain ⟨u, v, hu, hv, k⟩ := L x y hx hy
    refine ⟨F u v false, corner_mem.2 ⟨u, v, hu, hv, rfl⟩, ?_⟩
    rw [Num.may_fair (hF.may (end_ok rc hu) (end_ok rd hv) _), Num.may_fair (hF.may (end_ok ra hx) (end_ok rb hy) _)]
    exact k
  · rw [Num.may_fair m1.1, Num.may_fair m2.1]
    refine Num.most_le (corner_ok hF ra rb true) (corner_ok hF rc rd true) (fun z hz => ?_)
    obtain ⟨x, y, hx, hy, rfl⟩ := corner_mem.1 hz
    obtain ⟨u, v, hu, hv, k⟩ := U x y hx hy
    refine ⟨F u v true, corner_mem.2 ⟨u, v, hu, hv, rfl⟩, ?_⟩
    rw [Num.may_fair (hF.may (end_ok rc hu) (end_ok rd hv) _), Num.may_fair (hF.may (end_ok ra hx) (end_ok rb hy) _)]
    exact k
/-- the ends of a part lie between the ends of the whole -/
theorem Iv.Part.ends {a c : Iv} (P : Iv.Part a c) {x : Num} (h : x = a.lo ∨ x = a.hi) : x.ok ∧ x.may = true ∧ c.lo.fair.val ≤ x.fair.val ∧ x.fair.val ≤ c.hi.fair.val := by
  have h1 := P.lo
  have h2 := P.hi
  have h3 := P.ra.le
  rw [Num.may_fair P.rc.lom, Num.may_fair P.rc.him]
  rcases h with rfl | rfl
  · refine ⟨P.ra.loo, P.ra.lom, ?_, ?_⟩ <;> rw [Num.may_fair P.ra.lom] <;> omega
  · refine ⟨P.ra.hio, P.ra.him, ?_, ?_⟩ <;> rw [Num.may_fair P.ra.him] <;> omega

theorem Num.zero_of_val {x : Num} (ox : x.ok) (h : x.fair.val = 0) : x.fair = Num.zero := ((Num.val_pos x.fair_may (Num.fair_ok ox)).2.2 h).2
theorem Num.mul_between {x y z1 z2 : Num} (ox : x.ok) (oy : y.ok) (o1 : z1.ok) (o2 : z2.ok) (h1 : z1.fair.val ≤ y.fair.val) (h2 : y.fair.val ≤ z2.fair.val) (up : Bool) :
    (∃ z, (z = z1 ∨ z = z2) ∧ (Num.mul x z up).val ≤ (Num.mul x y up).val) ∧ (∃ z, (z = z1 ∨ z = z2) ∧ (Num.mul x y up).val ≤ (Num.mul x z up).val) := by
  rcases Int.lt_trichotomy x.fair.val 0 with h | h | h
  · exact ⟨⟨z2, .inr rfl, Num.mul_mono_neg ox oy o2 h h2 up⟩, ⟨z1, .inl rfl, Num.mul_mono_neg ox o1 oy h h1 up⟩⟩
  · have k : x.fair.kind = 0 := by rw [Num.zero_of_val ox h]; rfl
    exact ⟨⟨z1, .inl rfl, by rw [Num.mul_zero_l up k, Num.mul_zero_l up k]; exact Int.le_refl _⟩, ⟨z1, .inl rfl, by rw [Num.mul_zero_l up k, Num.mul_zero_l up k]; exact Int.le_refl _⟩⟩
  · exact ⟨⟨z1, .inl rfl, Num.mul_mono_pos ox o1 oy h h1 up⟩, ⟨z2, .inr rfl, Num.mul_mono_pos ox oy o2 h h2 up⟩⟩
theorem mul_fine : Fine Num.mul := ⟨fun ox oy up => Num.mul_ok ox oy up, fun ox oy up => Num.mul_may ox oy up⟩
theorem either_ok {z z1 z2 : Num} (h : z = z1 ∨ z = z2) (o1 : z1.ok) (o2 : z2.ok) : z.ok := by
  rcases h with rfl | rfl
  · exact o1
  · exact o2
theorem Iv.mul_within {a b c d : Iv} (P : a.bad = true ∨ Iv.Part a c) (Q : b.bad = true ∨ Iv.Part b d) : (Iv.mul a b).within (Iv.mul c d) = true := by
  unfold Iv.mul
  rw [Iv.bad_two, Iv.bad_two]
  rcases P with P | P
  · rw [P]; exact Iv.empty_within _
  · rcases Q with Q | Q
    · rw [Q, Bool.or_true]; exact Iv.empty_within _
    · rw [P.ra.good, Q.ra.good, P.rc.good, Q.rc.good]
      simp only [Bool.or_self, Bool.false_eq_true, if_false]
      refine Iv.corners_within mul_fine P.ra Q.ra P.rc Q.rc (fun x y hx hy => ?_) (fun x y hx hy => ?_)
      · obtain ⟨ox, -, x1, x2⟩ := P.ends hx
        obtain ⟨oy, -, y1, y2⟩ := Q.ends hy
        obtain ⟨⟨v, hv, k⟩, -⟩ := Num.mul_between ox oy Q.rc.loo Q.rc.hio y1 y2 false
        have ov := either_ok hv Q.rc.loo Q.rc.hio
        obtain ⟨⟨u, hu, j⟩, -⟩ := Num.mul_between ov ox P.rc.loo P.rc.hio x1 x2 false
        rw [Num.mul_comm ov (either_ok hu P.rc.loo P.rc.hio), Num.mul_comm ov ox] at j
        exact ⟨u, v, hu, hv, by omega⟩
      · obtain ⟨ox, -, x1, x2⟩ := P.ends hx
        obtain ⟨oy, -, y1, y2⟩ := Q.ends hy
        obtain ⟨-, ⟨v, hv, k⟩⟩ := Num.mul_between ox oy Q.rc.loo Q.rc.hio y1 y2 true
        have ov := either_ok hv Q.rc.loo Q.rc.hio
        obtain ⟨-, ⟨u, hu, j⟩⟩ := Num.mul_between ov ox P.rc.loo P.rc.hio x1 x2 true
        rw [Num.mul_comm ov (either_ok hu P.rc.loo P.rc.hio), Num.mul_comm ov ox] at j
        exact ⟨u, v, hu, hv, by omega⟩
end Go.Proofs.YtpadpcjdakfokaaDoor.Ev

/- Squares and roots of parts are parts: plain Lean. -/
namespace Go.Proofs.YtpadpcjdakfokaaDoor.Ev
open Go

theorem Iv.abs_ends {a : Iv} (r : a.Real) : (Iv.abs a).Real ∧ 0 ≤ (Iv.abs a).lo.val ∧ a.lo.val ≤ (Iv.abs a).lo.val ∧ -a.hi.val ≤ (Iv.abs a).lo.val ∧
    ((Iv.abs a).lo.val = 0 ∨ (Iv.abs a).lo.val = a.lo.val ∨ (Iv.abs a).lo.val = -a.hi.val) ∧
    a.hi.val ≤ (Iv.abs a).hi.val ∧ -a.lo.val ≤ (Iv.abs a).hi.val ∧ ((Iv.abs a).hi.val = a.hi.val ∨ (Iv.abs a).hi.val = -a.lo.val) := by
  have le := r.le
  have ol : a.lo.opp.val = -a.lo.val := by rw [Num.opp_val, Num.may_fair r.lom]
  have oh : a.hi.opp.val = -a.hi.val := by rw [Num.opp_val, Num.may_fair r.him]
  rcases Iv.abs_cases r with ⟨h, e⟩ | ⟨h1, h2, e⟩ | ⟨h1, h2, e, h4, h5, h6⟩
  · rw [e]; exact ⟨r, h, by omega, by omega, by omega, by omega, by omega, by omega⟩
  · rw [e]
    refine ⟨r.neg, ?_⟩
    show 0 ≤ a.hi.opp.val ∧ a.lo.val ≤ a.hi.opp.val ∧ -a.hi.val ≤ a.hi.opp.val ∧ (a.hi.opp.val = 0 ∨ a.hi.opp.val = a.lo.val ∨ a.hi.opp.val = -a.hi.val) ∧
      a.hi.val ≤ a.lo.opp.val ∧ -a.lo.val ≤ a.lo.opp.val ∧ (a.lo.opp.val = a.hi.val ∨ a.lo.opp.val = -a.lo.val)
    rw [ol, oh]; omega
  · rw [e]
    have p := pw_pos 1048640
    have mo : (Num.most [a.hi, a.lo.opp]).may = true ∧ (Num.most [a.hi, a.lo.opp]).ok ∧ ((Num.most [a.hi, a.lo.opp]).val = a.hi.val ∨ (Num.most [a.hi, a.lo.opp]).val = -a.lo.val) := by
      rcases h4 with h4 | h4 <;> rw [h4]
      · exact ⟨r.him, r.hio, .inl rfl⟩
      · exact ⟨Num.opp_may _, Num.opp_ok r.loo, .inr ol⟩
    have z : Num.zero.val = 0 := Num.val_zero
    refine ⟨⟨rfl, Num.zero_may, mo.1, Num.zero_ok, mo.2.1, ?_, ?_, ?_⟩, ?_⟩
    · show Num.zero.val ≤ (Num.most [a.hi, a.lo.opp]).val; omega
    · show Num.zero.val < _; omega
    · show -pw 1048640 < (Num.most [a.hi, a.lo.opp]).val; omega
    · show 0 ≤ Num.zero.val ∧ a.lo.val ≤ Num.zero.val ∧ -a.hi.val ≤ Num.zero.val ∧ (Num.zero.val = 0 ∨ Num.zero.val = a.lo.val ∨ Num.zero.val = -a.hi.val) ∧
        a.hi.val ≤ (Num.most [a.hi, a.lo.opp]).val ∧ -a.lo.val ≤ (Num.most [a.hi, a.lo.opp]).val ∧ ((Num.most [a.hi, a.lo.opp]).val = a.hi.val ∨ (Num.most [a.hi, a.lo.opp]).val = -a.lo.val)
      exact ⟨by omega, by omega, by omega, .inl z, h5, h6, mo.2.2⟩
theorem Iv.Part.abs {a c : Iv} (P : Iv.Part a c) : Iv.Part (Iv.abs a) (Iv.abs c) := by
  obtain ⟨r1, a1, a2, a3, a4, a5, a6, a7⟩ := Iv.abs_ends P.ra
  obtain ⟨r2, c1, c2, c3, c4, c5, c6, c7⟩ := Iv.abs_ends P.rc
  have := P.lo
  have := P.hi
  exact ⟨r1, r2, by omega, by omega⟩
theorem Iv.abs_bad {a : Iv} (h : a.bad = true) : Iv.abs a = Iv.none := by
  unfold Iv.abs
  rw [Iv.bad_one, h]; rfl
theorem Num.sq_mono {x y : Num} (ox : x.ok) (oy : y.ok) (h0 : 0 ≤ x.fair.val) (h : x.fair.val ≤ y.fair.val) (up : Bool) : (Num.mul x x up).val ≤ (Num.mul y y up).val := by
  rcases Int.lt_or_le 0 x.fair.val with k | k
  · have a1 := Num.mul_mono_pos ox ox oy k h up
    have a2 := Num.mul_mono_pos oy ox oy (by omega) h up
    rw [Num.mul_comm oy ox] at a2
    omega
  · have zx : x.fair.kind = 0 := by rw [Num.zero_of_val ox (by omega)]; rfl
    rw [Num.mul_zero_l up zx]
    rcases Int.lt_or_le 0 y.fair.val with j | j
    · have a2 := Num.mul_mono_pos oy ox oy j h up
      rw [Num.mul_comm oy ox, Num.mul_zero_l up zx] at a2
      exact a2
    · have zy : y.fair.kind = 0 := by rw [Num.zero_of_val oy (by omega)]; rfl
      rw [Num.mul_zero_l up zy]; exact Int.le_refl _
theorem Iv.sqr_of {a : Iv} (r : a.Real) : Iv.sqr a = Iv.make (Num.mul (Iv.abs a).lo (Iv.abs a).lo false) (Num.mul (Iv.abs a).hi (Iv.abs a).hi true) := by
  unfold Iv.sqr; rw [(Iv.abs_ends r).1.some]; rfl
theorem Iv.part_sqr {a c : Iv} (P : a.bad = true ∨ Iv.Part a c) : (Iv.sqr a).within (Iv.sqr c) = true := by
  rcases P with P | P
  · have e : Iv.sqr a = Iv.none := by unfold Iv.sqr; rw [Iv.abs_bad P]; rfl
    rw [e]; exact Iv.empty_within _
  · have A := P.abs
    have n1 := (Iv.abs_ends P.ra).2.1
    have n2 := (Iv.abs_ends P.rc).2.1
    rw [Iv.sqr_of P.ra, Iv.sqr_of P.rc]
    generalize Iv.abs a = u at *
    generalize Iv.abs c = w at *
    have le := A.ra.le
    refine Iv.make_within (Num.mul_ok A.ra.loo A.ra.loo _) (Num.mul_ok A.ra.hio A.ra.hio _) (Num.mul_ok A.rc.loo A.rc.loo _) (Num.mul_ok A.rc.hio A.rc.hio _) ?_ ?_
    · rw [Num.may_fair (Num.mul_may A.ra.loo A.ra.loo _), Num.may_fair (Num.mul_may A.rc.loo A.rc.loo _)]
      exact Num.sq_mono A.rc.loo A.ra.loo (by rw [Num.may_fair A.rc.lom]; exact n2) A.lo' false
    · rw [Num.may_fair (Num.mul_may A.ra.hio A.ra.hio _), Num.may_fair (Num.mul_may A.rc.hio A.rc.hio _)]
      exact Num.sq_mono A.ra.hio A.rc.hio (by rw [Num.may_fair A.ra.him]; omega) A.hi' true

end Go.Proofs.YtpadpcjdakfokaaDoor.Ev
