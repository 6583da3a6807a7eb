/- Texts of the proof, joined: N8 N9 N10 C9 N11 W2 N12 W5 C9h C11 D2 W10 D3 Pu18 Pu19 Pu40 W6 D4 Pu41 D5 D6 Pu20 Pu21 Pu22 W7 Ev30 -/
import Derived.Test.YtpadpcjdakfokaaDoorB4
set_option linter.unusedVariables false
set_option linter.unusedSimpArgs false

/- Contracts: limbs shifted, into memory that the caller writes. Printed by gen.py. -/
namespace Go.Proofs.YtpadpcjdakfokaaDoor.Ev
open Go Go.Proofs
set_option linter.unusedVariables false
set_option linter.unusedSimpArgs false


attribute [local irreducible] Lb
set_option maxHeartbeats 1000000 in
theorem h_cut (L : List Int) (n : Int) (hL : Lb L) (hl : L.length < 268435456) (hn : n = L.length) :
    CallsH Tryd.prog 77 [.ms 0 1 (.l 0) (.s n)] [.ints true .u32 L] (fun v h => ∃ k : Int, v = .ms 0 1 (.l 0) (.s k) ∧ h = [.ints true .u32 L] ∧ 0 ≤ k ∧ k ≤ L.length ∧ L.take k.toNat = lim (lv L)) := by
  obtain ⟨m, em⟩ : ∃ m : Int → Nat, ∀ p, m p = p.toNat := ⟨_, fun _ => rfl⟩
  obtain ⟨ok, eok⟩ : ∃ ok : Int → Prop, ∀ p, ok p ↔ 0 ≤ p ∧ p ≤ L.length ∧ lv (L.take p.toNat) = lv L := ⟨_, fun _ => Iff.rfl⟩
  have s0 : 0 ≤ n ∧ n ≤ L.length ∧ lv (L.take n.toNat) = lv L := ⟨by omega, by omega, by rw [hn, Int.toNat_natCast, List.take_length]⟩
  refine callsH_of hG hm Tryd.func77 (by kernel_rfl) ?_
  intro E hE lp hl'
  cbv
  refine E_loop hE hG hm hl' (fun p : Int => (⟨[(0, .ms 0 1 (.l 0) (.s p)), (2, .s0)], [.ints true .u32 L]⟩ : St)) m ok ⟨n, (eok _).2 s0, stLe rfl ?_⟩ ?_
  · (repeat' (first | exact t_nil | apply t_cons | exact u2_sli | exact u2_int | exact u2_bool | exact u2_ms | exact u2_ptr | exact (rfl : sle2 .s0 .s0)))
  intro k hok
  have h1 : 0 ≤ k := ((eok _).1 hok).1
  have h2 : k ≤ L.length := ((eok _).1 hok).2.1
  have h3 : lv (L.take k.toNat) = lv L := ((eok _).1 hok).2.2
  have next : ∀ j : Int, 0 < k → j = intBinR .sub .i64 k 1 → L.getD j.toNat 0 = 0 → 0 ≤ j ∧ j ≤ L.length ∧ j.toNat < k.toNat ∧ lv (L.take j.toNat) = lv L := by
    intro j h0 hj hz
    have hj' : j = k - 1 := by rw [hj]; exact wi64_id (by omega) (by omega)
    refine ⟨by omega, by omega, by omega, ?_⟩
    rw [show j.toNat = k.toNat - 1 by omega] at hz ⊢
    rw [lv_cut_step (by omega) (by omega) hz, h3]
  have fin : (k = 0 ∨ L.getD (intBinR .sub .i64 k 1).toNat 0 ≠ 0) → L.take k.toNat = lim (lv L) := by
    intro h
    refine cut_end hL (by omega) ?_ h3
    rcases h with h | h
    · exact .inl (by omega)
    · rcases Int.lt_or_le 0 k with h0 | h0
      · have e : intBinR .sub .i64 k 1 = k - 1 := wi64_id (by omega) (by omega)
        rw [e, show (k - 1).toNat = k.toNat - 1 by omega] at h
        exact .inr h
      · exact .inl (by omega)
  clear hok
  cbv
  repeat' (first
    | (refine E_br hE (fun h => ?_) (fun h => ?_) <;> cbv)
    | (refine E_nm hE (fun v hv => ?_); cbv)
    | (refine E_nilS hE (fun b hb => ?_); cbv)
    | fail)
  all_goals (try (refine ⟨E.bin .sub .i64 k 1, ?_, ?_, stLe rfl ?_⟩))
  all_goals (try ((repeat' (first | exact t_nil | apply t_cons | exact u2_sli | exact u2_int | exact u2_bool | exact u2_ms | exact u2_ptr | exact (rfl : sle2 .s0 .s0))); done))
  all_goals (subst hE)
  all_goals (try (first
    | (rw [em, em]; exact (next _ (gtr_t ‹_›) rfl (eql_t ‹_›)).2.2.1)
    | (rw [eok]; have q := next _ (gtr_t ‹_›) rfl (eql_t ‹_›); exact ⟨q.1, q.2.1, q.2.2.2⟩)
    | exact ⟨k, rfl, rfl, h1, h2, fin (.inr (eql_f ‹_›))⟩
    | exact ⟨k, rfl, rfl, h1, h2, fin (.inl (by have := gtr_f ‹_›; omega))⟩))
  all_goals (clear next fin eok em s0; simp only [NatCast.natCast, Int.ofNat_eq_natCast, realE, cmp_eql, cmp_neq, cmp_lss, cmp_leq, cmp_gtr, cmp_geq, intBinR, decide_eq_true_eq, decide_eq_false_iff_not, SI.val, SB.val, Num.eta, Iv.eta] at *; (try simp only [wi64] at *); omega)

theorem h_Clone (a : List Int) (ha : 0 < a.length) (hl : a.length ≤ 268435456) :
    CallsH Tryd.prog 81 [.sli .u32 a] [] (fun v h => ∃ L k, v = .ms 0 1 (.l 0) (.s k) ∧ h = [.ints true .u32 L] ∧ k = (a.length : Int) ∧ L = a) := by
  refine callsH_named (callsH_of (K := fun v h => ∃ L k, v = .ms 1 1 (.l 0) (.s k) ∧ h = [.dead, .ints true .u32 L] ∧ k = (a.length : Int) ∧ L = a) hG hm Tryd.func81 (by kernel_rfl) ?_) ?_
  · intro E hE lp hl'
    cbv
    repeat' (first
    | (refine E_br hE (fun h => ?_) (fun h => ?_) <;> cbv)
    | (refine E_nm hE (fun v hv => ?_); cbv)
    | (refine E_nilS hE (fun b hb => ?_); cbv)
    | fail)
    all_goals (subst hE)
    · exfalso; have := hb h; simp only [realE] at this; omega
    · exact ⟨_, _, rfl, rfl, rfl, rfl⟩
    · have := leq_f h; simp only [realE] at this; omega
  · rintro v h ⟨L, k, rfl, rfl, hk, hL⟩
    exact ⟨[1], .ms 0 1 (.l 0) (.s k), [.ints true .u32 L], ⟨⟨rfl, trivial⟩, rfl, rfl, Nat.zero_le _, trivial, ms_le rfl rfl, rfl⟩, L, k, rfl, rfl, hk, hL⟩
set_option maxHeartbeats 1000000 in
theorem h_Shl (a : List Int) (n : Int) (ha : Lb a) (hla : a.length < 67108864) (ha0 : 0 < lv a) (hn0 : 0 ≤ n) (hn1 : n ≤ 16777216) :
    CallsH Tryd.prog 69 [.sli .u32 a, .int .i64 (.s n)] [] (fun v h => ∃ L k, v = .ms 0 1 (.l 0) (.s k) ∧ h = [.ints true .u32 L] ∧ 0 ≤ k ∧ k ≤ L.length ∧ L.take k.toNat = lim (lv a * 2 ^ n.toNat) ∧ L.length ≤ 134217728) := by
  generalize hr : lim (lv a * 2 ^ n.toNat) = r
  have hlx := lim_length_le' ha
  have hx := lim_lb (lv a)
  have vx := lv_lim (lv a)
  obtain ⟨x, ex⟩ : ∃ x, lim (lv a) = x := ⟨_, rfl⟩
  rw [ex] at hlx hx vx
  have hx0 : 0 < x.length := by
    rcases Nat.eq_zero_or_pos x.length with h | h
    · rw [List.length_eq_zero_iff.1 h] at vx; simp only [lv] at vx; omega
    · exact h
  obtain ⟨m, em⟩ : ∃ m : Int × List Int → Nat, ∀ p, m p = (x.length - p.1).toNat := ⟨_, fun _ => rfl⟩
  obtain ⟨ok, eok⟩ : ∃ ok : Int × List Int → Prop, ∀ p, ok p ↔ 0 ≤ p.1 ∧ p.1 ≤ x.length ∧ ShlInv x p.2 (n / 32).toNat (n % 32).toNat p.1.toNat := ⟨_, fun _ => Iff.rfl⟩
  have eN : ∀ l : Int, 1 ≤ n → n ≤ 16777216 → l = intBinR .quo .i64 n 32 → IntKind.i64.wrap (IntKind.i64.wrap ((x.length : Int) + l) + 1) = x.length + n / 32 + 1 := by
    intro l n1 n2 el
    have : l = n / 32 := by rw [el]; exact quo32 (by omega) (by omega)
    rw [this, wi64_id (n := (x.length : Int) + n / 32) (by omega) (by omega), wi64_id (by omega) (by omega)]
  refine callsH_of hG hm Tryd.func69 (by kernel_rfl) ?_
  intro E hE lp hl
  cbv
  (apply E_callX hE (c_cut a ha (by omega)); (case hf => rfl); (case hc => (cbv <;> trivial)); (case hle => exact ⟨u2_sli, trivial⟩); intro x' hx'; cbv)
  rw [hx'.trans ex]
  clear hx' x'
  refine E_br hE (fun h => ?_) (fun h => ?_)
  · have e : x = r := by subst hE; have := lss_t h; rw [← hr, show n.toNat = 0 by omega, Nat.pow_zero, Nat.mul_one, ex]
    cbv
    refine E_callH hE (h_Clone x hx0 (by omega)) ?_
    rintro v h1 ⟨L, k, rfl, rfl, hk, hL⟩
    cbv
    exact ⟨L, k, rfl, rfl, by rw [hk]; exact Int.natCast_nonneg _, by rw [hk, hL]; exact Int.le_refl _, by rw [hk, hL, Int.toNat_natCast, List.take_length]; exact e, by rw [hL]; omega⟩
  have n1 : 1 ≤ n := by subst hE; have := lss_f h; omega
  cbv
  repeat' (first
    | (refine E_br hE (fun h => ?_) (fun h => ?_) <;> cbv)
    | (refine E_nm hE (fun v hv => ?_); cbv)
    | (refine E_nilS hE (fun b hb => ?_); cbv)
    | fail)
  · exfalso; subst hE; have := gtr_t ‹_›; omega
  · exfalso
    have e0 : x.length = 0 := by subst hE; have := eql_t h; simp only [realE] at this; omega
    omega
  all_goals (have n2 : n ≤ 16777216 := (by subst hE; have := gtr_f ‹(realE Tryd.prog).cmp .gtr n 16777216 = false›; omega))
  all_goals (try (exfalso; have := eN _ n1 n2 (by subst hE; assumption); subst hE; simp only [NatCast.natCast, Int.ofNat_eq_natCast, realE, cmp_eql, cmp_neq, cmp_lss, cmp_leq, cmp_gtr, cmp_geq, intBinR, decide_eq_true_eq, decide_eq_false_iff_not, SI.val, SB.val, Num.eta, Iv.eta] at *; rw [this] at *; omega))
  rename_i l el _ _
  replace eN := eN l n1 n2 (by subst hE; exact el)
  simp only [NatCast.natCast, Int.ofNat_eq_natCast] at eN
  have er := hv
  have l1 : l = n / 32 := by subst hE; rw [el]; exact quo32 (by omega) (by omega)
  have r1 : 0 ≤ v := by
    have : v = n % 32 := by subst hE; rw [hv]; exact rem32 (by omega)
    omega
  clear hv
  refine E_loop hE hG hm hl (shlS E x l v) m ok ⟨(0, E.rep (E.bin .add .i64 (E.bin .add .i64 (E.len x) l) 1)), (eok _).2 ?_, stLe rfl ?_⟩ ?_
  · refine ⟨by show (0 : Int) ≤ 0; omega, by show (0 : Int) ≤ x.length; omega, ?_⟩
    have := ShlInv.start x (n / 32).toNat (n % 32).toNat
    subst hE; simp only [NatCast.natCast, Int.ofNat_eq_natCast, realE, cmp_eql, cmp_neq, cmp_lss, cmp_leq, cmp_gtr, cmp_geq, intBinR, decide_eq_true_eq, decide_eq_false_iff_not, SI.val, SB.val, Num.eta, Iv.eta] at *; rw [eN, show ((x.length : Int) + n / 32 + 1).toNat = x.length + (n / 32).toNat + 1 by omega]
    exact this
  · (repeat' (first | exact t_nil | apply t_cons | exact u2_sli | exact u2_int | exact u2_bool | exact u2_ms | exact u2_ptr | exact (rfl : sle2 .s0 .s0)))
  rintro ⟨i, out⟩ hok
  have h1 : 0 ≤ i := ((eok _).1 hok).1
  have h2 : i ≤ x.length := ((eok _).1 hok).2.1
  have inv : ShlInv x out (n / 32).toNat (n % 32).toNat i.toNat := ((eok _).1 hok).2.2
  have hol := inv.len
  have fin : ¬ i < x.length → lim (lv out) = r := by
    intro h
    have inv' := inv
    rw [show i.toNat = x.length by omega] at inv'
    rw [inv'.stop, ← hr, vx, show 32 * (n / 32).toNat + (n % 32).toNat = n.toNat by omega]
  have lo := inv.lb
  have hol2 : out.length ≤ 134217728 := by omega
  have eNN : E.bin .add .i64 (E.bin .add .i64 (E.len x) l) 1 = (out.length : Int) := by
    subst hE; show IntKind.i64.wrap (IntKind.i64.wrap ((x.length : Int) + l) + 1) = _; rw [eN]; omega
  clear hok hr ex
  cbv
  repeat' (first
    | (refine E_br hE (fun h => ?_) (fun h => ?_) <;> cbv)
    | (refine E_nm hE (fun v hv => ?_); cbv)
    | (refine E_nilS hE (fun b hb => ?_); cbv)
    | fail)
  all_goals (try (
    refine E_callH hE (h_cut out (E.bin .add .i64 (E.bin .add .i64 (E.len x) l) 1) lo (by omega) eNN) ?_
    rintro v h1 ⟨k, rfl, rfl, k1, k2, k3⟩
    cbv
    exact ⟨out, k, rfl, rfl, k1, k2, k3.trans (fin (by subst hE; exact lss_f ‹_›)), hol2⟩))
  all_goals (try refine ⟨(E.bin .add .i64 i 1, _), ?_, ?_, stLe rfl ?_⟩)
  all_goals (try ((repeat' (first | exact t_nil | apply t_cons | exact u2_sli | exact u2_int | exact u2_bool | exact u2_ms | exact u2_ptr | exact (rfl : sle2 .s0 .s0))); done))
  all_goals (subst hE)
  all_goals (try (first | (rw [em, em]; exact (shl_next hx (by omega) n1 n2 h1 (lss_t ‹_›) inv ‹_› el er ‹_› ‹_› rfl).2.2.1) | (rw [eok]; have q := shl_next hx (by omega) n1 n2 h1 (lss_t ‹_›) inv ‹_› el er ‹_› ‹_› rfl; exact ⟨q.1, q.2.1, q.2.2.2⟩)))
  all_goals (clear inv eok em fin er el; simp only [NatCast.natCast, Int.ofNat_eq_natCast, realE, cmp_eql, cmp_neq, cmp_lss, cmp_leq, cmp_gtr, cmp_geq, intBinR, decide_eq_true_eq, decide_eq_false_iff_not, SI.val, SB.val, Num.eta, Iv.eta] at *; (try rw [eN] at *); clear eN; (try simp only [wi64] at *); omega)
end Go.Proofs.YtpadpcjdakfokaaDoor.Ev

/- Contracts: the quotient and the rest of limbs. Printed by gen.py. -/
namespace Go.Proofs.YtpadpcjdakfokaaDoor.Ev
open Go Go.Proofs
set_option linter.unusedVariables false
set_option linter.unusedSimpArgs false


attribute [local irreducible] Lb
theorem pred_len {y : List Int} (h : 1 ≤ y.length) (h' : y.length < 67108864) : intBinR .sub .i64 (y.length : Int) 1 = y.length - 1 := wi64_id (by omega) (by omega)
def divS (w : Int) (d : List Int) (n1 nq : Int) : Int × List Int × List Int → St := fun p => ⟨[(9, .int .i64 (.s w)), (10, .sli .u32 d), (11, .ms 2 1 (.l 0) (.s n1)), (12, .ms 3 1 (.l 0) (.s nq)), (73, .int .i64 (.s nq)), (74, .int .i64 (.s p.1))],
  [.dead, .ints true .u32 [0, 0], .ints true .u32 p.2.1, .ints true .u32 p.2.2]⟩
structure DivOK (A : Nat) (d : List Int) (qn rn : Nat) (i : Int) (R Q : List Int) : Prop where
  i0 : 0 ≤ i
  i1 : i ≤ qn
  inv : DivInv A (lv d) d.length R Q ((qn : Int) - i).toNat
  ql : Q.length = qn
  rl : R.length = rn
set_option maxHeartbeats 4000000 in
theorem c_natDiv (a b : List Int) (ha : Lb a) (hb : Lb b) (hla : a.length < 33554432) (hlb : b.length < 33554432) : ∃ t : List Int × List Int × Bool, t = (if lv b = 0 then ([], [], false) else (lim (lv a / lv b), lim (lv a % lv b), true)) ∧
    CallsA Tryd.prog 73 [.sli .u32 a, .sli .u32 b] (.tup [.sli .u32 t.1, .sli .u32 t.2.1, .bool (.s t.2.2)]) := by
  refine ⟨_, rfl, ?_⟩
  generalize hr : (if lv b = 0 then ([], [], false) else (lim (lv a / lv b), lim (lv a % lv b), true)) = r
  have hlx := lim_length_le' ha
  have hx := lim_lb (lv a)
  have vx := lv_lim (lv a)
  have lx := (lim_cn (lv a)).last
  have hly := lim_length_le' hb
  have hy := lim_lb (lv b)
  have vy := lv_lim (lv b)
  have ly := (lim_cn (lv b)).last
  obtain ⟨x, ex⟩ : ∃ x, lim (lv a) = x := ⟨_, rfl⟩
  obtain ⟨y, ey⟩ : ∃ y, lim (lv b) = y := ⟨_, rfl⟩
  rw [ex] at hlx hx vx lx
  rw [ey] at hly hy vy ly
  have y0 : y.length = 0 ↔ lv b = 0 := by
    rw [← ey, List.length_eq_zero_iff, lim_eq_nil]
  obtain ⟨m, em⟩ : ∃ m : Int × List Int × List Int → Nat, ∀ p, m p = (x.length + 1 - p.1).toNat := ⟨_, fun _ => rfl⟩
  obtain ⟨ok, eok⟩ : ∃ ok : List Int → Int → Nat → Nat → Int × List Int × List Int → Prop, ∀ d w qn rn p, ok d w qn rn p ↔ DivOK (lv x * 2 ^ w.toNat) d qn rn p.1 p.2.1 p.2.2 := ⟨_, fun _ _ _ _ _ => Iff.rfl⟩
  refine callsA_of hG hm Tryd.func73 (by kernel_rfl) ?_
  intro E hE lp hl
  cbv
  (apply E_callX hE (c_cut a ha (by omega)); (case hf => rfl); (case hc => (cbv <;> trivial)); (case hle => exact ⟨u2_sli, trivial⟩); intro x' hx'; cbv)
  (apply E_callX hE (c_cut b hb (by omega)); (case hf => rfl); (case hc => (cbv <;> trivial)); (case hle => exact ⟨u2_sli, trivial⟩); intro y' hy'; cbv)
  rw [hx'.trans ex, hy'.trans ey]
  clear hx' hy' x' y'
  refine E_br hE (fun h => ?_) (fun h => ?_)
  · have e : lv b = 0 := y0.1 (by subst hE; have := eql_t h; simp only [realE] at this; omega)
    cbv
    rw [← hr, if_pos e]
    exact ⟨rfl, rfl, rfl, trivial⟩
  have hb0 : 0 < lv b := by
    rcases Nat.eq_zero_or_pos (lv b) with e | e
    · exfalso; have := y0.2 e; subst hE; have := eql_f h; simp only [realE] at this; omega
    · exact e
  have ny : y ≠ [] := by intro e; rw [e] at vy; simp only [lv] at vy; omega
  rw [if_neg (by omega)] at hr
  (apply E_callX hE (c_natCmp x y hx hy (by omega) (by omega)); (case hf => rfl); (case hc => (cbv <;> trivial)); (case hle => exact ⟨u2_sli, u2_sli, trivial⟩); intro t ht; cbv)
  rw [vx, vy] at ht
  refine E_br hE (fun h => ?_) (fun h => ?_)
  · have hlt : lv a < lv b := by
      subst hE; have := lss_t h
      rw [ht] at this
      rcases Nat.lt_or_ge (lv a) (lv b) with h1 | h1
      · exact h1
      · rw [if_neg (by omega)] at this; split at this <;> omega
    cbv
    repeat' (first
    | (refine E_br hE (fun h => ?_) (fun h => ?_) <;> cbv)
    | (refine E_nm hE (fun v hv => ?_); cbv)
    | (refine E_nilS hE (fun b hb => ?_); cbv)
    | (apply E_callX hE (c_Clone _ ?_); (case hf => rfl); (case hc => (cbv <;> trivial)); (case hle => exact u_up); all_goals (first | (intro t ht; cbv) | (omega)))
    | fail)
    rw [← hr, Nat.div_eq_of_lt hlt, Nat.mod_eq_of_lt hlt, ex]
    exact ⟨rfl, ‹_›, rfl, trivial⟩
  have hge : lv b ≤ lv a := by
    subst hE; have := lss_f h
    rw [ht] at this
    rcases Nat.lt_or_ge (lv a) (lv b) with h1 | h1
    · rw [if_pos h1] at this; omega
    · exact h1
  refine E_br hE (fun h => ?_) (fun h => ?_)
  · have y1 : y.length = 1 := by subst hE; have := eql_t h; simp only [realE] at this; omega
    have e0 : y = [y.getD 0 0] := by
      obtain ⟨z, hz⟩ := List.length_eq_one_iff.1 y1
      rw [hz]; rfl
    have g0 := hy.getD 0
    have v0 : lv b = (y.getD 0 0).toNat := by
      rw [← vy]
      conv => lhs; rw [e0]
      simp only [lv]; omega
    have p0 : 0 < y.getD 0 0 := by omega
    cbv
    repeat' (first
    | (refine E_br hE (fun h => ?_) (fun h => ?_) <;> cbv)
    | (refine E_nm hE (fun v hv => ?_); cbv)
    | (refine E_nilS hE (fun b hb => ?_); cbv)
    | (apply E_callX hE (c_short x _ hx ?_ ?_ ?_); (case hf => rfl); (case hc => (cbv <;> trivial)); (case hle => exact u_up); all_goals (first | (intro t ht; cbv) | ((subst hE; first | omega | exact p0 | exact g0.2))))
    | fail)
    · subst hE
      have ht' : t = (lim (lv x / (y.getD 0 0).toNat), lim (lv x % (y.getD 0 0).toNat)) := ht
      rw [ht', ← hr, vx, ← v0]; exact ⟨rfl, rfl, rfl, trivial⟩
    · subst hE; have := lss_f h; simp only [realE] at this; omega
  have y2 : 2 ≤ y.length := by
    have h1 : 0 < y.length := List.length_pos_iff.2 ny
    subst hE; have := eql_f h; simp only [realE] at this; omega
  have nx : x ≠ [] := by intro e; rw [e] at vx; simp only [lv] at vx; omega
  have xy : y.length ≤ x.length := by
    rw [← ex, ← ey]
    rcases Nat.lt_or_ge (lim (lv a)).length (lim (lv b)).length with h1 | h1
    · have := lim_len_lt h1; omega
    · exact h1
  have gl := hy.getD (y.length - 1)
  have g1 : E.get y (E.bin .sub .i64 (E.len y) 1) = y.getD (y.length - 1) 0 := by
    subst hE
    show y.getD (intBinR .sub .i64 (y.length : Int) 1).toNat 0 = _
    rw [pred_len (by omega) (by omega), show ((y.length : Int) - 1).toNat = y.length - 1 by omega]
  cbv
  refine E_br hE (fun h => ?_) (fun h => ?_)
  rotate_left
  · exfalso; subst hE; have := leq_f h; change ¬ 0 ≤ intBinR .sub .i64 (y.length : Int) 1 at this; rw [pred_len (by omega) (by omega)] at this; omega
  cbv
  refine E_br hE (fun h => ?_) (fun h => ?_)
  rotate_left
  · exfalso; subst hE; have := lss_f h; change ¬ intBinR .sub .i64 (y.length : Int) 1 < (y.length : Int) at this; rw [pred_len (by omega) (by omega)] at this; omega
  cbv
  (apply E_callX hE (c_LZ32 (E.get y (E.bin .sub .i64 (E.len y) 1)) (by rw [g1]; exact gl.1) (by rw [g1]; exact gl.2)); (case hf => rfl); (case hc => (cbv <;> trivial)); (case hle => exact ⟨u2_int, trivial⟩); intro t1 ht1; cbv)
  refine E_nm hE (fun w hw => ?_)
  have ew : w = 32 - blen (y.getD (y.length - 1) 0) := by rw [hw, ht1, g1]
  have w0 := (norm_len hy ny (ly ny) ew).1
  have w1 := (norm_len hy ny (ly ny) ew).2.1
  have dl := (norm_len hy ny (ly ny) ew).2.2
  clear hw ew ht1
  cbv
  (apply E_callX hE (c_natShl y w hy (by omega)); (case hf => rfl); (case hc => (cbv <;> trivial)); (case hle => exact ⟨u2_sli, u2_int, trivial⟩); intro d hd; cbv)
  have ed : d = lim (lv y * 2 ^ w.toNat) := by
    rw [hd]
    split
    · rw [show w.toNat = 0 by omega, Nat.pow_zero, Nat.mul_one]
    · rw [if_neg (by omega)]
  have ld : Lb d := ed ▸ lim_lb _
  have vd : lv d = lv y * 2 ^ w.toNat := by rw [ed, lv_lim]
  have nd : d.length = y.length := by rw [ed]; exact dl
  have d0 : d.getD (d.length - 1) 0 ≠ 0 := by
    rw [ed]
    refine (lim_cn _).last ?_
    intro e; rw [e] at dl; simp only [List.length_nil] at dl; omega
  have ds := div_start (k := w.toNat) hx hy nx ny (lx nx) (ly ny) xy
  clear lx ly hd
  refine E_callH hE (h_Shl x w hx (by omega) (by omega) w0 (by omega)) ?_
  intro v h1 hv
  obtain ⟨L, k, hv⟩ := hv
  rw [hv.1, hv.2.1]
  have k0 := hv.2.2.1
  have k1 := hv.2.2.2.1
  have k2 := hv.2.2.2.2.1
  have k3 := hv.2.2.2.2.2
  clear hv h1 v
  have kl : k.toNat = (lim (lv x * 2 ^ w.toNat)).length := by
    have := congrArg List.length k2
    rw [List.length_take] at this; omega
  have kx : (x.length : Int) + 1 ≤ k + 2 := by
    have := ds.lenr
    simp only [List.length_replicate, List.length_append, List.length_cons, List.length_nil] at this
    omega
  have kR : k ≤ 134217728 := by omega
  have kb : (lim (lv x * 2 ^ w.toNat)).length ≤ x.length + 1 := by
    apply lim_length_le
    have h1 := lv_lt hx
    have h2 : 2 ^ w.toNat ≤ 4294967296 := two_pow_le (by omega)
    rw [Nat.pow_succ]
    have h3 : lv x * 2 ^ w.toNat ≤ lv x * 4294967296 := Nat.mul_le_mul_left _ h2
    omega
  rw [← vd, ← nd] at ds
  obtain ⟨qn, hqn⟩ : ∃ qn, qn = x.length - d.length + 1 := ⟨_, rfl⟩
  obtain ⟨rn, hrn⟩ : ∃ rn, rn = k.toNat + 2 := ⟨_, rfl⟩
  have start : DivOK (lv x * 2 ^ w.toNat) d qn rn 0 (((L.drop (0 : Int).toNat).take k.toNat) ++ [0, 0]) (List.replicate qn 0) := by
    refine ⟨Int.le_refl _, by omega, ?_, by simp, ?_⟩
    · rw [← hqn] at ds
      rw [show (0 : Int).toNat = 0 by rfl, List.drop_zero, k2, show ((qn : Int) - 0).toNat = qn by omega]
      exact ds
    · rw [show (0 : Int).toNat = 0 by rfl, List.drop_zero, k2, List.length_append, ← kl]
      rw [hrn]; rfl
  have rn1 : x.length + 1 ≤ rn := by omega
  have rn2 : rn < 67108870 := by omega
  have fin : ∀ i R Q, DivOK (lv x * 2 ^ w.toNat) d qn rn i R Q → ¬ i < qn → Lb Q ∧ Q.length = qn ∧ Lb (R.take (x.length + 1)) ∧ (R.take (x.length + 1)).length = x.length + 1 ∧ (lim (lv Q), lim (lv (R.take (x.length + 1)) / 2 ^ w.toNat), true) = r := by
    intro i R Q o hi
    have hi' : ((qn : Int) - i).toNat = 0 := by have := o.i1; omega
    have inv := o.inv
    rw [hi', vd, nd] at inv
    have rl := o.rl
    obtain ⟨f1, f2⟩ := div_stop hy ny (by omega) (m := x.length + 1) (by omega) (by omega) dl inv
    refine ⟨inv.lbq, o.ql, inv.lbr.take _, by rw [List.length_take]; omega, ?_⟩
    rw [f1, f2, vx, vy, hr]
  have nqv : intBinR .add .i64 (intBinR .sub .i64 (x.length : Int) y.length) 1 = qn := by
    have e : intBinR .sub .i64 (x.length : Int) y.length = x.length - y.length := wi64_id (by omega) (by omega)
    have e2 : intBinR .add .i64 ((x.length : Int) - y.length) 1 = x.length - y.length + 1 := wi64_id (by omega) (by omega)
    rw [e, e2, hqn]; omega
  have n1v : intBinR .add .i64 (x.length : Int) 1 = (x.length + 1 : Nat) := by
    have e2 : intBinR .add .i64 (x.length : Int) 1 = x.length + 1 := wi64_id (by omega) (by omega)
    rw [e2]; rfl
  have qn1 : qn < 67108864 := by omega
  have d2 : 2 ≤ d.length := by omega
  have dx : d.length ≤ x.length := by omega
  have xyI : (y.length : Int) ≤ x.length := by omega
  have y2I : (2 : Int) ≤ y.length := by omega
  have xI : (x.length : Int) < 33554432 := by omega
  cbv
  repeat' (first
    | (refine E_br hE (fun h => ?_) (fun h => ?_) <;> cbv)
    | (refine E_nm hE (fun v hv => ?_); cbv)
    | (refine E_nilS hE (fun b hb => ?_); cbv)
    | fail)
  all_goals (try (exfalso; clear start ds dl d0 kl k2 ed vd fin nqv n1v; subst hE; simp only [NatCast.natCast, Int.ofNat_eq_natCast, realE, cmp_eql, cmp_neq, cmp_lss, cmp_leq, cmp_gtr, cmp_geq, intBinR, decide_eq_true_eq, decide_eq_false_iff_not, SI.val, SB.val, Num.eta, Iv.eta] at *; (try simp only [wi64] at *); omega))
  clear ds dl kl k2 ed vd g1 gl k0 k1 k3 kx kR kb
  refine E_loop hE hG hm hl (divS w d (E.bin .add .i64 (E.len x) 1) (E.bin .add .i64 (E.bin .sub .i64 (E.len x) (E.len y)) 1)) m (ok d w qn rn)
    ⟨(0, E.app (E.sub L 0 k) (E.sub [0, 0] 0 (Int.ofNat 2)), E.rep (E.bin .add .i64 (E.bin .sub .i64 (E.len x) (E.len y)) 1)), (eok _ _ _ _ _).2 ?_, stLe rfl ?_⟩ ?_
  · subst hE
    have e : (realE Tryd.prog).bin .add .i64 ((realE Tryd.prog).bin .sub .i64 ((realE Tryd.prog).len x) ((realE Tryd.prog).len y)) 1 = (qn : Int) := nqv
    rw [e]
    exact start
  · (repeat' (first | exact t_nil | apply t_cons | exact u2_sli | exact u2_int | exact u2_bool | exact u2_ms | exact u2_ptr | exact (rfl : sle2 .s0 .s0)))
  clear start
  rintro ⟨i, R, Q⟩ hok
  have o : DivOK (lv x * 2 ^ w.toNat) d qn rn i R Q := (eok _ _ _ _ _).1 hok
  have fin' := fin i R Q o
  have i0 := o.i0
  have i1 := o.i1
  clear hok fin ht
  cbv
  repeat' (first
    | (refine E_br hE (fun h => ?_) (fun h => ?_) <;> cbv)
    | (refine E_nm hE (fun v hv => ?_); cbv)
    | (refine E_nilS hE (fun b hb => ?_); cbv)
    | fail)
  all_goals (try (exfalso; clear fin' em eok o nqv n1v; subst hE; simp only [NatCast.natCast, Int.ofNat_eq_natCast, realE, cmp_eql, cmp_neq, cmp_lss, cmp_leq, cmp_gtr, cmp_geq, intBinR, decide_eq_true_eq, decide_eq_false_iff_not, SI.val, SB.val, Num.eta, Iv.eta] at *; (try simp only [wi64] at *); omega))
  rotate_left
  · simp only [NatCast.natCast, Int.ofNat_eq_natCast] at nqv n1v
    have hge : ¬ i < (qn : Int) := by
      subst hE
      have q : ¬ i < intBinR .add .i64 (intBinR .sub .i64 (x.length : Int) y.length) 1 := lss_f h
      rw [nqv] at q
      exact q
    have f1 := (fin' hge).1
    have f2 := (fin' hge).2.1
    have f3 := (fin' hge).2.2.1
    have f4 := (fin' hge).2.2.2.1
    have f5 := (fin' hge).2.2.2.2
    have e1 : E.sub Q 0 (E.bin .add .i64 (E.bin .sub .i64 (E.len x) (E.len y)) 1) = Q := by
      subst hE
      show (Q.drop (0 : Int).toNat).take (intBinR .add .i64 (intBinR .sub .i64 (x.length : Int) y.length) 1).toNat = Q
      rw [nqv]
      exact sub_all (by rw [f2])
    have e2 : E.sub R 0 (E.bin .add .i64 (E.len x) 1) = R.take (x.length + 1) := by
      subst hE
      show (R.drop (0 : Int).toNat).take (intBinR .add .i64 (x.length : Int) 1).toNat = _
      rw [n1v, Int.toNat_natCast]; rfl
    clear fin' o em eok
    (apply E_callX hE (c_cut (E.sub Q 0 (E.bin .add .i64 (E.bin .sub .i64 (E.len x) (E.len y)) 1)) (by rw [e1]; exact f1) (by rw [e1, f2]; omega)); (case hf => rfl); (case hc => (cbv <;> trivial)); (case hle => exact ⟨u2_sli, trivial⟩); intro q hq; cbv)
    (apply E_callX hE (c_natShr (E.sub R 0 (E.bin .add .i64 (E.len x) 1)) w (by rw [e2]; exact f3) (by rw [e2, f4]; omega)); (case hf => rfl); (case hc => (cbv <;> trivial)); (case hle => exact ⟨u2_sli, u2_int, trivial⟩); intro q2 hq2; cbv)
    rw [← f5]
    rw [e1] at hq
    rw [e2] at hq2
    exact ⟨hq, hq2, rfl, trivial⟩
  rename_i i' ei at_ eat _ _ _ _ _ _ _ _ _
  simp only [NatCast.natCast, Int.ofNat_eq_natCast] at nqv n1v xyI y2I xI
  have hi : i < (qn : Int) := by
    subst hE
    have q : i < intBinR .add .i64 (intBinR .sub .i64 (x.length : Int) y.length) 1 := lss_t ‹(realE Tryd.prog).cmp .lss i _ = true›
    rw [nqv] at q
    exact q
  have nqE : E.bin .add .i64 (E.bin .sub .i64 (E.len x) (E.len y)) 1 = qn := by subst hE; exact nqv
  have n1E : E.bin .add .i64 (E.len x) 1 = (x.length + 1 : Nat) := by subst hE; exact n1v
  have hat : at_ = qn - 1 - i := by
    rw [nqE] at eat
    subst hE
    rw [← o.ql] at eat ⊢
    exact div_at (by rw [o.ql]; omega) o.i0 (by rw [o.ql]; exact hi) ei eat
  have i0 := o.i0
  have a0 : 0 ≤ at_ := by omega
  have a1 : at_ < Q.length := by rw [o.ql]; omega
  have a2 : at_ + d.length < ((x.length + 1 : Nat) : Int) := by omega
  have a3 : ((x.length + 1 : Nat) : Int) ≤ R.length := by rw [o.rl]; omega
  have a4 : R.length < 134217728 := by rw [o.rl]; omega
  have inv : DivInv (lv x * 2 ^ w.toNat) (lv d) d.length R Q (at_.toNat + 1) := by
    have := o.inv
    rwa [show ((qn : Int) - i).toNat = at_.toNat + 1 by omega] at this
  have etop := hv
  have dg : GuessIn (E.get R v) (E.get R (E.bin .sub .i64 v 1)) (E.get R (E.bin .sub .i64 v 2)) (E.get d (E.bin .sub .i64 (E.len d) 1)) (E.get d (E.bin .sub .i64 (E.len d) 2)) ∧
      guessQ (E.get R v) (E.get R (E.bin .sub .i64 v 1)) (E.get R (E.bin .sub .i64 v 2)) (E.get d (E.bin .sub .i64 (E.len d) 1)) (E.get d (E.bin .sub .i64 (E.len d) 2)) =
        guessQ (R.getD (at_.toNat + d.length) 0) (R.getD (at_.toNat + d.length - 1) 0) (R.getD (at_.toNat + d.length - 2) 0) (d.getD (d.length - 1) 0) (d.getD (d.length - 2) 0) := by
    subst hE
    exact div_guess inv ld d2 d0 a4 a0 a1 etop
  have gq := guessQ_ok dg.1
  (apply E_pcallX hE (c_guess _ _ _ _ _ dg.1); (case hm => rfl); (case hle => exact ⟨u2_int, u2_int, u2_int, u2_int, u2_int, trivial⟩); intro g hg)
  have g0 : 0 ≤ g ∧ g < 4294967296 := by rw [hg]; exact ⟨gq.q0, by have := gq.q1; omega⟩
  have eg := hg.trans dg.2
  clear dg gq hg
  have j1 : ∀ j, j = intBinR .add .i64 i 1 → j = i + 1 := fun j e => e.trans (wi64_id (by omega) (by omega))
  have lbR := inv.lbr
  have next : ∀ (j : Int) (r' : List Int) (g' : Int), j = intBinR .add .i64 i 1 → r'.length = R.length → DivInv (lv x * 2 ^ w.toNat) (lv d) d.length r' (Q.set at_.toNat g') at_.toNat →
      m (j, r', Q.set at_.toNat g') < m (i, R, Q) ∧ ok d w qn rn (j, r', Q.set at_.toNat g') := by
    intro j r' g' ej hl hi'
    have ej := j1 j ej
    refine ⟨by rw [em, em]; show ((x.length : Int) + 1 - j).toNat < ((x.length : Int) + 1 - i).toNat; omega, (eok _ _ _ _ _).2 ⟨by show 0 ≤ j; omega, by show j ≤ (qn : Int); omega, ?_, by rw [List.length_set]; exact o.ql, hl.trans o.rl⟩⟩
    show DivInv _ _ _ _ _ ((qn : Int) - j).toNat
    rw [show ((qn : Int) - j).toNat = at_.toNat by omega]
    exact hi'
  have n1a : at_ + d.length < E.bin .add .i64 (E.len x) 1 := by rw [n1E]; exact a2
  have n1b : E.bin .add .i64 (E.len x) 1 ≤ R.length := by rw [n1E]; exact a3
  have a5 : at_ + d.length < R.length := by omega
  have aq : at_ < E.bin .add .i64 (E.bin .sub .i64 (E.len x) (E.len y)) 1 := by rw [nqE]; omega
  cbv
  refine E_nm hE (fun g' hg' => ?_)
  rw [hg']
  clear hg' g'
  cbv
  refine E_callH hE (h_less d [0, 0] R Q g at_ (E.bin .add .i64 (E.len x) 1) ld lbR g0 a4 a0 a5 n1a n1b) ?_
  intro v1 h1 hv1
  obtain ⟨r1, bb, hv1⟩ := hv1
  have lr := hv1.2.2
  rw [hv1.1, hv1.2.1]
  clear hv1 v1 h1
  refine E_br hE (fun hb1 => ?_) (fun hb1 => ?_)
  · have lr1 : LessR R d g at_.toNat r1 true := hb1 ▸ lr
    have l1 := lr1.len
    cbv
    refine E_nm hE (fun g' hg' => ?_)
    cbv
    refine E_callH hE (h_more d [0, 0] r1 Q at_ (E.bin .add .i64 (E.len x) 1) ld lr1.lb (by rw [l1]; exact a4) a0 (by rw [l1]; exact a5) n1a (by rw [l1]; exact n1b)) ?_
    intro v1 h1 hv1
    obtain ⟨r2, hv1⟩ := hv1
    have mr := hv1.2.2
    rw [hv1.1, hv1.2.1]
    clear hv1 v1 h1
    have dn := fun e => div_less inv ld d2 d0 a0 a1 eg lr1 mr (g' := g') e
    have l2 := mr.len.trans l1
    cbv
    repeat' (first
    | (refine E_br hE (fun h => ?_) (fun h => ?_) <;> cbv)
    | (refine E_nm hE (fun v hv => ?_); cbv)
    | (refine E_nilS hE (fun b hb => ?_); cbv)
    | fail)
    all_goals (try refine ⟨(E.bin .add .i64 i 1, r2, E.set Q at_ g'), ?_, ?_, stLe rfl ?_⟩)
    all_goals (try ((repeat' (first | exact t_nil | apply t_cons | exact u2_sli | exact u2_int | exact u2_bool | exact u2_ms | exact u2_ptr | exact (rfl : sle2 .s0 .s0))); done))
    all_goals (subst hE)
    · exact (next _ r2 g' rfl l2 (dn hg')).1
    · exact (next _ r2 g' rfl l2 (dn hg')).2
    all_goals (first | exact absurd a0 (leq_f h) | exact absurd aq (lss_f h))
  · have lr1 : LessR R d g at_.toNat r1 false := hb1 ▸ lr
    have dn := div_same inv ld d2 d0 a0 a1 eg lr1
    have l1 := lr1.len
    cbv
    repeat' (first
    | (refine E_br hE (fun h => ?_) (fun h => ?_) <;> cbv)
    | (refine E_nm hE (fun v hv => ?_); cbv)
    | (refine E_nilS hE (fun b hb => ?_); cbv)
    | fail)
    all_goals (try refine ⟨(E.bin .add .i64 i 1, r1, E.set Q at_ g), ?_, ?_, stLe rfl ?_⟩)
    all_goals (try ((repeat' (first | exact t_nil | apply t_cons | exact u2_sli | exact u2_int | exact u2_bool | exact u2_ms | exact u2_ptr | exact (rfl : sle2 .s0 .s0))); done))
    all_goals (subst hE)
    · exact (next _ r1 g rfl l1 dn).1
    · exact (next _ r1 g rfl l1 dn).2
    all_goals (first | exact absurd a0 (leq_f h) | exact absurd aq (lss_f h))
  all_goals trace_state

end Go.Proofs.YtpadpcjdakfokaaDoor.Ev

/- Contracts: the root of limbs. Printed by gen.py. -/
namespace Go.Proofs.YtpadpcjdakfokaaDoor.Ev
open Go Go.Proofs
set_option linter.unusedVariables false
set_option linter.unusedSimpArgs false


attribute [local irreducible] Lb
end Go.Proofs.YtpadpcjdakfokaaDoor.Ev

/- Contracts: whole numbers as numbers, the quotient. Printed by gen.py out of C9.spec. -/
namespace Go.Proofs.YtpadpcjdakfokaaDoor.Ev
open Go Go.Proofs
set_option linter.unusedVariables false
set_option linter.unusedSimpArgs false

theorem c_Of (n : Int) (h0 : -9223372036854775808 ≤ n) (h1 : n < 9223372036854775808) : ∃ t : Num, t = Num.ofInt n ∧ CallsA Tryd.prog 28 [.int .i64 (.s n)] (t.av) := by
  refine ⟨_, rfl, ?_⟩
  generalize hr : Num.ofInt n = r
  refine callsA_of hG hm Tryd.func28 (by kernel_rfl) ?_
  intro E hE lp hl
  cbv
  repeat' (first
    | (refine E_br hE (fun h => ?_) (fun h => ?_) <;> cbv)
    | (refine E_nm hE (fun v hv => ?_); cbv)
    | (apply E_callX hE (c_LZ64 _ ?_ ?_); (case hf => rfl); (case hc => (cbv <;> trivial)); (case hle => exact u_up); all_goals (first | (intro t ht; cbv) | (subst hE; (try simp only [realE, cmp_eql, cmp_neq, cmp_lss, cmp_leq, cmp_gtr, cmp_geq, intBinR, decide_eq_true_eq, decide_eq_false_iff_not, SI.val, SB.val, Num.eta, Iv.eta] at *); (subst_vars; simp only [wu64]; omega))))
    | fail)
  all_goals (subst hE; subst hr)
  all_goals (try simp only [realE, cmp_eql, cmp_neq, cmp_lss, cmp_leq, cmp_gtr, cmp_geq, intBinR, decide_eq_true_eq, decide_eq_false_iff_not, SI.val, SB.val, Num.eta, Iv.eta] at *)
  all_goals (try subst_vars)
  all_goals (first | rw [wabs_neg h0 ‹n < 0›] at * | rw [wabs_pos (show 0 ≤ n by omega) h1] at *)
  all_goals (try (exfalso; have := blen_le 64 (x := (n.natAbs : Int)) (by omega); omega))
  case refine_2.hK.refine_1 =>
    have e : n = 0 := by omega
    subst e
    exact ⟨rfl, rfl, rfl, rfl, trivial⟩
  all_goals (unfold Num.ofInt; rw [if_neg (by omega)]; exact ⟨rfl, rfl, rfl, rfl, trivial⟩)

end Go.Proofs.YtpadpcjdakfokaaDoor.Ev

/- Contracts: words and limbs. Printed by gen.py. -/
namespace Go.Proofs.YtpadpcjdakfokaaDoor.Ev
open Go Go.Proofs
set_option linter.unusedVariables false
set_option linter.unusedSimpArgs false


attribute [local irreducible] Lb
theorem word_next {a : List Int} {i n : Int} (ha : Lb a) (hl : a.length ≤ 2) (h1 : 0 ≤ i) (h2 : i < a.length) (hn : n = lv (a.take i.toNat)) {i' x v j : Int} (ei : i' = i) (ex : x = a.getD i.toNat 0)
    (ev : v = intBinR .or .u64 n (intBinR .shl .u64 (IntKind.u64.wrap x) (intBinR .mul .i64 32 i'))) (ej : j = intBinR .add .i64 i 1) :
    0 ≤ j ∧ j ≤ a.length ∧ ((a.length : Int) - j).toNat < ((a.length : Int) - i).toNat ∧ v = lv (a.take j.toNat) := by
  subst ei
  have hx := ha.getD i'.toNat
  have ej' : j = i' + 1 := by rw [ej]; show IntKind.i64.wrap (i' + 1) = _; rw [wi64_id (by omega) (by omega)]
  refine ⟨by omega, by omega, by omega, ?_⟩
  rw [ej', show (i' + 1).toNat = i'.toNat + 1 by omega, lv_take_succ (by omega), ← ex]
  rw [← ex] at hx
  rw [wu64_id hx.1 (by omega)] at ev
  rcases (show i' = 0 ∨ i' = 1 by omega) with rfl | rfl
  · have e0 : n = 0 := by rw [hn]; rfl
    have e1 : intBinR .shl .u64 x (intBinR .mul .i64 32 0) = x := by
      show IntKind.u64.wrap (x * 2 ^ min (IntKind.i64.wrap (32 * 0)).toNat IntKind.u64.bits) = _
      rw [show min (IntKind.i64.wrap (32 * 0)).toNat IntKind.u64.bits = 0 by decide, wu64]
      simp only [Int.pow_zero, Int.mul_one]
      omega
    rw [e1, e0] at ev
    have e2 : intBinR .or .u64 0 x = 0 + 2 ^ 0 * x := by
      have := or64 (l := x) (m := 0) hx.1 hx.2 (by omega) (by omega)
      show IntKind.u64.wrap ((BitVec.ofInt 64 0 ||| BitVec.ofInt 64 x).toNat : Int) = _
      rw [BitVec.or_comm]
      simp only [Int.zero_mul] at this
      rw [this]; omega
    rw [ev, e2, show (Int.toNat 0) = 0 by rfl, List.take_zero]
    simp only [lv, Nat.pow_zero]
    omega
  · have hn0 : 0 ≤ n ∧ n < 4294967296 := by
      have := lv_take_lt ha 1 (by omega)
      rw [show (1 : Int).toNat = 1 by rfl] at hn
      omega
    have e1 : intBinR .shl .u64 x (intBinR .mul .i64 32 1) = x * 4294967296 := by
      show IntKind.u64.wrap (x * 2 ^ min (IntKind.i64.wrap (32 * 1)).toNat IntKind.u64.bits) = _
      rw [show min (IntKind.i64.wrap (32 * 1)).toNat IntKind.u64.bits = 32 by decide, wu64]
      have : (2 : Int) ^ 32 = 4294967296 := by decide
      rw [this]; omega
    rw [e1] at ev
    have e2 : intBinR .or .u64 n (x * 4294967296) = n + x * 4294967296 := or64 hn0.1 hn0.2 hx.1 hx.2
    rw [ev, e2, show (Int.toNat 1) = 1 by rfl]
    rw [show (1 : Int).toNat = 1 by rfl] at hn
    rw [hn]
    omega

def wordS (E : Env) (a : List Int) : Int × Int → St := fun p => ⟨[(3, .int .u64 (.s p.2)), (6, .sli .u32 a), (7, .int .i64 (.s (E.len a))), (8, .int .i64 (.s p.1))], []⟩
theorem c_word (a : List Int) (ha : Lb a) (hl : a.length ≤ 2) : ∃ t : Int, t = lv a ∧ CallsA Tryd.prog 105 [.sli .u32 a] (.int .u64 (.s t)) := by
  refine ⟨_, rfl, ?_⟩
  generalize hr : (lv a : Int) = r
  obtain ⟨m, em⟩ : ∃ m : Int × Int → Nat, ∀ p, m p = (a.length - p.1).toNat := ⟨_, fun _ => rfl⟩
  obtain ⟨ok, eok⟩ : ∃ ok : Int × Int → Prop, ∀ p, ok p ↔ 0 ≤ p.1 ∧ p.1 ≤ a.length ∧ p.2 = lv (a.take p.1.toNat) := ⟨_, fun _ => Iff.rfl⟩
  refine callsA_of hG hm Tryd.func105 (by kernel_rfl) ?_
  intro E hE lp hl'
  cbv
  repeat' (first
    | (refine E_br hE (fun h => ?_) (fun h => ?_) <;> cbv)
    | (refine E_nm hE (fun v hv => ?_); cbv)
    | (refine E_nilS hE (fun b hb => ?_); cbv)
    | fail)
  refine E_loop hE hG hm hl' (wordS E a) m ok ⟨(0, 0), (eok _).2 ⟨by show (0 : Int) ≤ 0; omega, by show (0 : Int) ≤ a.length; omega, rfl⟩, stLe rfl ?_⟩ ?_
  · (repeat' (first | exact t_nil | apply t_cons | exact u2_sli | exact u2_int | exact u2_bool | exact u2_ms | exact u2_ptr | exact (rfl : sle2 .s0 .s0)))
  rintro ⟨i, n⟩ hok
  have h1 : 0 ≤ i := ((eok _).1 hok).1
  have h2 : i ≤ a.length := ((eok _).1 hok).2.1
  have hn : n = lv (a.take i.toNat) := ((eok _).1 hok).2.2
  have fin : ¬ i < a.length → n = r := by
    intro h
    rw [hn, show i.toNat = a.length by omega, List.take_length]; exact hr
  clear hok
  cbv
  repeat' (first
    | (refine E_br hE (fun h => ?_) (fun h => ?_) <;> cbv)
    | (refine E_nm hE (fun v hv => ?_); cbv)
    | (refine E_nilS hE (fun b hb => ?_); cbv)
    | fail)
  all_goals (try refine ⟨(E.bin .add .i64 i 1, v), ?_, ?_, stLe rfl ?_⟩)
  all_goals (try ((repeat' (first | exact t_nil | apply t_cons | exact u2_sli | exact u2_int | exact u2_bool | exact u2_ms | exact u2_ptr | exact (rfl : sle2 .s0 .s0))); done))
  all_goals (subst hE)
  all_goals (try (first
    | (rw [em, em]; exact (word_next ha hl h1 (lss_t ‹_›) hn ‹_ = i› ‹_› ‹_› rfl).2.2.1)
    | (rw [eok]; have q := word_next ha hl h1 (lss_t ‹_›) hn ‹_ = i› ‹_› ‹_› rfl; exact ⟨q.1, q.2.1, q.2.2.2⟩)
    | exact fin (lss_f ‹_›)
    | exact ‹_ = n›.trans (fin (lss_f ‹_›))))
  all_goals (clear fin eok em hn; simp only [NatCast.natCast, Int.ofNat_eq_natCast, realE, cmp_eql, cmp_neq, cmp_lss, cmp_leq, cmp_gtr, cmp_geq, intBinR, decide_eq_true_eq, decide_eq_false_iff_not, SI.val, SB.val, Num.eta, Iv.eta] at *; (try simp only [wi64] at *); omega)

theorem limbs_lb {m : Int} (h0 : 0 ≤ m) (h1 : m < 18446744073709551616) : Lb [m % 4294967296, m / 4294967296] :=
  Lb.cons (by omega) (by omega) (Lb.cons (by omega) (by omega) Lb.nil)
theorem limbs_lv {m : Int} (h0 : 0 ≤ m) : lv [m % 4294967296, m / 4294967296] = m.toNat := by
  simp only [lv]; omega

/-- the root of a finite number -/
def Num.rootF (a : Num) (up : Bool) : Num :=
  if a.e % 2 = 0 then Num.grow false (nsqrt (a.m.toNat * 2 ^ 64)) ((a.e - 64) / 2) (!decide (nsqrt (a.m.toNat * 2 ^ 64) * nsqrt (a.m.toNat * 2 ^ 64) = a.m.toNat * 2 ^ 64)) up
  else Num.grow false (nsqrt (a.m.toNat * 2 ^ 63)) ((a.e - 63) / 2) (!decide (nsqrt (a.m.toNat * 2 ^ 63) * nsqrt (a.m.toNat * 2 ^ 63) = a.m.toNat * 2 ^ 63)) up
def Num.root (a : Num) (up : Bool) : Num × Bool :=
  if a.fair.kind ≠ 0 ∧ a.fair.neg = true then (Num.zero, false) else if a.fair.kind ≠ 1 then (a.fair, true) else (Num.rootF a.fair up, true)

end Go.Proofs.YtpadpcjdakfokaaDoor.Ev

/- Contracts: whole numbers of 64 bits, of what sign; ten, so many times. Printed by gen.py. -/
namespace Go.Proofs.YtpadpcjdakfokaaDoor.Ev
open Go Go.Proofs
set_option linter.unusedVariables false
set_option linter.unusedSimpArgs false

attribute [local irreducible] Lb
theorem c_wFrom (n : Int) (h1 : -9223372036854775808 ≤ n) (h2 : n < 9223372036854775808) : ∃ t : Bool × List Int, t = (decide (n < 0), lim n.natAbs) ∧ CallsA Tryd.prog 11 [.int .i64 (.s n)] (.agg [.bool (.s t.1), .sli .u32 t.2]) := by
  refine ⟨_, rfl, ?_⟩
  generalize hr : ((decide (n < 0), lim n.natAbs) : Bool × List Int) = r
  have lb := limbs_lb (m := (n.natAbs : Int)) (by omega) (by omega)
  obtain ⟨m, em⟩ : ∃ m, m = [(n.natAbs : Int) % 4294967296, (n.natAbs : Int) / 4294967296] := ⟨_, rfl⟩
  rw [← em] at lb
  have ll : m.length ≤ 268435456 := by rw [em]; show (2 : Nat) ≤ _; decide
  have fin : ∀ (c : Bool) (l : List Int) (t : Bool × List Int), c = decide (n < 0) → l = m → t = (c && decide (lv l ≠ 0), lim (lv l)) → t = r := by
    intro c l t hc hl ht
    rw [ht, hl, em, limbs_lv (by omega), ← hr, hc, show ((n.natAbs : Nat) : Int).toNat = n.natAbs from rfl]
    by_cases h : n < 0
    · rw [decide_eq_true (p := n.natAbs ≠ 0) (by omega), Bool.and_true]
    · rw [decide_eq_false h, Bool.false_and]
  have wn : ∀ x : Int, x = (n.natAbs : Int) → [IntKind.u32.wrap x, IntKind.u32.wrap (intBinR .shr .u64 x 32)] = m := by
    intro x hx
    have e1 : intBinR .shr .u64 x 32 = x / 4294967296 := shr32 x
    rw [em, e1, hx, wu32, wu32, Int.emod_eq_of_lt (a := (n.natAbs : Int) / 4294967296) (by omega) (by omega)]
  clear hr em
  refine callsA_of hG hm Tryd.func11 (by kernel_rfl) ?_
  intro E hE lp hl'
  cbv
  refine E_nm hE (fun u hu => ?_); cbv
  refine E_br hE (fun g => ?_) (fun g => ?_) <;> cbv
  · have hn : n < 0 := by subst hE; exact lss_t g
    refine E_nm hE (fun v hv => ?_); cbv
    have k : E.sub [E.conv .u32 v, E.conv .u32 (E.bin .shr .u64 v 32)] 0 2 = m := by
      subst hE
      exact wn v (by have a : u = IntKind.u64.wrap n := hu; have b : v = IntKind.u64.wrap (0 - u) := hv; have c : (n.natAbs : Int) = -n := Int.ofNat_natAbs_of_nonpos (by omega); simp only [wu64] at a b; exact (show v = -n by omega).trans c.symm)
    (first | (apply E_pcallX hE (c_wMake _ _ ?_ ?_); (case hm => rfl); (case hle => (repeat' (first | exact u_nil | apply u_cons | apply u2_agg | exact u2_int | exact u1_int | exact u2_bool | exact u1_bool | exact u2_sli | exact u1_sli | exact u2_s0 | exact u1_s0))); all_goals (first | (intro t ht; cbv) | (first | exact k ▸ lb | exact k ▸ ll))) | (apply E_callX hE (c_wMake _ _ ?_ ?_); (case hf => rfl); (case hc => (cbv <;> trivial)); (case hle => (repeat' (first | exact u_nil | apply u_cons | apply u2_agg | exact u2_int | exact u1_int | exact u2_bool | exact u1_bool | exact u2_sli | exact u1_sli | exact u2_s0 | exact u1_s0))); all_goals (first | (intro t ht; cbv) | (first | exact k ▸ lb | exact k ▸ ll))))
    rw [← fin _ _ t (by subst hE; rfl) k ht]; exact ⟨rfl, rfl, trivial⟩
  · have hn : ¬ n < 0 := by subst hE; exact lss_f g
    have k : E.sub [E.conv .u32 u, E.conv .u32 (E.bin .shr .u64 u 32)] 0 2 = m := by
      subst hE
      exact wn u (by have a : u = IntKind.u64.wrap n := hu; have c : (n.natAbs : Int) = n := Int.natAbs_of_nonneg (by omega); simp only [wu64] at a; exact (show u = n by omega).trans c.symm)
    (first | (apply E_pcallX hE (c_wMake _ _ ?_ ?_); (case hm => rfl); (case hle => (repeat' (first | exact u_nil | apply u_cons | apply u2_agg | exact u2_int | exact u1_int | exact u2_bool | exact u1_bool | exact u2_sli | exact u1_sli | exact u2_s0 | exact u1_s0))); all_goals (first | (intro t ht; cbv) | (first | exact k ▸ lb | exact k ▸ ll))) | (apply E_callX hE (c_wMake _ _ ?_ ?_); (case hf => rfl); (case hc => (cbv <;> trivial)); (case hle => (repeat' (first | exact u_nil | apply u_cons | apply u2_agg | exact u2_int | exact u1_int | exact u2_bool | exact u1_bool | exact u2_sli | exact u1_sli | exact u2_s0 | exact u1_s0))); all_goals (first | (intro t ht; cbv) | (first | exact k ▸ lb | exact k ▸ ll))))
    rw [← fin _ _ t (by subst hE; rfl) k ht]; exact ⟨rfl, rfl, trivial⟩

theorem c_wSign (na : Bool) (a : List Int) (ha : Lb a) (hla : a.length < 67108864) : ∃ t : Int, t = (if lv a = 0 then 0 else if na then -1 else 1) ∧ CallsA Tryd.prog 40 [.agg [.bool (.s na), .sli .u32 a]] (.int .i64 (.s t)) := by
  refine ⟨_, rfl, ?_⟩
  generalize hr : (if lv a = 0 then 0 else if na then -1 else 1 : Int) = r
  have z : lv a = 0 → 0 = r := fun h => by rw [← hr, if_pos h]
  have o : lv a ≠ 0 → na = true → -1 = r := fun h k => by rw [← hr, if_neg h, if_pos k]
  have p : lv a ≠ 0 → na = false → 1 = r := fun h k => by rw [← hr, if_neg h, k]; rfl
  have bz : blen (lv a : Int) = 0 ↔ lv a = 0 := by
    constructor
    · intro h
      rcases Nat.eq_zero_or_pos (lv a) with k | k
      · exact k
      · obtain ⟨n, hn, _⟩ := blen_pos (x := (lv a : Int)) (by omega); omega
    · intro h; rw [h]; rfl
  clear hr
  refine callsA_of hG hm Tryd.func40 (by kernel_rfl) ?_
  intro E hE lp hl'
  cbv
  (first | (apply E_pcallX hE (c_natLen a ha hla); (case hm => rfl); (case hle => (repeat' (first | exact u_nil | apply u_cons | apply u2_agg | exact u2_int | exact u1_int | exact u2_bool | exact u1_bool | exact u2_sli | exact u1_sli | exact u2_s0 | exact u1_s0))); all_goals (first | (intro t ht; cbv) | (assumption))) | (apply E_callX hE (c_natLen a ha hla); (case hf => rfl); (case hc => (cbv <;> trivial)); (case hle => (repeat' (first | exact u_nil | apply u_cons | apply u2_agg | exact u2_int | exact u1_int | exact u2_bool | exact u1_bool | exact u2_sli | exact u1_sli | exact u2_s0 | exact u1_s0))); all_goals (first | (intro t ht; cbv) | (assumption))))
  have ht : t = blen (lv a : Int) := ht
  refine E_br hE (fun g => ?_) (fun g => ?_) <;> cbv
  · rw [← z (bz.1 (ht ▸ (by subst hE; exact eql_t g)))]
  have nz : lv a ≠ 0 := fun h => (show ¬ t = 0 by subst hE; exact eql_f g) (ht.trans (bz.2 h))
  refine E_br hE (fun g => ?_) (fun g => ?_) <;> cbv
  · rw [← o nz g]
  · rw [← p nz g]

end Go.Proofs.YtpadpcjdakfokaaDoor.Ev

/- Contracts: what is left of limbs. Printed by gen.py. -/
namespace Go.Proofs.YtpadpcjdakfokaaDoor.Ev
open Go Go.Proofs
set_option linter.unusedVariables false
set_option linter.unusedSimpArgs false


attribute [local irreducible] Lb
def subI (E : Env) (x y : List Int) : Int × Int × List Int → St := fun p => ⟨[(0, .sli .u32 x), (1, .sli .u32 y), (6, .ms 0 1 (.l 0) (.s (E.len x))), (7, .int .u32 (.s p.2.1)), (22, .int .i64 (.s (E.len x))), (23, .int .i64 (.s p.1))], [.ints true .u32 p.2.2]⟩
theorem c_natSub (a b : List Int) (ha : Lb a) (hb : Lb b) (hla : a.length < 134217728) (hlb : b.length < 134217728) : ∃ t : List Int × Bool, t = (if lv a < lv b then ([], false) else (lim (lv a - lv b), true)) ∧ CallsA Tryd.prog 39 [.sli .u32 a, .sli .u32 b] (.tup [.sli .u32 t.1, .bool (.s t.2)]) := by
  refine ⟨_, rfl, ?_⟩
  generalize hr : (if lv a < lv b then ([], false) else (lim (lv a - lv b), true) : List Int × Bool) = r
  have hlx := lim_length_le' ha
  have hly := lim_length_le' hb
  have hx := lim_lb (lv a)
  have hy := lim_lb (lv b)
  have vx := lv_lim (lv a)
  have vy := lv_lim (lv b)
  have hlen : lv b ≤ lv a → (lim (lv b)).length ≤ (lim (lv a)).length := lim_mono
  obtain ⟨x, ex⟩ : ∃ x, lim (lv a) = x := ⟨_, rfl⟩
  obtain ⟨y, ey⟩ : ∃ y, lim (lv b) = y := ⟨_, rfl⟩
  rw [ex] at hlx hx vx hlen
  rw [ey] at hly hy vy hlen
  rw [← vx, ← vy] at hr hlen
  have lx : x.length < 134217728 := by omega
  have ly : y.length < 134217728 := by omega
  have cx : x.length ≤ 268435456 := by omega
  have cy : y.length ≤ 268435456 := by omega
  have ca : a.length < 9223372036854775808 := by omega
  have cb : b.length < 9223372036854775808 := by omega
  refine callsA_of hG hm Tryd.func39 (by kernel_rfl) ?_
  intro E hE lp hl
  cbv
  (first | (apply E_pcallX hE (c_cut a ha ca); (case hm => rfl); (case hle => (repeat' (first | exact u_nil | apply u_cons | apply u2_agg | exact u2_int | exact u1_int | exact u2_bool | exact u1_bool | exact u2_sli | exact u1_sli | exact u2_s0 | exact u1_s0))); all_goals (first | (intro x' hx'; cbv) | (assumption))) | (apply E_callX hE (c_cut a ha ca); (case hf => rfl); (case hc => (cbv <;> trivial)); (case hle => (repeat' (first | exact u_nil | apply u_cons | apply u2_agg | exact u2_int | exact u1_int | exact u2_bool | exact u1_bool | exact u2_sli | exact u1_sli | exact u2_s0 | exact u1_s0))); all_goals (first | (intro x' hx'; cbv) | (assumption))))
  have hx2 : x' = x := Eq.trans hx' ex
  rw [hx2]
  clear hx' hx2
  (first | (apply E_pcallX hE (c_cut b hb cb); (case hm => rfl); (case hle => (repeat' (first | exact u_nil | apply u_cons | apply u2_agg | exact u2_int | exact u1_int | exact u2_bool | exact u1_bool | exact u2_sli | exact u1_sli | exact u2_s0 | exact u1_s0))); all_goals (first | (intro y' hy'; cbv) | (assumption))) | (apply E_callX hE (c_cut b hb cb); (case hf => rfl); (case hc => (cbv <;> trivial)); (case hle => (repeat' (first | exact u_nil | apply u_cons | apply u2_agg | exact u2_int | exact u1_int | exact u2_bool | exact u1_bool | exact u2_sli | exact u1_sli | exact u2_s0 | exact u1_s0))); all_goals (first | (intro y' hy'; cbv) | (assumption))))
  have hy2 : y' = y := Eq.trans hy' ey
  rw [hy2]
  clear hy' hy2
  (first | (apply E_pcallX hE (c_natCmp x y hx hy cx cy); (case hm => rfl); (case hle => (repeat' (first | exact u_nil | apply u_cons | apply u2_agg | exact u2_int | exact u1_int | exact u2_bool | exact u1_bool | exact u2_sli | exact u1_sli | exact u2_s0 | exact u1_s0))); all_goals (first | (intro q hq; cbv) | (assumption))) | (apply E_callX hE (c_natCmp x y hx hy cx cy); (case hf => rfl); (case hc => (cbv <;> trivial)); (case hle => (repeat' (first | exact u_nil | apply u_cons | apply u2_agg | exact u2_int | exact u1_int | exact u2_bool | exact u1_bool | exact u2_sli | exact u1_sli | exact u2_s0 | exact u1_s0))); all_goals (first | (intro q hq; cbv) | (assumption))))
  have hq : q = (if lv x < lv y then -1 else if lv y < lv x then 1 else 0 : Int) := hq
  refine E_br hE (fun g => ?_) (fun g => ?_)
  · have g : q < 0 := by subst hE; exact lss_t g
    have k : lv x < lv y := by
      by_cases k : lv x < lv y
      · exact k
      · rw [hq, if_neg k] at g; split at g <;> omega
    rw [if_pos k] at hr
    cbv
    rw [← hr]
    exact ⟨rfl, rfl, trivial⟩
  have hle : lv y ≤ lv x := by
    have g : ¬ q < 0 := by subst hE; exact lss_f g
    by_cases k : lv x < lv y
    · rw [hq, if_pos k] at g; exact absurd (by decide) g
    · omega
  rw [if_neg (by omega)] at hr
  have hxy := hlen hle
  clear hq g hlen
  cbv
  repeat' (first
    | (refine E_br hE (fun h => ?_) (fun h => ?_) <;> cbv)
    | (refine E_nm hE (fun v hv => ?_); cbv)
    | (refine E_nilS hE (fun b hb => ?_); cbv)
    | fail)
  all_goals (try (exfalso; subst hE; simp only [NatCast.natCast, Int.ofNat_eq_natCast, realE, cmp_eql, cmp_neq, cmp_lss, cmp_leq, cmp_gtr, cmp_geq, intBinR, decide_eq_true_eq, decide_eq_false_iff_not, SI.val, SB.val, Num.eta, Iv.eta] at *; omega))
  obtain ⟨m, em⟩ : ∃ m : Int × Int × List Int → Nat, ∀ p, m p = (x.length - p.1).toNat := ⟨_, fun _ => rfl⟩
  obtain ⟨ok, eok⟩ : ∃ ok : Int × Int × List Int → Prop, ∀ p, ok p ↔ 0 ≤ p.1 ∧ p.1 ≤ x.length ∧ SubInv x y p.2.2 p.1.toNat p.2.1 := ⟨_, fun _ => Iff.rfl⟩
  refine E_loop hE hG hm hl (subI E x y) m ok ⟨(0, 0, E.rep (E.len x)), (eok _).2 ?_, stLe rfl ?_⟩ ?_
  · refine ⟨by show (0 : Int) ≤ 0; omega, by show (0 : Int) ≤ x.length; omega, ?_⟩
    have := SubInv.start x y
    subst hE; simp only [NatCast.natCast, Int.ofNat_eq_natCast, realE, cmp_eql, cmp_neq, cmp_lss, cmp_leq, cmp_gtr, cmp_geq, intBinR, decide_eq_true_eq, decide_eq_false_iff_not, SI.val, SB.val, Num.eta, Iv.eta] at *
    exact this
  · (repeat' (first | exact t_nil | apply t_cons | exact u2_sli | exact u2_int | exact u2_bool | exact u2_ms | exact u2_ptr | exact (rfl : sle2 .s0 .s0)))
  rintro ⟨i, c, out⟩ hok
  obtain ⟨h1, h2, inv⟩ := (eok _).1 hok
  dsimp only at h1 h2 inv
  have hgx := hx.getD i.toNat
  have hgy := hy.getD i.toNat
  have hc0 := inv.c0
  have hc1 := inv.c1
  have hol := inv.len
  have next : ∀ (j k c' z : Int) (v : Int × Int), i < x.length → k = i → j = IntKind.i64.wrap (i + 1) → (z = y.getD k.toNat 0 ∨ (¬ k < y.length ∧ z = 0)) →
      v = ((x.getD k.toNat 0 - z - c) % 4294967296, (if x.getD k.toNat 0 < z + c then 1 else 0 : Int)) → c' = v.2 →
      m (j, c', out.set k.toNat v.1) < m (i, c, out) ∧ ok (j, c', out.set k.toNat v.1) := by
    intro j k c' z v h hk hj hz hv hc
    subst hk
    have hz : z = y.getD k.toNat 0 := by
      rcases hz with hz | ⟨hz, h0⟩
      · exact hz
      · rw [h0, getD_past (by omega)]
    have hj : j = k + 1 := by rw [hj, wi64_id (by omega) (by omega)]
    refine ⟨by rw [em, em]; show ((x.length : Int) - j).toNat < ((x.length : Int) - k).toNat; omega, (eok _).2 ⟨by show 0 ≤ j; omega, by show j ≤ (x.length : Int); omega, ?_⟩⟩
    have := inv.step hx hy (by omega)
    rw [← hz] at this
    rw [hc, hv, hj]
    show SubInv x y (out.set k.toNat ((x.getD k.toNat 0 - z - c) % 4294967296)) (k + 1).toNat (if x.getD k.toNat 0 < z + c then 1 else 0)
    rw [show (k + 1).toNat = k.toNat + 1 by omega]
    exact this
  have fin : ¬ i < x.length → Lb out ∧ (lim (lv out), true) = r := by
    intro h
    rw [show i.toNat = x.length by omega] at inv
    exact ⟨inv.lb, by rw [inv.stop hx hle hxy]; exact hr⟩
  clear inv hok hr
  cbv
  repeat' (first
    | (refine E_br hE (fun h => ?_) (fun h => ?_) <;> cbv)
    | (refine E_nm hE (fun v hv => ?_); cbv)
    | (refine E_nilS hE (fun b hb => ?_); cbv)
    | (apply E_callX hE (c_Sub32 _ _ _ ?_ ?_ ?_ ?_ ?_ ?_); (case hf => rfl); (case hc => (cbv <;> trivial)); (case hle => (repeat' (first | exact u_nil | apply u_cons | apply u2_agg | exact u2_int | exact u1_int | exact u2_bool | exact u1_bool | exact u2_sli | exact u1_sli | exact u2_s0 | exact u1_s0))); all_goals (first | (intro t ht; cbv) | (subst hE; (try simp only [NatCast.natCast, Int.ofNat_eq_natCast, realE, cmp_eql, cmp_neq, cmp_lss, cmp_leq, cmp_gtr, cmp_geq, intBinR, decide_eq_true_eq, decide_eq_false_iff_not, SI.val, SB.val, Num.eta, Iv.eta] at *); subst_vars; (first | assumption | omega))))
    | (apply E_callX hE (c_cut _ ?_ ?_); (case hf => rfl); (case hc => (cbv <;> trivial)); (case hle => (repeat' (first | exact u_nil | apply u_cons | apply u2_agg | exact u2_int | exact u1_int | exact u2_bool | exact u1_bool | exact u2_sli | exact u1_sli | exact u2_s0 | exact u1_s0))); all_goals (first | (intro t ht; cbv) | ((subst hE; simp only [NatCast.natCast, Int.ofNat_eq_natCast, realE, cmp_eql, cmp_neq, cmp_lss, cmp_leq, cmp_gtr, cmp_geq, intBinR, decide_eq_true_eq, decide_eq_false_iff_not, SI.val, SB.val, Num.eta, Iv.eta] at *; rw [sub_all (by omega)]; first | exact (fin ‹_›).1 | omega))))
    | fail)
  all_goals (try refine ⟨(E.bin .add .i64 i 1, v, E.set out _ t.1), ?_, ?_, stLe rfl ?_⟩)
  all_goals (try ((repeat' (first | exact t_nil | apply t_cons | exact u2_sli | exact u2_int | exact u2_bool | exact u2_ms | exact u2_ptr | exact (rfl : sle2 .s0 .s0))); done))
  all_goals (subst hE; simp only [NatCast.natCast, Int.ofNat_eq_natCast, realE, cmp_eql, cmp_neq, cmp_lss, cmp_leq, cmp_gtr, cmp_geq, intBinR, decide_eq_true_eq, decide_eq_false_iff_not, SI.val, SB.val, Num.eta, Iv.eta] at *)
  all_goals (first | exact (next _ _ _ _ _ ‹_› ‹_› rfl (by first | exact .inl ‹_› | exact .inr ⟨‹_›, rfl⟩) ‹t = _› ‹_›).1 | exact (next _ _ _ _ _ ‹_› ‹_› rfl (by first | exact .inl ‹_› | exact .inr ⟨‹_›, rfl⟩) ‹t = _› ‹_›).2 | (exfalso; clear next fin; omega) | skip)
  have k := fin ‹_›
  rw [← k.2]
  refine ⟨?_, rfl, trivial⟩
  rw [‹t = _›, sub_all (by omega)]

end Go.Proofs.YtpadpcjdakfokaaDoor.Ev

/- Contracts: whole numbers, by their values. Printed by gen.py. -/
namespace Go.Proofs.YtpadpcjdakfokaaDoor.Ev
open Go Go.Proofs
set_option linter.unusedVariables false
set_option linter.unusedSimpArgs false

attribute [local irreducible] Lb
/-- the value of a whole number -/
def wv (na : Bool) (a : List Int) : Int := if na then -(lv a : Int) else lv a
/-- a whole number, as it may be -/
def whN (z : Int) : Bool × List Int := (decide (z < 0), lim z.natAbs)
theorem whN_of (na : Bool) (n : Nat) : (na && decide (n ≠ 0), lim n) = whN (if na then -(n : Int) else n) := by
  unfold whN
  cases na
  · simp only [Bool.false_and, Bool.false_eq_true, if_false]
    rw [decide_eq_false (by omega), Int.natAbs_natCast]
  · simp only [Bool.true_and, if_true]
    rw [Int.natAbs_neg, Int.natAbs_natCast]
    congr 1
    apply decide_eq_decide.2; omega
theorem wv_whN (z : Int) : wv (whN z).1 (whN z).2 = z := by
  unfold wv whN
  simp only [lv_lim, decide_eq_true_eq]
  split <;> omega
theorem whN_lb (z : Int) : Lb (whN z).2 := lim_lb _
theorem whN_len {z : Int} {k : Nat} (h : z.natAbs < 4294967296 ^ k) : (whN z).2.length ≤ k := lim_length_le h
theorem c_wAdd (na : Bool) (a : List Int) (nb : Bool) (b : List Int) (ha : Lb a) (hb : Lb b) (hla : a.length < 134217728) (hlb : b.length < 134217728) :
    ∃ t : Bool × List Int, t = whN (wv na a + wv nb b) ∧ CallsA Tryd.prog 10 [.agg [.bool (.s na), .sli .u32 a], .agg [.bool (.s nb), .sli .u32 b]] (.agg [.bool (.s t.1), .sli .u32 t.2]) := by
  refine ⟨_, rfl, ?_⟩
  generalize hr : whN (wv na a + wv nb b) = r
  have la : a.length < 268435456 := by omega
  have lb : b.length < 268435456 := by omega
  have one : na = nb → (na && decide (lv a + lv b ≠ 0), lim (lv a + lv b)) = r := by
    intro e; subst e
    rw [← hr, whN_of]; unfold wv; congr 1; cases na <;> simp; omega
  have two : na ≠ nb → ¬ lv a < lv b → (na && decide (lv a - lv b ≠ 0), lim (lv a - lv b)) = r := by
    intro e h
    rw [← hr, whN_of]; unfold wv; congr 1; cases na <;> cases nb <;> simp at e ⊢ <;> omega
  have three : na ≠ nb → lv a < lv b → (nb && decide (lv b - lv a ≠ 0), lim (lv b - lv a)) = r := by
    intro e h
    rw [← hr, whN_of]; unfold wv; congr 1; cases na <;> cases nb <;> simp at e ⊢ <;> omega
  have lim1 : (lim (lv a + lv b)).length ≤ 268435456 := by have h := lim_add_len (m := lv a) (n := lv b) (k := 134217728) (by have := lim_length_le' ha; omega) (by have := lim_length_le' hb; omega); omega
  have lim2 : (lim (lv a - lv b)).length ≤ 268435456 := by have := lim_mono (Nat.sub_le (lv a) (lv b)); have := lim_length_le' ha; omega
  have lim3 : (lim (lv b - lv a)).length ≤ 268435456 := by have := lim_mono (Nat.sub_le (lv b) (lv a)); have := lim_length_le' hb; omega
  clear hr
  refine callsA_of hG hm Tryd.func10 (by kernel_rfl) ?_
  intro E hE lp hl'
  cbv
  refine E_br hE (fun g => ?_) (fun g => ?_) <;> cbv
  · have g : na = nb := by subst hE; exact eq_of_beq g
    (first | (apply E_pcallX hE (c_natAdd a b ha hb la lb); (case hm => rfl); (case hle => (repeat' (first | exact u_nil | apply u_cons | apply u2_agg | exact u2_int | exact u1_int | exact u2_bool | exact u1_bool | exact u2_sli | exact u1_sli | exact u2_s0 | exact u1_s0))); all_goals (first | (intro u hu; cbv) | (assumption))) | (apply E_callX hE (c_natAdd a b ha hb la lb); (case hf => rfl); (case hc => (cbv <;> trivial)); (case hle => (repeat' (first | exact u_nil | apply u_cons | apply u2_agg | exact u2_int | exact u1_int | exact u2_bool | exact u1_bool | exact u2_sli | exact u1_sli | exact u2_s0 | exact u1_s0))); all_goals (first | (intro u hu; cbv) | (assumption))))
    have hu : u = lim (lv a + lv b) := hu
    have ub : Lb u := by rw [hu]; exact lim_lb _
    have ul : u.length ≤ 268435456 := by rw [hu]; exact lim1
    (first | (apply E_pcallX hE (c_wMake na u ub ul); (case hm => rfl); (case hle => (repeat' (first | exact u_nil | apply u_cons | apply u2_agg | exact u2_int | exact u1_int | exact u2_bool | exact u1_bool | exact u2_sli | exact u1_sli | exact u2_s0 | exact u1_s0))); all_goals (first | (intro t ht; cbv) | (assumption))) | (apply E_callX hE (c_wMake na u ub ul); (case hf => rfl); (case hc => (cbv <;> trivial)); (case hle => (repeat' (first | exact u_nil | apply u_cons | apply u2_agg | exact u2_int | exact u1_int | exact u2_bool | exact u1_bool | exact u2_sli | exact u1_sli | exact u2_s0 | exact u1_s0))); all_goals (first | (intro t ht; cbv) | (assumption))))
    have k : t = r := by
      have k : t = (na && decide (lv u ≠ 0), lim (lv u)) := ht
      rw [k, hu, lv_lim]; exact one g
    rw [← k]; exact ⟨rfl, rfl, trivial⟩
  · have g : na ≠ nb := by subst hE; intro e; rw [e] at g; exact absurd ((beq_self_eq_true nb).symm.trans g) (by decide)
    (first | (apply E_pcallX hE (c_natSub a b ha hb hla hlb); (case hm => rfl); (case hle => (repeat' (first | exact u_nil | apply u_cons | apply u2_agg | exact u2_int | exact u1_int | exact u2_bool | exact u1_bool | exact u2_sli | exact u1_sli | exact u2_s0 | exact u1_s0))); all_goals (first | (intro u hu; cbv) | (assumption))) | (apply E_callX hE (c_natSub a b ha hb hla hlb); (case hf => rfl); (case hc => (cbv <;> trivial)); (case hle => (repeat' (first | exact u_nil | apply u_cons | apply u2_agg | exact u2_int | exact u1_int | exact u2_bool | exact u1_bool | exact u2_sli | exact u1_sli | exact u2_s0 | exact u1_s0))); all_goals (first | (intro u hu; cbv) | (assumption))))
    have hu : u = (if lv a < lv b then ([], false) else (lim (lv a - lv b), true)) := hu
    refine E_br hE (fun q => ?_) (fun q => ?_) <;> cbv
    · have n : ¬ lv a < lv b := by intro h; rw [hu, if_pos h] at q; cases q
      have u1 : u.1 = lim (lv a - lv b) := by rw [hu, if_neg n]
      have ub : Lb u.1 := by rw [u1]; exact lim_lb _
      have ul : u.1.length ≤ 268435456 := by rw [u1]; exact lim2
      (first | (apply E_pcallX hE (c_wMake na u.1 ub ul); (case hm => rfl); (case hle => (repeat' (first | exact u_nil | apply u_cons | apply u2_agg | exact u2_int | exact u1_int | exact u2_bool | exact u1_bool | exact u2_sli | exact u1_sli | exact u2_s0 | exact u1_s0))); all_goals (first | (intro t ht; cbv) | (assumption))) | (apply E_callX hE (c_wMake na u.1 ub ul); (case hf => rfl); (case hc => (cbv <;> trivial)); (case hle => (repeat' (first | exact u_nil | apply u_cons | apply u2_agg | exact u2_int | exact u1_int | exact u2_bool | exact u1_bool | exact u2_sli | exact u1_sli | exact u2_s0 | exact u1_s0))); all_goals (first | (intro t ht; cbv) | (assumption))))
      have k : t = r := by
        have k : t = (na && decide (lv u.1 ≠ 0), lim (lv u.1)) := ht
        rw [k, u1, lv_lim]; exact two g n
      rw [← k]; exact ⟨rfl, rfl, trivial⟩
    · have n : lv a < lv b := by
        by_cases h : lv a < lv b
        · exact h
        · rw [hu, if_neg h] at q; cases q
      (first | (apply E_pcallX hE (c_natSub b a hb ha hlb hla); (case hm => rfl); (case hle => (repeat' (first | exact u_nil | apply u_cons | apply u2_agg | exact u2_int | exact u1_int | exact u2_bool | exact u1_bool | exact u2_sli | exact u1_sli | exact u2_s0 | exact u1_s0))); all_goals (first | (intro u2 hu2; cbv) | (assumption))) | (apply E_callX hE (c_natSub b a hb ha hlb hla); (case hf => rfl); (case hc => (cbv <;> trivial)); (case hle => (repeat' (first | exact u_nil | apply u_cons | apply u2_agg | exact u2_int | exact u1_int | exact u2_bool | exact u1_bool | exact u2_sli | exact u1_sli | exact u2_s0 | exact u1_s0))); all_goals (first | (intro u2 hu2; cbv) | (assumption))))
      have hu2 : u2 = (if lv b < lv a then ([], false) else (lim (lv b - lv a), true)) := hu2
      have u1 : u2.1 = lim (lv b - lv a) := by rw [hu2, if_neg (by omega)]
      have ub : Lb u2.1 := by rw [u1]; exact lim_lb _
      have ul : u2.1.length ≤ 268435456 := by rw [u1]; exact lim3
      (first | (apply E_pcallX hE (c_wMake nb u2.1 ub ul); (case hm => rfl); (case hle => (repeat' (first | exact u_nil | apply u_cons | apply u2_agg | exact u2_int | exact u1_int | exact u2_bool | exact u1_bool | exact u2_sli | exact u1_sli | exact u2_s0 | exact u1_s0))); all_goals (first | (intro t ht; cbv) | (assumption))) | (apply E_callX hE (c_wMake nb u2.1 ub ul); (case hf => rfl); (case hc => (cbv <;> trivial)); (case hle => (repeat' (first | exact u_nil | apply u_cons | apply u2_agg | exact u2_int | exact u1_int | exact u2_bool | exact u1_bool | exact u2_sli | exact u1_sli | exact u2_s0 | exact u1_s0))); all_goals (first | (intro t ht; cbv) | (assumption))))
      have k : t = r := by
        have k : t = (nb && decide (lv u2.1 ≠ 0), lim (lv u2.1)) := ht
        rw [k, u1, lv_lim]; exact three g n
      rw [← k]; exact ⟨rfl, rfl, trivial⟩

theorem c_wSub (na : Bool) (a : List Int) (nb : Bool) (b : List Int) (ha : Lb a) (hb : Lb b) (hla : a.length < 134217728) (hlb : b.length < 134217728) :
    ∃ t : Bool × List Int, t = whN (wv na a - wv nb b) ∧ CallsA Tryd.prog 96 [.agg [.bool (.s na), .sli .u32 a], .agg [.bool (.s nb), .sli .u32 b]] (.agg [.bool (.s t.1), .sli .u32 t.2]) := by
  refine ⟨_, rfl, ?_⟩
  generalize hr : whN (wv na a - wv nb b) = r
  have lb : b.length ≤ 268435456 := by omega
  have lim1 := lim_length_le' hb
  have vn : wv (!nb && decide (lv b ≠ 0)) (lim (lv b)) = - wv nb b := by
    unfold wv; rw [lv_lim]; by_cases h : lv b = 0 <;> cases nb <;> simp [h]
  refine callsA_of hG hm Tryd.func96 (by kernel_rfl) ?_
  intro E hE lp hl'
  cbv
  (first | (apply E_pcallX hE (c_wNeg nb b hb lb); (case hm => rfl); (case hle => (repeat' (first | exact u_nil | apply u_cons | apply u2_agg | exact u2_int | exact u1_int | exact u2_bool | exact u1_bool | exact u2_sli | exact u1_sli | exact u2_s0 | exact u1_s0))); all_goals (first | (intro u hu; cbv) | (assumption))) | (apply E_callX hE (c_wNeg nb b hb lb); (case hf => rfl); (case hc => (cbv <;> trivial)); (case hle => (repeat' (first | exact u_nil | apply u_cons | apply u2_agg | exact u2_int | exact u1_int | exact u2_bool | exact u1_bool | exact u2_sli | exact u1_sli | exact u2_s0 | exact u1_s0))); all_goals (first | (intro u hu; cbv) | (assumption))))
  have hu : u = (!nb && decide (lv b ≠ 0), lim (lv b)) := hu
  have vu : wv u.1 u.2 = - wv nb b := by rw [hu]; exact vn
  have ub : Lb u.2 := by rw [hu]; exact lim_lb _
  have ul : u.2.length < 134217728 := by rw [hu]; show (lim (lv b)).length < _; omega
  (first | (apply E_pcallX hE (c_wAdd na a u.1 u.2 ha ub hla ul); (case hm => rfl); (case hle => (repeat' (first | exact u_nil | apply u_cons | apply u2_agg | exact u2_int | exact u1_int | exact u2_bool | exact u1_bool | exact u2_sli | exact u1_sli | exact u2_s0 | exact u1_s0))); all_goals (first | (intro t ht; cbv) | (assumption))) | (apply E_callX hE (c_wAdd na a u.1 u.2 ha ub hla ul); (case hf => rfl); (case hc => (cbv <;> trivial)); (case hle => (repeat' (first | exact u_nil | apply u_cons | apply u2_agg | exact u2_int | exact u1_int | exact u2_bool | exact u1_bool | exact u2_sli | exact u1_sli | exact u2_s0 | exact u1_s0))); all_goals (first | (intro t ht; cbv) | (assumption))))
  have k : t = r := by
    have k : t = whN (wv na a + wv u.1 u.2) := ht
    rw [k, vu, ← hr]; rfl
  rw [← k]; exact ⟨rfl, rfl, trivial⟩

end Go.Proofs.YtpadpcjdakfokaaDoor.Ev

/- What the contracts of intervals are told with. -/
namespace Go.Proofs.YtpadpcjdakfokaaDoor.Ev
open Go Go.Proofs
set_option linter.unusedVariables false
set_option linter.unusedSimpArgs false
theorem Iv.fin {t r : Iv} (h : t = r) : t.empty = r.empty ∧ t.lo.kind = r.lo.kind ∧ t.lo.neg = r.lo.neg ∧ t.lo.m = r.lo.m ∧ t.lo.e = r.lo.e ∧ t.hi.kind = r.hi.kind ∧ t.hi.neg = r.hi.neg ∧ t.hi.m = r.hi.m ∧ t.hi.e = r.hi.e ∧ True := by
  subst h; exact ⟨rfl, rfl, rfl, rfl, rfl, rfl, rfl, rfl, rfl, trivial⟩
end Go.Proofs.YtpadpcjdakfokaaDoor.Ev

/- Contracts: the opposite of an interval, how far from nought, the square. Printed by gen.py out of C11.spec. -/
namespace Go.Proofs.YtpadpcjdakfokaaDoor.Ev
open Go Go.Proofs
set_option linter.unusedVariables false
set_option linter.unusedSimpArgs false

end Go.Proofs.YtpadpcjdakfokaaDoor.Ev

/- Contracts of dy.Make and num.Exact. Printed by gen.py. -/
namespace Go.Proofs.YtpadpcjdakfokaaDoor.Ev
open Go Go.Proofs
set_option linter.unusedVariables false
set_option linter.unusedSimpArgs false

attribute [local irreducible] Lb
theorem c_within (e : Int) : ∃ t : Bool, t = (decide (-4194304 ≤ e) && decide (e ≤ 4194304)) ∧ CallsA Tryd.prog 41 [.int .i64 (.s e)] (.bool (.s t)) := by
  refine ⟨_, rfl, ?_⟩
  generalize hr : (decide (-4194304 ≤ e) && decide (e ≤ 4194304)) = r
  have z1 : -4194304 ≤ e → decide (e ≤ 4194304) = r := by intro h; rw [← hr, decide_eq_true h]; rfl
  have z2 : ¬ -4194304 ≤ e → false = r := by intro h; rw [← hr, decide_eq_false h]; rfl
  clear hr
  refine callsA_of hG hm Tryd.func41 (by kernel_rfl) ?_
  intro E hE lp hl
  cbv
  refine E_br hE (fun g => ?_) (fun g => ?_) <;> cbv
  · subst hE
    exact (cmp_leq _ _).trans (z1 (geq_t g))
  · subst hE
    exact z2 (geq_f g)
set_option maxHeartbeats 1000000 in
theorem c_dyMake (neg : Bool) (m : List Int) (e : Int) (hm_ : Lb m) (hl_ : m.length < 67108864) (he0 : -9223372036854775808 ≤ e) (he1 : e < 9223372036854775808) :
    ∃ t : Bool × List Int × Int, t = dyL (dyMake neg (lv m) e) ∧ CallsA Tryd.prog 13 [.agg [.bool (.s neg), .sli .u32 m], .int .i64 (.s e)] (.agg [.bool (.s t.1), .sli .u32 t.2.1, .int .i64 (.s t.2.2)]) := by
  refine ⟨_, rfl, ?_⟩
  generalize hr : dyL (dyMake neg (lv m) e) = r
  have vb : 0 < lv m → v2 (lv m) < 32 * 67108864 := by
    intro h
    have l := lv_lt hm_
    rw [show (4294967296 : Nat) = 2 ^ 32 by rfl, ← Nat.pow_mul] at l
    have := v2_lt h l
    omega
  have bad0 : (lv m = 0 ∨ ¬ (-4194304 ≤ e ∧ e ≤ 4194304)) → (false, [], 0) = r := by
    intro h; rw [← hr]; unfold dyMake; rw [if_pos (by omega)]; rfl
  have bad1 : lv m ≠ 0 → (-4194304 ≤ e ∧ e ≤ 4194304) → 4194304 < e + v2 (lv m) → (false, [], 0) = r := by
    intro h g k; rw [← hr]; unfold dyMake; rw [if_neg (by omega), if_pos k]; rfl
  have good : lv m ≠ 0 → (-4194304 ≤ e ∧ e ≤ 4194304) → ¬ 4194304 < e + v2 (lv m) → (neg, lim (lv m / 2 ^ v2 (lv m)), e + v2 (lv m)) = r ∧ lv m / 2 ^ v2 (lv m) ≠ 0 := by
    intro h g k
    refine ⟨by rw [← hr]; unfold dyMake; rw [if_neg (by omega), if_neg k]; rfl, ?_⟩
    have := (v2_spec (lv m) (by omega)).2.1
    intro z; rw [z] at this; cases this
  have ls : ∀ x, x = lim (lv m / 2 ^ ((v2 (lv m) : Int)).toNat) → Lb x ∧ x.length ≤ 268435456 := by
    intro x hx
    rw [hx]
    refine ⟨lim_lb _, ?_⟩
    have l := lv_lt hm_
    have d : lv m / 2 ^ ((v2 (lv m) : Int)).toNat ≤ lv m := Nat.div_le_self _ _
    have := lim_length_le (n := lv m / 2 ^ ((v2 (lv m) : Int)).toNat) (k := m.length) (by omega)
    omega
  clear hr
  obtain ⟨V, hV⟩ : ∃ V : Int, V = v2 (lv m) := ⟨_, rfl⟩
  have hVn : V.toNat = v2 (lv m) := by omega
  have vb : 0 < lv m → 0 ≤ V ∧ V < 32 * 67108864 := fun h => by have := vb h; omega
  rw [← hV] at bad1 good ls
  refine callsA_of hG hm Tryd.func13 (by kernel_rfl) ?_
  intro E hE lp hl
  cbv
  (first | (apply E_pcallX hE (c_wSign neg m hm_ hl_); (case hm => rfl); (case hle => (repeat' (first | exact u_nil | apply u_cons | apply u2_agg | exact u2_int | exact u1_int | exact u2_bool | exact u1_bool | exact u2_sli | exact u1_sli | exact u2_s0 | exact u1_s0))); all_goals (first | (intro s hs; cbv) | (assumption))) | (apply E_callX hE (c_wSign neg m hm_ hl_); (case hf => rfl); (case hc => (cbv <;> trivial)); (case hle => (repeat' (first | exact u_nil | apply u_cons | apply u2_agg | exact u2_int | exact u1_int | exact u2_bool | exact u1_bool | exact u2_sli | exact u1_sli | exact u2_s0 | exact u1_s0))); all_goals (first | (intro s hs; cbv) | (assumption))))
  refine E_br hE (fun g => ?_) (fun g => ?_) <;> cbv
  · have z : lv m = 0 := by
      have g : s = 0 := by subst hE; exact eql_t g
      rw [hs] at g
      by_cases h : lv m = 0
      · exact h
      · rw [if_neg h] at g; split at g <;> cases g
    rw [← bad0 (.inl z)]; exact ⟨rfl, rfl, rfl, trivial⟩
  have n0 : lv m ≠ 0 := by
    have g : ¬ s = 0 := by subst hE; exact eql_f g
    intro z; apply g; rw [hs, if_pos z]
  (first | (apply E_pcallX hE (c_within e); (case hm => rfl); (case hle => (repeat' (first | exact u_nil | apply u_cons | apply u2_agg | exact u2_int | exact u1_int | exact u2_bool | exact u1_bool | exact u2_sli | exact u1_sli | exact u2_s0 | exact u1_s0))); all_goals (first | (intro w hw; cbv) | (assumption))) | (apply E_callX hE (c_within e); (case hf => rfl); (case hc => (cbv <;> trivial)); (case hle => (repeat' (first | exact u_nil | apply u_cons | apply u2_agg | exact u2_int | exact u1_int | exact u2_bool | exact u1_bool | exact u2_sli | exact u1_sli | exact u2_s0 | exact u1_s0))); all_goals (first | (intro w hw; cbv) | (assumption))))
  refine E_br hE (fun g2 => ?_) (fun g2 => ?_) <;> cbv
  · have z : ¬ (-4194304 ≤ e ∧ e ≤ 4194304) := by
      have g2 : w = false := by subst hE; cases w; rfl; exact absurd g2 (by decide)
      rw [hw] at g2
      simp only [Bool.and_eq_false_iff, decide_eq_false_iff_not] at g2
      omega
    rw [← bad0 (.inr z)]; exact ⟨rfl, rfl, rfl, trivial⟩
  have r0 : -4194304 ≤ e ∧ e ≤ 4194304 := by
    have g2 : w = true := by subst hE; cases w; exact absurd g2 (by decide); rfl
    rw [hw] at g2
    simp only [Bool.and_eq_true, decide_eq_true_eq] at g2
    exact g2
  have vb := vb (by omega)
  (first | (apply E_pcallX hE (c_trailing m hm_ hl_ ?_); (case hm => rfl); (case hle => (repeat' (first | exact u_nil | apply u_cons | apply u2_agg | exact u2_int | exact u1_int | exact u2_bool | exact u1_bool | exact u2_sli | exact u1_sli | exact u2_s0 | exact u1_s0))); all_goals (first | (intro b hb; cbv) | (omega))) | (apply E_callX hE (c_trailing m hm_ hl_ ?_); (case hf => rfl); (case hc => (cbv <;> trivial)); (case hle => (repeat' (first | exact u_nil | apply u_cons | apply u2_agg | exact u2_int | exact u1_int | exact u2_bool | exact u1_bool | exact u2_sli | exact u1_sli | exact u2_s0 | exact u1_s0))); all_goals (first | (intro b hb; cbv) | (omega))))
  (try (refine E_nm hE (fun v hv => ?_); cbv))
  have ev : v = V := hv.trans (hb.trans hV.symm)
  have ea : E.bin .add .i64 e v = e + V := by
    rw [ev]; subst hE
    show IntKind.i64.wrap (e + V) = _
    exact wi64_in (by omega) (by omega)
  (first | (apply E_pcallX hE (c_within _); (case hm => rfl); (case hle => (repeat' (first | exact u_nil | apply u_cons | apply u2_agg | exact u2_int | exact u1_int | exact u2_bool | exact u1_bool | exact u2_sli | exact u1_sli | exact u2_s0 | exact u1_s0))); all_goals (first | (intro w2 hw2; cbv) | (assumption))) | (apply E_callX hE (c_within _); (case hf => rfl); (case hc => (cbv <;> trivial)); (case hle => (repeat' (first | exact u_nil | apply u_cons | apply u2_agg | exact u2_int | exact u1_int | exact u2_bool | exact u1_bool | exact u2_sli | exact u1_sli | exact u2_s0 | exact u1_s0))); all_goals (first | (intro w2 hw2; cbv) | (assumption))))
  have hw2 : w2 = (decide (-4194304 ≤ e + V) && decide (e + V ≤ 4194304)) := by rw [← ea]; exact hw2
  refine E_br hE (fun g3 => ?_) (fun g3 => ?_) <;> cbv
  · have z : 4194304 < e + V := by
      have g3 : w2 = false := by subst hE; cases w2; rfl; exact absurd g3 (by decide)
      rw [hw2] at g3
      simp only [Bool.and_eq_false_iff, decide_eq_false_iff_not] at g3
      omega
    rw [← bad1 n0 r0 z]; exact ⟨rfl, rfl, rfl, trivial⟩
  have z : ¬ 4194304 < e + V := by
    have g3 : w2 = true := by subst hE; cases w2; exact absurd g3 (by decide); rfl
    rw [hw2] at g3
    simp only [Bool.and_eq_true, decide_eq_true_eq] at g3
    omega
  obtain ⟨gd, gn⟩ := good n0 r0 z
  (first | (apply E_pcallX hE (c_natShr m v hm_ hl_); (case hm => rfl); (case hle => (repeat' (first | exact u_nil | apply u_cons | apply u2_agg | exact u2_int | exact u1_int | exact u2_bool | exact u1_bool | exact u2_sli | exact u1_sli | exact u2_s0 | exact u1_s0))); all_goals (first | (intro x hx; cbv) | (assumption))) | (apply E_callX hE (c_natShr m v hm_ hl_); (case hf => rfl); (case hc => (cbv <;> trivial)); (case hle => (repeat' (first | exact u_nil | apply u_cons | apply u2_agg | exact u2_int | exact u1_int | exact u2_bool | exact u1_bool | exact u2_sli | exact u1_sli | exact u2_s0 | exact u1_s0))); all_goals (first | (intro x hx; cbv) | (assumption))))
  have hx : x = lim (lv m / 2 ^ v.toNat) := hx
  rw [ev] at hx
  have xb := ls x hx
  (first | (apply E_pcallX hE (c_wMake neg x xb.1 xb.2); (case hm => rfl); (case hle => (repeat' (first | exact u_nil | apply u_cons | apply u2_agg | exact u2_int | exact u1_int | exact u2_bool | exact u1_bool | exact u2_sli | exact u1_sli | exact u2_s0 | exact u1_s0))); all_goals (first | (intro y hy; cbv) | (assumption))) | (apply E_callX hE (c_wMake neg x xb.1 xb.2); (case hf => rfl); (case hc => (cbv <;> trivial)); (case hle => (repeat' (first | exact u_nil | apply u_cons | apply u2_agg | exact u2_int | exact u1_int | exact u2_bool | exact u1_bool | exact u2_sli | exact u1_sli | exact u2_s0 | exact u1_s0))); all_goals (first | (intro y hy; cbv) | (assumption))))
  rw [hVn] at hx
  have hy : y = (neg, lim (lv m / 2 ^ v2 (lv m))) := by
    have k : y = (neg && decide (lv x ≠ 0), lim (lv x)) := hy
    rw [k, hx, lv_lim, decide_eq_true gn, Bool.and_true]
  rw [← gd]
  exact ⟨by rw [hy], by rw [hy], ea, trivial⟩

theorem lim2 {m : Int} (h0 : 0 ≤ m) (h1 : m < 18446744073709551616) : Lb [m % 4294967296, m / 4294967296] ∧ lv [m % 4294967296, m / 4294967296] = m.toNat := ⟨rlimbs_lb h0 h1, rlimbs_lv h0⟩
set_option maxHeartbeats 1000000 in
theorem c_Exact (n : Num) (ho : n.ok) : ∃ t : (Bool × List Int × Int) × Bool, t = (dyL n.exact.1, n.exact.2) ∧ CallsA Tryd.prog 12 [n.av] (.tup [.agg [.bool (.s t.1.1), .sli .u32 t.1.2.1, .int .i64 (.s t.1.2.2)], .bool (.s t.2)]) := by
  refine ⟨_, rfl, ?_⟩
  generalize hr : (dyL n.exact.1, n.exact.2) = r
  have bad : (n.may = false ∨ n.kind = 2) → ((false, [], 0), false) = r := by intro h; rw [← hr]; unfold Num.exact; rw [if_pos h]; rfl
  have fin : ¬ (n.may = false ∨ n.kind = 2) → -1048576 ≤ n.e ∧ n.e ≤ 1048576 ∧ ∀ x : Bool × List Int, x = (n.neg && decide (n.m.toNat ≠ 0), lim n.m.toNat) → ∀ t, t = dyL (dyMake x.1 (lv x.2) n.e) → (t, true) = r := by
    intro h
    have mm : n.may = true := by cases q : n.may; exact absurd (.inl q) h; rfl
    rcases Num.may3 mm ho with k | k | k
    · rw [k]
      refine ⟨by decide, by decide, fun x hx t ht => ?_⟩
      rw [ht, hx, ← hr, k]; rfl
    · refine ⟨k.elo, k.ehi, fun x hx t ht => ?_⟩
      have lo := k.lo
      rw [ht, hx, ← hr]
      unfold Num.exact
      rw [if_neg h, if_neg (by rw [k.kind]; decide), decide_eq_true (by omega), Bool.and_true, lv_lim]
    · exfalso; apply h; right; rw [k]; rfl
  have L := lim2 ho.1 ho.2
  have shr : intBinR .shr .u64 n.m 32 = n.m / 4294967296 := by
    show Int.fdiv n.m (2 ^ (min (32 : Int).toNat 64)) = _
    rw [show (2 : Int) ^ (min (32 : Int).toNat 64) = 4294967296 by decide, Int.fdiv_eq_ediv_of_nonneg _ (by decide)]
  have c1 : IntKind.u32.wrap n.m = n.m % 4294967296 := wu32 _
  have c2 : IntKind.u32.wrap (n.m / 4294967296) = n.m / 4294967296 := by rw [wu32]; have := ho.1; have := ho.2; omega
  clear hr
  refine callsA_of hG hm Tryd.func12 (by kernel_rfl) ?_
  intro E hE lp hl
  cbv
  (first | (apply E_pcallX hE (c_May ⟨_, _, _, _⟩); (case hm => rfl); (case hle => (repeat' (first | exact u_nil | apply u_cons | apply u2_agg | exact u2_int | exact u1_int | exact u2_bool | exact u1_bool | exact u2_sli | exact u1_sli | exact u2_s0 | exact u1_s0))); all_goals (first | (intro o ho_; cbv) | (assumption))) | (apply E_callX hE (c_May ⟨_, _, _, _⟩); (case hf => rfl); (case hc => (cbv <;> trivial)); (case hle => (repeat' (first | exact u_nil | apply u_cons | apply u2_agg | exact u2_int | exact u1_int | exact u2_bool | exact u1_bool | exact u2_sli | exact u1_sli | exact u2_s0 | exact u1_s0))); all_goals (first | (intro o ho_; cbv) | (assumption))))
  have ho_ : o = n.may := ho_
  refine E_br hE (fun g1 => ?_) (fun g1 => ?_) <;> cbv
  · rw [← bad (.inl (by rw [← ho_]; subst hE; cases o; rfl; exact absurd g1 (by decide)))]; exact ⟨⟨rfl, rfl, rfl, trivial⟩, rfl, trivial⟩
  have m1 : n.may = true := by rw [← ho_]; subst hE; cases o; exact absurd g1 (by decide); rfl
  refine E_br hE (fun g2 => ?_) (fun g2 => ?_) <;> cbv
  · rw [← bad (.inr (by subst hE; exact eql_t g2))]; exact ⟨⟨rfl, rfl, rfl, trivial⟩, rfl, trivial⟩
  have m2 : ¬ (n.may = false ∨ n.kind = 2) := by
    rintro (z | z)
    · rw [m1] at z; cases z
    · subst hE; exact eql_f g2 z
  obtain ⟨e0, e1, fin⟩ := fin m2
  have el : [E.conv .u32 n.m, E.conv .u32 (E.bin .shr .u64 n.m 32)] = [n.m % 4294967296, n.m / 4294967296] := by
    subst hE
    show [IntKind.u32.wrap n.m, IntKind.u32.wrap (intBinR .shr .u64 n.m 32)] = _
    rw [shr, c1, c2]
  (first | (apply E_pcallX hE (c_wMake n.neg [E.conv .u32 n.m, E.conv .u32 (E.bin .shr .u64 n.m 32)] ?_ ?_); (case hm => rfl); (case hle => (repeat' (first | exact u_nil | apply u_cons | apply u2_agg | exact u2_int | exact u1_int | exact u2_bool | exact u1_bool | exact u2_sli | exact u1_sli | exact u2_s0 | exact u1_s0))); all_goals (first | (intro x hx; cbv) | (first | (rw [el]; exact L.1) | (rw [el]; show 2 ≤ 268435456; decide)))) | (apply E_callX hE (c_wMake n.neg [E.conv .u32 n.m, E.conv .u32 (E.bin .shr .u64 n.m 32)] ?_ ?_); (case hf => rfl); (case hc => (cbv <;> trivial)); (case hle => (repeat' (first | exact u_nil | apply u_cons | apply u2_agg | exact u2_int | exact u1_int | exact u2_bool | exact u1_bool | exact u2_sli | exact u1_sli | exact u2_s0 | exact u1_s0))); all_goals (first | (intro x hx; cbv) | (first | (rw [el]; exact L.1) | (rw [el]; show 2 ≤ 268435456; decide)))))
  have hx : x = (n.neg && decide (n.m.toNat ≠ 0), lim n.m.toNat) := by
    have k : x = (n.neg && decide (lv [E.conv .u32 n.m, E.conv .u32 (E.bin .shr .u64 n.m 32)] ≠ 0), lim (lv [E.conv .u32 n.m, E.conv .u32 (E.bin .shr .u64 n.m 32)])) := hx
    rw [el, L.2] at k; exact k
  have xb : Lb x.2 ∧ x.2.length < 67108864 := by
    rw [hx]
    refine ⟨lim_lb _, ?_⟩
    have := lim_length_le' L.1
    rw [L.2] at this
    exact Nat.lt_of_le_of_lt this (show 2 < 67108864 by decide)
  (first | (apply E_pcallX hE (c_dyMake x.1 x.2 n.e xb.1 xb.2 ?_ ?_); (case hm => rfl); (case hle => (repeat' (first | exact u_nil | apply u_cons | apply u2_agg | exact u2_int | exact u1_int | exact u2_bool | exact u1_bool | exact u2_sli | exact u1_sli | exact u2_s0 | exact u1_s0))); all_goals (first | (intro t ht; cbv) | (first | exact Int.le_trans (by decide) e0 | exact Int.lt_of_le_of_lt e1 (by decide)))) | (apply E_callX hE (c_dyMake x.1 x.2 n.e xb.1 xb.2 ?_ ?_); (case hf => rfl); (case hc => (cbv <;> trivial)); (case hle => (repeat' (first | exact u_nil | apply u_cons | apply u2_agg | exact u2_int | exact u1_int | exact u2_bool | exact u1_bool | exact u2_sli | exact u1_sli | exact u2_s0 | exact u1_s0))); all_goals (first | (intro t ht; cbv) | (first | exact Int.le_trans (by decide) e0 | exact Int.lt_of_le_of_lt e1 (by decide)))))
  rw [← fin x hx t ht]
  exact ⟨⟨rfl, rfl, rfl, trivial⟩, rfl, trivial⟩

end Go.Proofs.YtpadpcjdakfokaaDoor.Ev

/- Contract of whole.May. Printed by gen.py. -/
namespace Go.Proofs.YtpadpcjdakfokaaDoor.Ev
open Go Go.Proofs
set_option linter.unusedVariables false
set_option linter.unusedSimpArgs false

attribute [local irreducible] Lb
def wMayB (neg : Bool) (m : List Int) : Bool := if m.length = 0 then !neg else decide (m.getD (m.length - 1) 0 ≠ 0)
theorem c_wMay (neg : Bool) (m : List Int) (hl_ : m.length < 4611686018427387904) : ∃ t : Bool, t = wMayB neg m ∧ CallsA Tryd.prog 108 [.agg [.bool (.s neg), .sli .u32 m]] (.bool (.s t)) := by
  refine ⟨_, rfl, ?_⟩
  generalize hr : wMayB neg m = r
  have z0 : (m.length : Int) = 0 → (!neg) = r := by intro h; rw [← hr]; unfold wMayB; rw [if_pos (by omega)]
  have z1 : ¬ (m.length : Int) = 0 → IntKind.i64.wrap ((m.length : Int) - 1) = (m.length : Int) - 1 ∧ 0 ≤ (m.length : Int) - 1 ∧ (m.length : Int) - 1 < m.length ∧ ∀ x : Bool, x = decide (m.getD ((m.length : Int) - 1).toNat 0 ≠ 0) → x = r := by
    intro h
    refine ⟨wi64_in (by omega) (by omega), by omega, by omega, fun x hx => ?_⟩
    rw [hx, ← hr]; unfold wMayB; rw [if_neg (by omega), show ((m.length : Int) - 1).toNat = m.length - 1 by omega]
  clear hr
  refine callsA_of hG hm Tryd.func108 (by kernel_rfl) ?_
  intro E hE lp hl
  cbv
  refine E_br hE (fun g => ?_) (fun g => ?_) <;> cbv
  · subst hE; exact z0 (eql_t g)
  · have z1 := z1 (by subst hE; exact eql_f g)
    have es : E.bin .sub .i64 (E.len m) 1 = (m.length : Int) - 1 := by subst hE; exact z1.1
    refine E_br hE (fun b1 => ?_) (fun b1 => ?_) <;> cbv
    · refine E_br hE (fun b2 => ?_) (fun b2 => ?_) <;> cbv
      · refine z1.2.2.2 _ ?_
        show E.cmp .neq (E.get m (E.bin .sub .i64 (E.len m) 1)) 0 = _
        rw [es]
        subst hE
        exact cmp_neq _ _
      · rw [es] at b2
        subst hE
        exact lss_f b2 z1.2.2.1
    · rw [es] at b1
      subst hE
      exact leq_f b1 z1.2.1

end Go.Proofs.YtpadpcjdakfokaaDoor.Ev

/- Contracts of dy.May, fair, Move, Floor: of dyadic numbers as they may be. Printed by gen.py. -/
namespace Go.Proofs.YtpadpcjdakfokaaDoor.Ev
open Go Go.Proofs
set_option linter.unusedVariables false
set_option linter.unusedSimpArgs false

attribute [local irreducible] Lb
/-- a dyadic number, as it may be -/
def DyC (p : Bool × Nat × Int) : Prop := p = (false, 0, 0) ∨ (p.2.1 % 2 = 1 ∧ -4194304 ≤ p.2.2 ∧ p.2.2 ≤ 4194304)
theorem dyMake_c (neg : Bool) (k : Nat) (e : Int) : DyC (dyMake neg k e) := by
  unfold dyMake
  split
  · exact .inl rfl
  · rename_i h
    split
    · exact .inl rfl
    · refine .inr ⟨(v2_spec k (by omega)).2.1, by dsimp only; omega, by dsimp only; omega⟩
theorem and_one {x : Int} (h0 : 0 ≤ x) (h1 : x < 4294967296) : intBinR .and .u32 x 1 = x % 2 := by
  obtain ⟨n, rfl⟩ := Int.eq_ofNat_of_zero_le h0
  show IntKind.u32.wrap ((BitVec.ofInt IntKind.u32.bits (n : Int) &&& BitVec.ofInt IntKind.u32.bits 1).toNat : Int) = _
  have b1 : (BitVec.ofInt IntKind.u32.bits (n : Int)).toNat = n := by
    show (BitVec.ofInt 32 (n : Int)).toNat = n
    rw [BitVec.ofInt_natCast, BitVec.toNat_ofNat]; omega
  have b2 : (BitVec.ofInt IntKind.u32.bits 1).toNat = 1 := by decide
  rw [BitVec.toNat_and, b1, b2, Nat.and_one_is_mod, wu32]
  omega
theorem lim_top {k : Nat} (h : k ≠ 0) : (lim k).length ≠ 0 ∧ (lim k).getD ((lim k).length - 1) 0 ≠ 0 := by
  have ne : lim k ≠ [] := fun z => h (lim_eq_nil.1 z)
  exact ⟨fun z => ne (List.length_eq_zero_iff.1 z), (lim_cn k).last ne⟩
theorem lim_low {k : Nat} (h : k % 2 = 1) : (lim k).getD 0 0 % 2 = 1 ∧ 0 < (lim k).length := by
  have n0 : k ≠ 0 := by intro z; rw [z] at h; cases h
  have L := lim_lb k
  have V := lv_lim k
  have N := (lim_top n0).1
  match hq : lim k, L, V, N with
  | [], _, _, N => exact absurd rfl N
  | y :: r, L, V, _ =>
    have hy := L.head
    simp only [lv] at V
    refine ⟨?_, Nat.zero_lt_succ _⟩
    show y % 2 = 1
    omega
theorem c_dyMayT (p : Bool × Nat × Int) (hp : DyC p) (x : Bool × List Int × Int) (hx : x = dyL p) (hl_ : x.2.1.length < 4611686018427387904) : ∃ t : Bool, t = true ∧ CallsA Tryd.prog 84 [.agg [.bool (.s x.1), .sli .u32 x.2.1, .int .i64 (.s x.2.2)]] (.bool (.s t)) := by
  refine ⟨_, rfl, ?_⟩
  have z0 : (x.2.1.length : Int) = 0 → x.1 = false ∧ x.2.2 = 0 := by
    intro h
    rcases hp with hp | hp
    · rw [hx, hp]; exact ⟨rfl, rfl⟩
    · exfalso
      have := (lim_low hp.1).2
      rw [hx] at h
      have h : ((lim p.2.1).length : Int) = 0 := h
      omega
  have z1 : ¬ (x.2.1.length : Int) = 0 → wMayB x.1 x.2.1 = true ∧ x.2.1.getD 0 0 % 2 = 1 ∧ 0 ≤ x.2.1.getD 0 0 ∧ x.2.1.getD 0 0 < 4294967296 ∧ (0 : Int) < x.2.1.length ∧ -4194304 ≤ x.2.2 ∧ x.2.2 ≤ 4194304 := by
    intro h
    rcases hp with hp | hp
    · exfalso; apply h; rw [hx, hp]; rfl
    · have n0 : p.2.1 ≠ 0 := by intro z; rw [z] at hp; cases hp.1
      have l1 := lim_top n0
      have l2 := lim_low hp.1
      have l3 := (lim_lb p.2.1).getD 0
      have e : x.2.1 = lim p.2.1 := by rw [hx]; rfl
      have e2 : x.2.2 = p.2.2 := by rw [hx]; rfl
      rw [e, e2]
      refine ⟨?_, l2.1, l3.1, l3.2, by omega, hp.2.1, hp.2.2⟩
      unfold wMayB
      rw [if_neg l1.1, decide_eq_true l1.2]
  refine callsA_of hG hm Tryd.func84 (by kernel_rfl) ?_
  intro E hE lp hl
  cbv
  refine E_br hE (fun g => ?_) (fun g => ?_) <;> cbv
  · have z := z0 (by subst hE; exact eql_t g)
    have b : E.bnot x.1 = true := by rw [z.1]; subst hE; rfl
    refine E_br_t hE b ?_; cbv
    show E.cmp .eql x.2.2 0 = true
    rw [z.2]; subst hE; rfl
  have z := z1 (by subst hE; exact eql_f g)
  (first | (apply E_pcallX hE (c_wMay x.1 x.2.1 hl_); (case hm => rfl); (case hle => (repeat' (first | exact u_nil | apply u_cons | apply u2_agg | exact u2_int | exact u1_int | exact u2_bool | exact u1_bool | exact u2_sli | exact u1_sli | exact u2_s0 | exact u1_s0))); all_goals (first | (intro w hw; cbv) | (assumption))) | (apply E_callX hE (c_wMay x.1 x.2.1 hl_); (case hf => rfl); (case hc => (cbv <;> trivial)); (case hle => (repeat' (first | exact u_nil | apply u_cons | apply u2_agg | exact u2_int | exact u1_int | exact u2_bool | exact u1_bool | exact u2_sli | exact u1_sli | exact u2_s0 | exact u1_s0))); all_goals (first | (intro w hw; cbv) | (assumption))))
  have w1 : w = true := hw.trans z.1
  refine E_br_t hE w1 ?_; cbv
  refine E_br hE (fun b2 => ?_) (fun b2 => ?_) <;> cbv
  · have e : E.cmp .eql (E.bin .and .u32 (E.get x.2.1 0) 1) 1 = true := by
      subst hE
      show decide (intBinR .and .u32 (x.2.1.getD 0 0) 1 = 1) = true
      rw [and_one z.2.2.1 z.2.2.2.1, z.2.1]; rfl
    refine E_br_t hE e ?_; cbv
    (first | (apply E_pcallX hE (c_within _); (case hm => rfl); (case hle => (repeat' (first | exact u_nil | apply u_cons | apply u2_agg | exact u2_int | exact u1_int | exact u2_bool | exact u1_bool | exact u2_sli | exact u1_sli | exact u2_s0 | exact u1_s0))); all_goals (first | (intro v hv; cbv) | (assumption))) | (apply E_callX hE (c_within _); (case hf => rfl); (case hc => (cbv <;> trivial)); (case hle => (repeat' (first | exact u_nil | apply u_cons | apply u2_agg | exact u2_int | exact u1_int | exact u2_bool | exact u1_bool | exact u2_sli | exact u1_sli | exact u2_s0 | exact u1_s0))); all_goals (first | (intro v hv; cbv) | (assumption))))
    rw [hv]
    show (decide (-4194304 ≤ x.2.2) && decide (x.2.2 ≤ 4194304)) = true
    rw [decide_eq_true z.2.2.2.2.2.1, decide_eq_true z.2.2.2.2.2.2]; rfl
  · exfalso
    subst hE
    exact lss_f b2 z.2.2.2.2.1
theorem c_dyFair (p : Bool × Nat × Int) (hp : DyC p) (x : Bool × List Int × Int) (hx : x = dyL p) (hl_ : x.2.1.length < 4611686018427387904) : ∃ t : Bool × List Int × Int, t = x ∧ CallsA Tryd.prog 49 [.agg [.bool (.s x.1), .sli .u32 x.2.1, .int .i64 (.s x.2.2)]] (.agg [.bool (.s t.1), .sli .u32 t.2.1, .int .i64 (.s t.2.2)]) := by
  refine ⟨_, rfl, ?_⟩
  refine callsA_of hG hm Tryd.func49 (by kernel_rfl) ?_
  intro E hE lp hl
  cbv
  (first | (apply E_pcallX hE (c_dyMayT p hp x hx hl_); (case hm => rfl); (case hle => (repeat' (first | exact u_nil | apply u_cons | apply u2_agg | exact u2_int | exact u1_int | exact u2_bool | exact u1_bool | exact u2_sli | exact u1_sli | exact u2_s0 | exact u1_s0))); all_goals (first | (intro w hw; cbv) | (assumption))) | (apply E_callX hE (c_dyMayT p hp x hx hl_); (case hf => rfl); (case hc => (cbv <;> trivial)); (case hle => (repeat' (first | exact u_nil | apply u_cons | apply u2_agg | exact u2_int | exact u1_int | exact u2_bool | exact u1_bool | exact u2_sli | exact u1_sli | exact u2_s0 | exact u1_s0))); all_goals (first | (intro w hw; cbv) | (assumption))))
  refine E_br_t hE hw ?_; cbv
theorem c_dyMove (p : Bool × Nat × Int) (hp : DyC p) (x : Bool × List Int × Int) (hx : x = dyL p) (hl_ : x.2.1.length < 67108864) (n : Int) (hn : -16777216 ≤ n) (hn2 : n ≤ 16777216) :
    ∃ t : Bool × List Int × Int, t = dyL (dyMake p.1 p.2.1 (p.2.2 + n)) ∧ CallsA Tryd.prog 31 [.agg [.bool (.s x.1), .sli .u32 x.2.1, .int .i64 (.s x.2.2)], .int .i64 (.s n)] (.agg [.bool (.s t.1), .sli .u32 t.2.1, .int .i64 (.s t.2.2)]) := by
  refine ⟨_, rfl, ?_⟩
  generalize hr : dyL (dyMake p.1 p.2.1 (p.2.2 + n)) = r
  have hl2 : x.2.1.length < 4611686018427387904 := by omega
  have rng : -4194304 ≤ p.2.2 ∧ p.2.2 ≤ 4194304 := by
    rcases hp with hp | hp
    · rw [hp]; exact ⟨by decide, by decide⟩
    · exact hp.2
  have hx1 : x.1 = p.1 := by rw [hx]; rfl
  have hx2 : x.2.1 = lim p.2.1 := by rw [hx]; rfl
  have hx3 : x.2.2 = p.2.2 := by rw [hx]; rfl
  have xb : Lb x.2.1 := by rw [hx2]; exact lim_lb _
  refine callsA_of hG hm Tryd.func31 (by kernel_rfl) ?_
  intro E hE lp hl
  cbv
  (first | (apply E_pcallX hE (c_dyFair p hp x hx hl2); (case hm => rfl); (case hle => (repeat' (first | exact u_nil | apply u_cons | apply u2_agg | exact u2_int | exact u1_int | exact u2_bool | exact u1_bool | exact u2_sli | exact u1_sli | exact u2_s0 | exact u1_s0))); all_goals (first | (intro y hy; cbv) | (assumption))) | (apply E_callX hE (c_dyFair p hp x hx hl2); (case hf => rfl); (case hc => (cbv <;> trivial)); (case hle => (repeat' (first | exact u_nil | apply u_cons | apply u2_agg | exact u2_int | exact u1_int | exact u2_bool | exact u1_bool | exact u2_sli | exact u1_sli | exact u2_s0 | exact u1_s0))); all_goals (first | (intro y hy; cbv) | (assumption))))
  refine E_br hE (fun g => ?_) (fun g => ?_) <;> cbv
  · exfalso; subst hE; have := gtr_t g; omega
  refine E_br hE (fun g2 => ?_) (fun g2 => ?_) <;> cbv
  · exfalso; subst hE; have := lss_t g2; omega
  have ea : E.bin .add .i64 y.2.2 n = p.2.2 + n := by
    rw [hy, hx3]; subst hE
    show IntKind.i64.wrap (p.2.2 + n) = _
    exact wi64_in (by omega) (by omega)
  have yb : Lb y.2.1 ∧ y.2.1.length < 67108864 := by rw [hy]; exact ⟨xb, hl_⟩
  (first | (apply E_pcallX hE (c_dyMake y.1 y.2.1 (E.bin .add .i64 y.2.2 n) yb.1 yb.2 ?_ ?_); (case hm => rfl); (case hle => (repeat' (first | exact u_nil | apply u_cons | apply u2_agg | exact u2_int | exact u1_int | exact u2_bool | exact u1_bool | exact u2_sli | exact u1_sli | exact u2_s0 | exact u1_s0))); all_goals (first | (intro t ht; cbv) | ((rw [ea]; omega)))) | (apply E_callX hE (c_dyMake y.1 y.2.1 (E.bin .add .i64 y.2.2 n) yb.1 yb.2 ?_ ?_); (case hf => rfl); (case hc => (cbv <;> trivial)); (case hle => (repeat' (first | exact u_nil | apply u_cons | apply u2_agg | exact u2_int | exact u1_int | exact u2_bool | exact u1_bool | exact u2_sli | exact u1_sli | exact u2_s0 | exact u1_s0))); all_goals (first | (intro t ht; cbv) | ((rw [ea]; omega)))))
  have k : t = r := by
    have k : t = dyL (dyMake y.1 (lv y.2.1) (E.bin .add .i64 y.2.2 n)) := ht
    rw [k, ea, hy, hx1, hx2, lv_lim, hr]
  rw [← k]; exact ⟨rfl, rfl, rfl, trivial⟩
theorem shl_len {k L n : Nat} (h : (lim k).length ≤ L) : (lim (k * 2 ^ n)).length ≤ L + (n / 32 + 1) := by
  refine lim_length_le ?_
  have a := lv_lt (lim_lb k)
  rw [lv_lim] at a
  have b : 2 ^ n ≤ 4294967296 ^ (n / 32 + 1) := by
    rw [show (4294967296 : Nat) = 2 ^ 32 by rfl, ← Nat.pow_mul]
    exact Nat.pow_le_pow_right (by decide) (by omega)
  have c : 4294967296 ^ (lim k).length ≤ 4294967296 ^ L := Nat.pow_le_pow_right (by decide) h
  rw [Nat.pow_add]
  exact Nat.mul_lt_mul_of_lt_of_le' (Nat.lt_of_lt_of_le a c) b (Nat.two_pow_pos n)
theorem lim_succ_len (k : Nat) : (lim (k + 1)).length ≤ (lim k).length + 1 := by
  refine lim_length_le ?_
  have a := lv_lt (lim_lb k)
  rw [lv_lim] at a
  rw [Nat.pow_succ]
  have p : 0 < 4294967296 ^ (lim k).length := Nat.pow_pos (by decide)
  omega
/-- the greatest whole number that is not greater -/
def dyFloor (p : Bool × Nat × Int) : Int :=
  if 0 ≤ p.2.2 then (if p.1 then -((p.2.1 * 2 ^ p.2.2.toNat : Nat) : Int) else ((p.2.1 * 2 ^ p.2.2.toNat : Nat) : Int))
  else if p.1 then -((p.2.1 / 2 ^ (-p.2.2).toNat + 1 : Nat) : Int) else ((p.2.1 / 2 ^ (-p.2.2).toNat : Nat) : Int)
set_option maxHeartbeats 1000000 in
theorem c_dyFloor (p : Bool × Nat × Int) (hp : DyC p) (x : Bool × List Int × Int) (hx : x = dyL p) (hl_ : x.2.1.length < 67108864) :
    ∃ t : Bool × List Int, t = whN (dyFloor p) ∧ CallsA Tryd.prog 30 [.agg [.bool (.s x.1), .sli .u32 x.2.1, .int .i64 (.s x.2.2)]] (.agg [.bool (.s t.1), .sli .u32 t.2]) := by
  refine ⟨_, rfl, ?_⟩
  generalize hr : whN (dyFloor p) = r
  have hl2 : x.2.1.length < 4611686018427387904 := by omega
  have rng : -4194304 ≤ p.2.2 ∧ p.2.2 ≤ 4194304 := by
    rcases hp with hp | hp
    · rw [hp]; exact ⟨by decide, by decide⟩
    · exact hp.2
  have hx1 : x.1 = p.1 := by rw [hx]; rfl
  have hx2 : x.2.1 = lim p.2.1 := by rw [hx]; rfl
  have hx3 : x.2.2 = p.2.2 := by rw [hx]; rfl
  have xb : Lb x.2.1 := by rw [hx2]; exact lim_lb _
  have one : Lb [(1 : Int)] ∧ lv [(1 : Int)] = 1 := ⟨Lb.cons (by decide) (by decide) Lb.nil, rfl⟩
  have ll : (lim p.2.1).length < 67108864 := by rw [← hx2]; exact hl_
  have up : 0 ≤ p.2.2 → ∀ u, u = (if p.2.2 < 1 then lim p.2.1 else if 16777216 < p.2.2 then [] else lim (p.2.1 * 2 ^ p.2.2.toNat)) → Lb u ∧ u.length ≤ 268435456 ∧ ∀ w : Bool × List Int, w = (p.1 && decide (lv u ≠ 0), lim (lv u)) → w = r := by
    intro h u hu
    have hu : u = lim (p.2.1 * 2 ^ p.2.2.toNat) := by
      rw [hu]
      split
      · rw [show p.2.2.toNat = 0 by omega, Nat.pow_zero, Nat.mul_one]
      · rw [if_neg (by omega)]
    refine ⟨by rw [hu]; exact lim_lb _, by rw [hu]; have := shl_len (k := p.2.1) (L := 67108864) (n := p.2.2.toNat) (by omega); omega, fun w hw => ?_⟩
    rw [hw, hu, lv_lim, whN_of, ← hr]
    unfold dyFloor
    rw [if_pos h]
  have dn : ¬ 0 ≤ p.2.2 → ∀ u, u = lim (p.2.1 / 2 ^ (-p.2.2).toNat) → Lb u ∧ u.length < 67108864 ∧ (p.1 = false → ∀ w : Bool × List Int, w = (p.1 && decide (lv u ≠ 0), lim (lv u)) → w = r) ∧
      (p.1 = true → ∀ v, v = lim (lv u + 1) → Lb v ∧ v.length ≤ 268435456 ∧ ∀ w : Bool × List Int, w = (p.1 && decide (lv v ≠ 0), lim (lv v)) → w = r) := by
    intro h u hu
    have ul : (lim (p.2.1 / 2 ^ (-p.2.2).toNat)).length ≤ (lim p.2.1).length := lim_mono (Nat.div_le_self _ _)
    refine ⟨by rw [hu]; exact lim_lb _, by rw [hu]; omega, fun g w hw => ?_, fun g v hv => ?_⟩
    · rw [hw, hu, lv_lim, whN_of, ← hr]
      unfold dyFloor
      rw [if_neg h, g]; rfl
    · rw [hu, lv_lim] at hv
      have l2 := lim_succ_len (p.2.1 / 2 ^ (-p.2.2).toNat)
      refine ⟨by rw [hv]; exact lim_lb _, by rw [hv]; omega, fun w hw => ?_⟩
      rw [hw, hv, lv_lim, whN_of, ← hr]
      unfold dyFloor
      rw [if_neg h, g]; rfl
  clear hr
  refine callsA_of hG hm Tryd.func30 (by kernel_rfl) ?_
  intro E hE lp hl
  cbv
  (first | (apply E_pcallX hE (c_dyFair p hp x hx hl2); (case hm => rfl); (case hle => (repeat' (first | exact u_nil | apply u_cons | apply u2_agg | exact u2_int | exact u1_int | exact u2_bool | exact u1_bool | exact u2_sli | exact u1_sli | exact u2_s0 | exact u1_s0))); all_goals (first | (intro y hy; cbv) | (assumption))) | (apply E_callX hE (c_dyFair p hp x hx hl2); (case hf => rfl); (case hc => (cbv <;> trivial)); (case hle => (repeat' (first | exact u_nil | apply u_cons | apply u2_agg | exact u2_int | exact u1_int | exact u2_bool | exact u1_bool | exact u2_sli | exact u1_sli | exact u2_s0 | exact u1_s0))); all_goals (first | (intro y hy; cbv) | (assumption))))
  refine E_br hE (fun g => ?_) (fun g => ?_) <;> cbv
  · have g : 0 ≤ p.2.2 := by rw [← hx3, ← hy]; subst hE; exact geq_t g
    have yb : Lb y.2.1 ∧ y.2.1.length < 67108864 := by rw [hy]; exact ⟨xb, hl_⟩
    (first | (apply E_pcallX hE (c_natShl y.2.1 y.2.2 yb.1 yb.2); (case hm => rfl); (case hle => (repeat' (first | exact u_nil | apply u_cons | apply u2_agg | exact u2_int | exact u1_int | exact u2_bool | exact u1_bool | exact u2_sli | exact u1_sli | exact u2_s0 | exact u1_s0))); all_goals (first | (intro u hu; cbv) | (assumption))) | (apply E_callX hE (c_natShl y.2.1 y.2.2 yb.1 yb.2); (case hf => rfl); (case hc => (cbv <;> trivial)); (case hle => (repeat' (first | exact u_nil | apply u_cons | apply u2_agg | exact u2_int | exact u1_int | exact u2_bool | exact u1_bool | exact u2_sli | exact u1_sli | exact u2_s0 | exact u1_s0))); all_goals (first | (intro u hu; cbv) | (assumption))))
    have U := up g u (by rw [hu, hy, hx2, hx3, lv_lim])
    (first | (apply E_pcallX hE (c_wMake y.1 u U.1 U.2.1); (case hm => rfl); (case hle => (repeat' (first | exact u_nil | apply u_cons | apply u2_agg | exact u2_int | exact u1_int | exact u2_bool | exact u1_bool | exact u2_sli | exact u1_sli | exact u2_s0 | exact u1_s0))); all_goals (first | (intro w hw; cbv) | (assumption))) | (apply E_callX hE (c_wMake y.1 u U.1 U.2.1); (case hf => rfl); (case hc => (cbv <;> trivial)); (case hle => (repeat' (first | exact u_nil | apply u_cons | apply u2_agg | exact u2_int | exact u1_int | exact u2_bool | exact u1_bool | exact u2_sli | exact u1_sli | exact u2_s0 | exact u1_s0))); all_goals (first | (intro w hw; cbv) | (assumption))))
    rw [← U.2.2 w (by rw [hw, hy, hx1])]; exact ⟨rfl, rfl, trivial⟩
  · have g : ¬ 0 ≤ p.2.2 := by rw [← hx3, ← hy]; subst hE; exact geq_f g
    have yb : Lb y.2.1 ∧ y.2.1.length < 67108864 := by rw [hy]; exact ⟨xb, hl_⟩
    have en : E.bin .sub .i64 0 y.2.2 = -p.2.2 := by
      rw [hy, hx3]; subst hE
      show IntKind.i64.wrap (0 - p.2.2) = _
      rw [wi64_in (by omega) (by omega)]; omega
    (first | (apply E_pcallX hE (c_natShr y.2.1 (E.bin .sub .i64 0 y.2.2) yb.1 yb.2); (case hm => rfl); (case hle => (repeat' (first | exact u_nil | apply u_cons | apply u2_agg | exact u2_int | exact u1_int | exact u2_bool | exact u1_bool | exact u2_sli | exact u1_sli | exact u2_s0 | exact u1_s0))); all_goals (first | (intro u hu; cbv) | (assumption))) | (apply E_callX hE (c_natShr y.2.1 (E.bin .sub .i64 0 y.2.2) yb.1 yb.2); (case hf => rfl); (case hc => (cbv <;> trivial)); (case hle => (repeat' (first | exact u_nil | apply u_cons | apply u2_agg | exact u2_int | exact u1_int | exact u2_bool | exact u1_bool | exact u2_sli | exact u1_sli | exact u2_s0 | exact u1_s0))); all_goals (first | (intro u hu; cbv) | (assumption))))
    obtain ⟨u1, u2, u3, u4⟩ := dn g u (by rw [hu, en, hy, hx2, lv_lim])
    have y1 : y.1 = p.1 := by rw [hy, hx1]
    have o1 : E.sub [1] 0 1 = [1] := by subst hE; rfl
    have ul : u.length < 268435456 := Nat.lt_trans u2 (by decide)
    have um : u.length ≤ 268435456 := Nat.le_of_lt ul
    refine E_br hE (fun g2 => ?_) (fun g2 => ?_) <;> cbv
    · (first | (apply E_pcallX hE (c_natAdd u _ u1 ?_ ul ?_); (case hm => rfl); (case hle => (repeat' (first | exact u_nil | apply u_cons | apply u2_agg | exact u2_int | exact u1_int | exact u2_bool | exact u1_bool | exact u2_sli | exact u1_sli | exact u2_s0 | exact u1_s0))); all_goals (first | (intro v hv; cbv) | ((first | (show Lb (E.sub [1] 0 1); rw [o1]; exact one.1) | (show (E.sub [1] 0 1).length < 268435456; rw [o1]; decide))))) | (apply E_callX hE (c_natAdd u _ u1 ?_ ul ?_); (case hf => rfl); (case hc => (cbv <;> trivial)); (case hle => (repeat' (first | exact u_nil | apply u_cons | apply u2_agg | exact u2_int | exact u1_int | exact u2_bool | exact u1_bool | exact u2_sli | exact u1_sli | exact u2_s0 | exact u1_s0))); all_goals (first | (intro v hv; cbv) | ((first | (show Lb (E.sub [1] 0 1); rw [o1]; exact one.1) | (show (E.sub [1] 0 1).length < 268435456; rw [o1]; decide))))))
      have hv : v = lim (lv u + 1) := by
        have k : v = lim (lv u + lv (E.sub [1] 0 1)) := hv
        rw [k, o1, one.2]
      have V := u4 (y1.symm.trans g2) v hv
      (first | (apply E_pcallX hE (c_wMake y.1 v V.1 V.2.1); (case hm => rfl); (case hle => (repeat' (first | exact u_nil | apply u_cons | apply u2_agg | exact u2_int | exact u1_int | exact u2_bool | exact u1_bool | exact u2_sli | exact u1_sli | exact u2_s0 | exact u1_s0))); all_goals (first | (intro w hw; cbv) | (assumption))) | (apply E_callX hE (c_wMake y.1 v V.1 V.2.1); (case hf => rfl); (case hc => (cbv <;> trivial)); (case hle => (repeat' (first | exact u_nil | apply u_cons | apply u2_agg | exact u2_int | exact u1_int | exact u2_bool | exact u1_bool | exact u2_sli | exact u1_sli | exact u2_s0 | exact u1_s0))); all_goals (first | (intro w hw; cbv) | (assumption))))
      rw [← V.2.2 w (by rw [hw, y1])]; exact ⟨rfl, rfl, trivial⟩
    · (first | (apply E_pcallX hE (c_wMake y.1 u u1 um); (case hm => rfl); (case hle => (repeat' (first | exact u_nil | apply u_cons | apply u2_agg | exact u2_int | exact u1_int | exact u2_bool | exact u1_bool | exact u2_sli | exact u1_sli | exact u2_s0 | exact u1_s0))); all_goals (first | (intro w hw; cbv) | (assumption))) | (apply E_callX hE (c_wMake y.1 u u1 um); (case hf => rfl); (case hc => (cbv <;> trivial)); (case hle => (repeat' (first | exact u_nil | apply u_cons | apply u2_agg | exact u2_int | exact u1_int | exact u2_bool | exact u1_bool | exact u2_sli | exact u1_sli | exact u2_s0 | exact u1_s0))); all_goals (first | (intro w hw; cbv) | (assumption))))
      rw [← u3 (y1.symm.trans g2) w (by rw [hw, y1])]; exact ⟨rfl, rfl, trivial⟩

end Go.Proofs.YtpadpcjdakfokaaDoor.Ev

/- What intervals have together, and the least one that has all of some: plain Lean. -/
namespace Go.Proofs.YtpadpcjdakfokaaDoor.Ev
open Go

end Go.Proofs.YtpadpcjdakfokaaDoor.Ev

/- Products and sums of whole numbers, and what intervals make of them: plain Lean. -/
namespace Go.Proofs.YtpadpcjdakfokaaDoor.Ev
open Go

def Int.sm (n : Int) : Prop := -4611686018427387904 ≤ n ∧ n ≤ 4611686018427387904
theorem ofInt_fine {n : Int} (h : Int.sm n) : (Num.ofInt n).may = true ∧ (Num.ofInt n).ok ∧ (Num.ofInt n).kind ≠ 2 ∧ (Num.ofInt n).fair = Num.ofInt n ∧ (Num.ofInt n).val = n * pw 0 := by
  unfold Int.sm at h
  have hv := ofInt_val (n := n) (by omega)
  by_cases h0 : n = 0
  · subst h0
    exact ⟨by decide, Num.ofInt_ok 0, by decide, by decide, hv⟩
  · obtain ⟨f, _, _⟩ := ofInt_fin h0 (by omega)
    have hk := f.kind
    exact ⟨f.may, f.ok, by omega, Num.fair_of_may f.may, hv⟩

theorem min2 (a b : Int) : ∃ m, m ∈ [a, b] ∧ ∀ x ∈ [a, b], m ≤ x := by
  rcases Int.le_total a b with h | h
  · exact ⟨a, by simp, by simp; exact h⟩
  · exact ⟨b, by simp, by simp; exact h⟩
theorem max2 (a b : Int) : ∃ m, m ∈ [a, b] ∧ ∀ x ∈ [a, b], x ≤ m := by
  rcases Int.le_total a b with h | h
  · exact ⟨b, by simp, by simp; exact h⟩
  · exact ⟨a, by simp, by simp; exact h⟩
end Go.Proofs.YtpadpcjdakfokaaDoor.Ev

/- Fixed numbers: what a number times 2^192, rounded down, is: plain Lean. -/
namespace Go.Proofs.YtpadpcjdakfokaaDoor.Ev
open Go
set_option linter.unusedVariables false
set_option linter.unusedSimpArgs false

/-- the fixed number of a number, and whether there is one -/
def fixV (n : Num) : Int × Bool :=
  if n.fair.kind = 2 ∨ pw 0 * 2 ^ 30 ≤ n.fair.val ∨ n.fair.val ≤ -(pw 0 * 2 ^ 30) then (0, false) else (n.fair.val * 2 ^ 192 / pw 0, true)

theorem neg_div_odd {k j : Nat} (hk : k % 2 = 1) (hj : 0 < j) : -(k : Int) / 2 ^ j = -((k / 2 ^ j + 1 : Nat) : Int) := by
  have p : (0 : Int) < 2 ^ j := Int.pow_pos (by decide)
  have e : ((2 ^ j : Nat) : Int) = 2 ^ j := by rw [Int.natCast_pow]; rfl
  have hne : k % 2 ^ j ≠ 0 := by
    intro z
    obtain ⟨i, rfl⟩ : ∃ i, j = i + 1 := ⟨j - 1, by omega⟩
    have d := Nat.div_add_mod k (2 ^ (i + 1))
    rw [z, Nat.pow_succ, Nat.add_zero, Nat.mul_comm (2 ^ i) 2, Nat.mul_assoc] at d
    omega
  have d : (k : Int) = 2 ^ j * ((k / 2 ^ j : Nat) : Int) + ((k % 2 ^ j : Nat) : Int) := by
    rw [← e, ← Int.natCast_mul, ← Int.natCast_add, Nat.div_add_mod]
  have m1 : ((k % 2 ^ j : Nat) : Int) < 2 ^ j := by rw [← e]; exact Int.ofNat_lt.2 (Nat.mod_lt _ (Nat.two_pow_pos j))
  have m0 : (0 : Int) < ((k % 2 ^ j : Nat) : Int) := by omega
  have key : -(k : Int) = (2 ^ j - ((k % 2 ^ j : Nat) : Int)) + 2 ^ j * (-((k / 2 ^ j + 1 : Nat) : Int)) := by
    rw [Int.mul_neg, Int.natCast_add, Int.mul_add]
    omega
  rw [key, Int.add_mul_ediv_left _ _ (by omega), Int.ediv_eq_zero_of_lt (by omega) (by omega), Int.zero_add]

/-- rounding down, by the value -/
theorem dyFloor_val {p : Bool × Nat × Int} (h : p = (false, 0, 0) ∨ p.2.1 % 2 = 1) (lo : -8388608 ≤ p.2.2) : dyFloor p = dyv p / pw 0 := by
  have p0 := pw_pos 0
  rcases h with h | h
  · rw [h]; simp [dyFloor, dyv]
  · unfold dyFloor
    split
    · rename_i g
      have e := pw_add (e := 0) (f := p.2.2) (by decide) g
      rw [Int.zero_add] at e
      have c : ((p.2.1 * 2 ^ p.2.2.toNat : Nat) : Int) * pw 0 = (p.2.1 : Int) * pw p.2.2 := by
        rw [e, Int.natCast_mul, Int.natCast_pow, Int.mul_assoc, Int.mul_comm (pw 0)]; rfl
      unfold dyv
      split
      · rw [← c, ← Int.neg_mul, Int.mul_ediv_cancel _ (by omega)]
      · rw [← c, Int.mul_ediv_cancel _ (by omega)]
    · rename_i g
      have e := pw_add (e := p.2.2) (f := -p.2.2) lo (by omega)
      rw [show p.2.2 + -p.2.2 = 0 by omega] at e
      have pe := pw_pos p.2.2
      unfold dyv
      split
      · rw [e, ← Int.neg_mul, Int.mul_comm (-(p.2.1 : Int)), Int.mul_ediv_mul_of_pos _ _ pe, neg_div_odd h (by omega)]
      · rw [e, Int.mul_comm (p.2.1 : Int), Int.mul_ediv_mul_of_pos _ _ pe, Int.natCast_ediv, Int.natCast_pow]; rfl

/-- what a number comes to, moved -/
theorem dyMove_val {p : Bool × Nat × Int} {t : Int} (h : Dy p t) : dyFloor (dyMake p.1 p.2.1 (p.2.2 + 192)) = t * 2 ^ 192 / pw 0 := by
  have lo := h.lo
  have hi := h.hi
  rcases h.odd with k | k
  · have v := h.val
    rw [k] at v ⊢
    rw [dyMake_zero, ← v]
    simp [dyFloor, dyv]
  · have m : dyMake p.1 p.2.1 (p.2.2 + 192) = (p.1, p.2.1, p.2.2 + 192) := dyMake_odd k (by omega) (by omega)
    rw [m, dyFloor_val (p := (p.1, p.2.1, p.2.2 + 192)) (.inr k) (by show -8388608 ≤ p.2.2 + 192; omega), ← h.val]
    congr 1
    have e := pw_add (e := p.2.2) (f := 192) (by omega) (by decide)
    unfold dyv
    dsimp only
    rw [e]
    split
    · rw [Int.neg_mul, Int.mul_assoc]; rfl
    · rw [Int.mul_assoc]; rfl

theorem fix_bad {n : Num} (h : n.may = false) : fixV n = (0, true) := by
  unfold fixV
  have e : n.fair = Num.zero := by unfold Num.fair; rw [if_neg (by rw [h]; decide)]
  have p := pw_pos 0
  have z := Num.val_zero
  rw [e, z, if_neg]
  · simp
  · have q : (0 : Int) < pw 0 * 2 ^ 30 := Int.mul_pos p (by decide)
    rintro (k | k | k)
    · exact absurd k (by decide)
    · omega
    · omega
theorem far_sm : Int.sm 1073741824 ∧ Int.sm (-1073741824) := by unfold Int.sm; decide
theorem fix_far {n : Num} (m : n.may = true) (o : n.ok) (h : n.kind = 2 ∨ ¬ n.cmp (Num.ofInt 1073741824) < 0 ∨ n.cmp (Num.ofInt (-1073741824)) ≤ 0) : fixV n = (0, false) := by
  have f1 := ofInt_fine far_sm.1
  have f2 := ofInt_fine far_sm.2
  rw [Num.cmp_lt o f1.2.1, Num.cmp_le o f2.2.1, f1.2.2.2.1, f2.2.2.2.1, f1.2.2.2.2, f2.2.2.2.2] at h
  unfold fixV
  rw [if_pos]
  rw [Num.fair_of_may m] at h ⊢
  rcases h with h | h | h
  · exact .inl h
  · right; left; have e : pw 0 * 2 ^ 30 = 1073741824 * pw 0 := Int.mul_comm _ _
    omega
  · right; right; have e : pw 0 * 2 ^ 30 = 1073741824 * pw 0 := Int.mul_comm _ _
    have e2 : -1073741824 * pw 0 = -(1073741824 * pw 0) := by rw [Int.neg_mul]
    omega
theorem fix_ok {n : Num} (m : n.may = true) (o : n.ok) (h : ¬ (n.kind = 2 ∨ ¬ n.cmp (Num.ofInt 1073741824) < 0 ∨ n.cmp (Num.ofInt (-1073741824)) ≤ 0)) : fixV n = (n.val * 2 ^ 192 / pw 0, true) := by
  have f1 := ofInt_fine far_sm.1
  have f2 := ofInt_fine far_sm.2
  rw [Num.cmp_lt o f1.2.1, Num.cmp_le o f2.2.1, f1.2.2.2.1, f2.2.2.2.1, f1.2.2.2.2, f2.2.2.2.2, Num.fair_of_may m] at h
  unfold fixV
  rw [Num.fair_of_may m, if_neg]
  rintro (k | k | k)
  · exact h (.inl k)
  · apply h; right; left; have e : pw 0 * 2 ^ 30 = 1073741824 * pw 0 := Int.mul_comm _ _
    omega
  · apply h; right; right; have e : pw 0 * 2 ^ 30 = 1073741824 * pw 0 := Int.mul_comm _ _
    have e2 : -1073741824 * pw 0 = -(1073741824 * pw 0) := by rw [Int.neg_mul]
    omega
/-- a number that is very near nought -/
theorem near_val {n : Num} (F : n.Fin) (he : n.e < -256) : 0 < n.W ∧ n.W * 2 ^ 192 < pw 0 := by
  have lo := F.lo
  have hi := F.hi
  have elo := F.elo
  have pe := pw_pos n.e
  have e := pw_add (e := n.e) (f := -n.e) (by omega) (by omega)
  rw [show n.e + -n.e = 0 by omega] at e
  have big : (2 : Int) ^ 256 ≤ 2 ^ (-n.e).toNat := by
    have := Nat.pow_le_pow_right (n := 2) (by decide) (show 256 ≤ (-n.e).toNat by omega)
    have h2 : ((2 ^ 256 : Nat) : Int) ≤ ((2 ^ (-n.e).toNat : Nat) : Int) := Int.ofNat_le.2 this
    simpa [Int.natCast_pow] using h2
  rw [F.W, e]
  refine ⟨Int.mul_pos (by omega) pe, ?_⟩
  have q : n.m * 2 ^ 192 < 2 ^ (-n.e).toNat := by omega
  calc n.m * pw n.e * 2 ^ 192 = pw n.e * (n.m * 2 ^ 192) := by rw [Int.mul_comm n.m, Int.mul_assoc]
    _ < pw n.e * 2 ^ (-n.e).toNat := Int.mul_lt_mul_of_pos_left q pe
theorem fix_near {n : Num} (F : n.Fin) (he : n.e < -256) : n.val * 2 ^ 192 / pw 0 = if n.neg then -1 else 0 := by
  obtain ⟨h1, h2⟩ := near_val F he
  have h3 : 0 < n.W * 2 ^ 192 := Int.mul_pos h1 (by decide)
  have p := pw_pos 0
  unfold Num.val
  split
  · rw [Int.neg_mul]
    have key : -(n.W * 2 ^ 192) = (pw 0 - n.W * 2 ^ 192) + pw 0 * (-1) := by omega
    rw [key, Int.add_mul_ediv_left _ _ (by omega), Int.ediv_eq_zero_of_lt (by omega) (by omega)]; rfl
  · exact Int.ediv_eq_zero_of_lt (by omega) h2
theorem fix_in {n : Num} (m : n.may = true) (o : n.ok) (k : n.kind ≠ 2) : dyFloor (dyMake n.exact.1.1 n.exact.1.2.1 (n.exact.1.2.2 + 192)) = n.val * 2 ^ 192 / pw 0 := by
  have d := exact_dy (x := n) o (by rw [Num.fair_of_may m]; exact k)
  rw [Num.fair_of_may m] at d
  exact dyMove_val d
end Go.Proofs.YtpadpcjdakfokaaDoor.Ev

/- Contracts: the scale of fixed numbers, a number so many times; quotients of numbers above nought. Printed by gen.py. -/
namespace Go.Proofs.YtpadpcjdakfokaaDoor.Ev
open Go Go.Proofs
set_option linter.unusedVariables false
set_option linter.unusedSimpArgs false

attribute [local irreducible] Lb
def piOne : Nat := 2 ^ 192
theorem c_piScale : ∃ t : Bool × List Int, t = whN (piOne : Int) ∧ CallsA Tryd.prog 36 [] (.agg [.bool (.s t.1), .sli .u32 t.2]) := by
  refine ⟨_, rfl, ?_⟩
  generalize hr : whN (piOne : Int) = r
  have l1 : Lb [(1 : Int)] := Lb.cons (by decide) (by decide) Lb.nil
  have v1 : lv [(1 : Int)] = 1 := rfl
  have fin : (false && decide (2 ^ 192 ≠ 0), lim (2 ^ 192)) = r := by rw [← hr, show piOne = 2 ^ 192 from rfl, whN_of]; rfl
  have len : (lim (2 ^ 192)).length ≤ 268435456 := Nat.le_trans (lim_length_le (k := 7) (by decide +kernel)) (by decide)
  clear hr
  refine callsA_of hG hm Tryd.func36 (by kernel_rfl) ?_
  intro E hE lp hl'
  have es : E.sub [1] 0 1 = [1] := by subst hE; rfl
  cbv
  (first | (apply E_pcallX hE (c_natShl _ 192 ?_ ?_); (case hm => rfl); (case hle => (repeat' (first | exact u_nil | apply u_cons | apply u2_agg | exact u2_int | exact u1_int | exact u2_bool | exact u1_bool | exact u2_sli | exact u1_sli | exact u2_s0 | exact u1_s0))); all_goals (first | (intro u hu; cbv) | (first | (show Lb (E.sub [1] 0 1); rw [es]; exact l1) | (show (E.sub [1] 0 1).length < 67108864; rw [es]; decide)))) | (apply E_callX hE (c_natShl _ 192 ?_ ?_); (case hf => rfl); (case hc => (cbv <;> trivial)); (case hle => (repeat' (first | exact u_nil | apply u_cons | apply u2_agg | exact u2_int | exact u1_int | exact u2_bool | exact u1_bool | exact u2_sli | exact u1_sli | exact u2_s0 | exact u1_s0))); all_goals (first | (intro u hu; cbv) | (first | (show Lb (E.sub [1] 0 1); rw [es]; exact l1) | (show (E.sub [1] 0 1).length < 67108864; rw [es]; decide)))))
  have hu : u = lim (2 ^ 192) := by
    have k : u = (if (192 : Int) < 1 then lim (lv (E.sub [1] 0 1)) else if 16777216 < (192 : Int) then [] else lim (lv (E.sub [1] 0 1) * 2 ^ (192 : Int).toNat)) := hu
    rw [k, es, v1, if_neg (by decide), if_neg (by decide), Nat.one_mul]; rfl
  have ub : Lb u := by rw [hu]; exact lim_lb _
  have ul : u.length ≤ 268435456 := by rw [hu]; exact len
  (first | (apply E_pcallX hE (c_wMake false u ub ul); (case hm => rfl); (case hle => (repeat' (first | exact u_nil | apply u_cons | apply u2_agg | exact u2_int | exact u1_int | exact u2_bool | exact u1_bool | exact u2_sli | exact u1_sli | exact u2_s0 | exact u1_s0))); all_goals (first | (intro t ht; cbv) | (assumption))) | (apply E_callX hE (c_wMake false u ub ul); (case hf => rfl); (case hc => (cbv <;> trivial)); (case hle => (repeat' (first | exact u_nil | apply u_cons | apply u2_agg | exact u2_int | exact u1_int | exact u2_bool | exact u1_bool | exact u2_sli | exact u1_sli | exact u2_s0 | exact u1_s0))); all_goals (first | (intro t ht; cbv) | (assumption))))
  have k : t = r := by
    have k : t = (false && decide (lv u ≠ 0), lim (lv u)) := ht
    rw [k, hu, lv_lim]; exact fin
  rw [← k]; exact ⟨rfl, rfl, trivial⟩

theorem mulN (na : Bool) (a : List Int) (nb : Bool) (b : List Int) : ((na != nb) && decide (lv a * lv b ≠ 0), lim (lv a * lv b)) = whN (wv na a * wv nb b) := by
  rw [whN_of]; unfold wv; congr 1
  cases na <;> cases nb <;> simp [Int.neg_mul, Int.mul_neg, Int.neg_neg]
theorem c_piTimes (na : Bool) (a : List Int) (n : Int) (ha : Lb a) (hla : a.length < 60000000) (h1 : -9223372036854775808 ≤ n) (h2 : n < 9223372036854775808) :
    ∃ t : Bool × List Int, t = whN (wv na a * n) ∧ CallsA Tryd.prog 97 [.agg [.bool (.s na), .sli .u32 a], .int .i64 (.s n)] (.agg [.bool (.s t.1), .sli .u32 t.2]) := by
  refine ⟨_, rfl, ?_⟩
  generalize hr : whN (wv na a * n) = r
  have len : (lim n.natAbs).length < 60000000 := Nat.lt_of_le_of_lt (lim_length_le (k := 2) (by rw [show (4294967296 : Nat) ^ 2 = 18446744073709551616 by decide +kernel]; omega)) (by decide)
  have fin : ∀ (u t : Bool × List Int), u = (decide (n < 0), lim n.natAbs) → t = ((na != u.1) && decide (lv a * lv u.2 ≠ 0), lim (lv a * lv u.2)) → t = r := by
    intro u t hu ht
    rw [ht, mulN, ← hr, show u = whN n from hu, wv_whN]
  clear hr
  refine callsA_of hG hm Tryd.func97 (by kernel_rfl) ?_
  intro E hE lp hl'
  cbv
  (first | (apply E_pcallX hE (c_wFrom n h1 h2); (case hm => rfl); (case hle => (repeat' (first | exact u_nil | apply u_cons | apply u2_agg | exact u2_int | exact u1_int | exact u2_bool | exact u1_bool | exact u2_sli | exact u1_sli | exact u2_s0 | exact u1_s0))); all_goals (first | (intro u hu; cbv) | (assumption))) | (apply E_callX hE (c_wFrom n h1 h2); (case hf => rfl); (case hc => (cbv <;> trivial)); (case hle => (repeat' (first | exact u_nil | apply u_cons | apply u2_agg | exact u2_int | exact u1_int | exact u2_bool | exact u1_bool | exact u2_sli | exact u1_sli | exact u2_s0 | exact u1_s0))); all_goals (first | (intro u hu; cbv) | (assumption))))
  have ub : Lb u.2 := by rw [show u = (decide (n < 0), lim n.natAbs) from hu]; exact lim_lb _
  have ul : u.2.length < 60000000 := by rw [show u = (decide (n < 0), lim n.natAbs) from hu]; exact len
  apply E_pcallX hE (c_wMul2 na a u.1 u.2 ha ub hla ul)
  case hm => rfl
  case hle => exact ⟨u2_slc', trivial⟩
  intro t ht
  cbv
  have k : t = r := fin u t hu ht
  rw [← k]; exact ⟨rfl, rfl, trivial⟩

theorem c_wDivP (a b : List Int) (ha : Lb a) (hb : Lb b) (hla : a.length < 33554432) (hlb : b.length < 33554432) (hb0 : lv b ≠ 0) :
    ∃ t : (Bool × List Int) × (Bool × List Int), t = (whN ((lv a / lv b : Nat) : Int), whN ((lv a % lv b : Nat) : Int)) ∧
      CallsA Tryd.prog 115 [.agg [.bool (.s false), .sli .u32 a], .agg [.bool (.s false), .sli .u32 b]] (.tup [.agg [.bool (.s t.1.1), .sli .u32 t.1.2], .agg [.bool (.s t.2.1), .sli .u32 t.2.2], .bool (.s true)]) := by
  refine ⟨_, rfl, ?_⟩
  generalize hr : (whN ((lv a / lv b : Nat) : Int), whN ((lv a % lv b : Nat) : Int)) = r
  have qn : ∀ (t : Bool × List Int), t = (false && decide (lv a / lv b ≠ 0), lim (lv a / lv b)) → t = r.1 := by
    intro t h; rw [h, ← hr, whN_of]; rfl
  have rn : ∀ (t : Bool × List Int), t = (false && decide (lv a % lv b ≠ 0), lim (lv a % lv b)) → t = r.2 := by
    intro t h; rw [h, ← hr, whN_of]; rfl
  have b1 : b.length < 67108864 := by omega
  have l1 : (lim (lv a / lv b)).length ≤ 268435456 := by have := lim_mono (Nat.div_le_self (lv a) (lv b)); have := lim_length_le' ha; omega
  have l2 : (lim (lv a % lv b)).length < 67108864 := by have := lim_mono (Nat.mod_le (lv a) (lv b)); have := lim_length_le' ha; omega
  have l3 : (lim (lv a % lv b)).length ≤ 268435456 := by omega
  clear hr
  refine callsA_of hG hm Tryd.func115 (by kernel_rfl) ?_
  intro E hE lp hl'
  cbv
  (first | (apply E_pcallX hE (c_natDiv a b ha hb hla hlb); (case hm => rfl); (case hle => (repeat' (first | exact u_nil | apply u_cons | apply u2_agg | exact u2_int | exact u1_int | exact u2_bool | exact u1_bool | exact u2_sli | exact u1_sli | exact u2_s0 | exact u1_s0))); all_goals (first | (intro d hd; cbv) | (assumption))) | (apply E_callX hE (c_natDiv a b ha hb hla hlb); (case hf => rfl); (case hc => (cbv <;> trivial)); (case hle => (repeat' (first | exact u_nil | apply u_cons | apply u2_agg | exact u2_int | exact u1_int | exact u2_bool | exact u1_bool | exact u2_sli | exact u1_sli | exact u2_s0 | exact u1_s0))); all_goals (first | (intro d hd; cbv) | (assumption))))
  have hd : d = (lim (lv a / lv b), lim (lv a % lv b), true) := by
    have k : d = (if lv b = 0 then ([], [], false) else (lim (lv a / lv b), lim (lv a % lv b), true)) := hd
    rw [k, if_neg hb0]
  have d1 : d.1 = lim (lv a / lv b) := by rw [hd]
  have d2 : d.2.1 = lim (lv a % lv b) := by rw [hd]
  have d3 : d.2.2 = true := by rw [hd]
  have db : Lb d.1 := by rw [d1]; exact lim_lb _
  have dc : Lb d.2.1 := by rw [d2]; exact lim_lb _
  have dl : d.1.length ≤ 268435456 := by rw [d1]; exact l1
  have dm : d.2.1.length ≤ 268435456 := by rw [d2]; exact l3
  refine E_br hE (fun g => ?_) (fun g => ?_)
  · exfalso
    have k : E.bnot d.2.2 = true := g
    rw [d3] at k; subst hE; cases k
  cbv
  (first | (apply E_pcallX hE (c_wMake _ d.1 db dl); (case hm => rfl); (case hle => (repeat' (first | exact u_nil | apply u_cons | apply u2_agg | exact u2_int | exact u1_int | exact u2_bool | exact u1_bool | exact u2_sli | exact u1_sli | exact u2_s0 | exact u1_s0))); all_goals (first | (intro x hx; cbv) | (assumption))) | (apply E_callX hE (c_wMake _ d.1 db dl); (case hf => rfl); (case hc => (cbv <;> trivial)); (case hle => (repeat' (first | exact u_nil | apply u_cons | apply u2_agg | exact u2_int | exact u1_int | exact u2_bool | exact u1_bool | exact u2_sli | exact u1_sli | exact u2_s0 | exact u1_s0))); all_goals (first | (intro x hx; cbv) | (assumption))))
  (first | (apply E_pcallX hE (c_wMake _ d.2.1 dc dm); (case hm => rfl); (case hle => (repeat' (first | exact u_nil | apply u_cons | apply u2_agg | exact u2_int | exact u1_int | exact u2_bool | exact u1_bool | exact u2_sli | exact u1_sli | exact u2_s0 | exact u1_s0))); all_goals (first | (intro y hy; cbv) | (assumption))) | (apply E_callX hE (c_wMake _ d.2.1 dc dm); (case hf => rfl); (case hc => (cbv <;> trivial)); (case hle => (repeat' (first | exact u_nil | apply u_cons | apply u2_agg | exact u2_int | exact u1_int | exact u2_bool | exact u1_bool | exact u2_sli | exact u1_sli | exact u2_s0 | exact u1_s0))); all_goals (first | (intro y hy; cbv) | (assumption))))
  have ex : x = r.1 := qn x (by have k : x = ((E.bnot (E.beq false false)) && decide (lv d.1 ≠ 0), lim (lv d.1)) := hx; rw [k, d1, lv_lim]; subst hE; rfl)
  have ey : y = r.2 := rn y (by have k : y = (false && decide (lv d.2.1 ≠ 0), lim (lv d.2.1)) := hy; rw [k, d2, lv_lim])
  have y0 : y = (false, lim (lv a % lv b)) := by have k : y = (false && decide (lv d.2.1 ≠ 0), lim (lv d.2.1)) := hy; rw [k, d2, lv_lim]; rfl
  have yb : Lb y.2 := by rw [y0]; exact lim_lb _
  have yl : y.2.length < 67108864 := by rw [y0]; exact l2
  (first | (apply E_pcallX hE (c_wSign y.1 y.2 yb yl); (case hm => rfl); (case hle => (repeat' (first | exact u_nil | apply u_cons | apply u2_agg | exact u2_int | exact u1_int | exact u2_bool | exact u1_bool | exact u2_sli | exact u1_sli | exact u2_s0 | exact u1_s0))); all_goals (first | (intro s hs; cbv) | (assumption))) | (apply E_callX hE (c_wSign y.1 y.2 yb yl); (case hf => rfl); (case hc => (cbv <;> trivial)); (case hle => (repeat' (first | exact u_nil | apply u_cons | apply u2_agg | exact u2_int | exact u1_int | exact u2_bool | exact u1_bool | exact u2_sli | exact u1_sli | exact u2_s0 | exact u1_s0))); all_goals (first | (intro s hs; cbv) | (assumption))))
  (first | (apply E_pcallX hE (c_wSign false b hb b1); (case hm => rfl); (case hle => (repeat' (first | exact u_nil | apply u_cons | apply u2_agg | exact u2_int | exact u1_int | exact u2_bool | exact u1_bool | exact u2_sli | exact u1_sli | exact u2_s0 | exact u1_s0))); all_goals (first | (intro z hz; cbv) | (assumption))) | (apply E_callX hE (c_wSign false b hb b1); (case hf => rfl); (case hc => (cbv <;> trivial)); (case hle => (repeat' (first | exact u_nil | apply u_cons | apply u2_agg | exact u2_int | exact u1_int | exact u2_bool | exact u1_bool | exact u2_sli | exact u1_sli | exact u2_s0 | exact u1_s0))); all_goals (first | (intro z hz; cbv) | (assumption))))
  have hs : s = 0 ∨ s = 1 := by
    have k : s = (if lv y.2 = 0 then 0 else if y.1 then -1 else 1) := hs
    rw [k, y0]; split
    · exact .inl rfl
    · exact .inr rfl
  have hz : z = 1 := by
    have k : z = (if lv b = 0 then 0 else if false then -1 else 1) := hz
    rw [k, if_neg hb0]; rfl
  refine E_br hE (fun g => ?_) (fun g => ?_)
  · exfalso
    have k : E.bin .mul .i64 s z < 0 := by subst hE; exact lss_t g
    rw [hz] at k
    subst hE
    rcases hs with h | h <;> (rw [h] at k; exact absurd k (by decide))
  cbv
  exact ⟨⟨congrArg Prod.fst ex, congrArg Prod.snd ex, trivial⟩, ⟨congrArg Prod.fst ey, congrArg Prod.snd ey, trivial⟩, trivial⟩

end Go.Proofs.YtpadpcjdakfokaaDoor.Ev

/- Contract of pi.Fix: the fixed number of a number. Printed by gen.py. -/
namespace Go.Proofs.YtpadpcjdakfokaaDoor.Ev
open Go Go.Proofs
set_option linter.unusedVariables false
set_option linter.unusedSimpArgs false

attribute [local irreducible] Lb whN
theorem w0 : whN 0 = (false, []) := by unfold whN; rfl
theorem wm1 : whN (-1) = (decide ((-1 : Int) < 0), lim (-1 : Int).natAbs) := by unfold whN; rfl
set_option maxHeartbeats 2000000 in
theorem c_Fix (n : Num) (on : n.ok) : ∃ t : (Bool × List Int) × Bool, t = (whN (fixV n).1, (fixV n).2) ∧ CallsA Tryd.prog 7 [n.av] (.tup [.agg [.bool (.s t.1.1), .sli .u32 t.1.2], .bool (.s t.2)]) := by
  refine ⟨_, rfl, ?_⟩
  generalize hr : (whN (fixV n).1, (fixV n).2) = r
  have F0 : n.may = false → (whN 0, true) = r := by intro h; rw [← hr, fix_bad h]
  have F1 : n.may = true → n.exact.2 = false → (whN 0, false) = r := by
    intro h g
    have k : n.kind = 2 := by
      unfold Num.exact at g
      split at g
      · rename_i z; rcases z with z | z
        · rw [h] at z; cases z
        · exact z
      · split at g <;> cases g
    rw [← hr, fix_far h on (.inl k)]
  have F2 : n.may = true → (¬ n.cmp (Num.ofInt 1073741824) < 0 ∨ n.cmp (Num.ofInt (-1073741824)) ≤ 0) → (whN 0, false) = r := by
    intro h g; rw [← hr, fix_far h on (.inr g)]
  have F3 : n.may = true → n.exact.2 = true → ¬ (¬ n.cmp (Num.ofInt 1073741824) < 0 ∨ n.cmp (Num.ofInt (-1073741824)) ≤ 0) →
      (n.kind = 1 → n.e < -256 → n.neg = true → (whN (-1), true) = r) ∧ (¬ (n.kind = 1 ∧ n.neg = true) → n.e < -256 → (whN 0, true) = r) ∧ DyC n.exact.1 ∧
      ((dyL (dyMake n.exact.1.1 n.exact.1.2.1 (n.exact.1.2.2 + 192))).2.1.length < 67108864) ∧ ∀ t, t = whN (dyFloor (dyMake n.exact.1.1 n.exact.1.2.1 (n.exact.1.2.2 + 192))) → (t, true) = r := by
    intro h g f
    have k2 : n.kind ≠ 2 := by
      intro z; unfold Num.exact at g; rw [if_pos (.inr z)] at g; cases g
    have v := fix_ok h on (by rintro (z | z); exact k2 z; exact f z)
    have d := exact_dy (x := n) on (by rw [Num.fair_of_may h]; exact k2)
    rw [Num.fair_of_may h] at d
    have lo := d.lo
    have hi := d.hi
    have fin : n.kind = 1 → n.Fin := by
      intro k
      rcases Num.may3 h on with z | z | z
      · rw [z] at k; cases k
      · exact z
      · rw [z] at k; exact absurd k (show ¬ (2 : Int) = 1 by decide)
    refine ⟨fun k e ng => ?_, fun k e => ?_, ?_, ?_, fun t ht => ?_⟩
    · rw [← hr, v, fix_near (fin k) e, if_pos ng]
    · rcases Num.may3 h on with z | z | z
      · rw [z] at e; exact absurd e (by decide)
      · rw [← hr, v, fix_near z e, if_neg (fun ng => k ⟨z.kind, ng⟩)]
      · rw [z] at k2; exact absurd rfl k2
    · rcases d.odd with z | z
      · exact .inl z
      · exact .inr ⟨z, by omega, by omega⟩
    · have q := (dyMake_rng n.exact.1.1 n.exact.1.2.1 (n.exact.1.2.2 + 192)).2.2
      have l := d.lt
      have := lim_length_le (n := (dyMake n.exact.1.1 n.exact.1.2.1 (n.exact.1.2.2 + 192)).2.1) (k := 2) (by rw [show (4294967296 : Nat) ^ 2 = 18446744073709551616 by decide +kernel]; omega)
      exact Nat.lt_of_le_of_lt this (by decide)
    · rw [ht, fix_in h on k2, ← hr, v]
  have XL : (dyL n.exact.1).2.1.length < 67108864 := by
    have l : n.exact.1.2.1 < 18446744073709551616 := by
      unfold Num.exact
      split
      · decide
      · split
        · decide
        · have := (dyMake_rng n.neg n.m.toNat n.e).2.2
          have := on.2
          have := on.1
          show (dyMake n.neg n.m.toNat n.e).2.1 < _
          omega
    have := lim_length_le (n := n.exact.1.2.1) (k := 2) (by rw [show (4294967296 : Nat) ^ 2 = 18446744073709551616 by decide +kernel]; omega)
    exact Nat.lt_of_le_of_lt this (by decide)
  clear hr
  refine callsA_of hG hm Tryd.func7 (by kernel_rfl) ?_
  intro E hE lp hl
  cbv
  (first | (apply E_pcallX hE (c_Exact ⟨_, _, _, _⟩ on); (case hm => rfl); (case hle => (repeat' (first | exact u_nil | apply u_cons | apply u2_agg | exact u2_int | exact u1_int | exact u2_bool | exact u1_bool | exact u2_sli | exact u1_sli | exact u2_s0 | exact u1_s0))); all_goals (first | (intro x hx; cbv) | (assumption))) | (apply E_callX hE (c_Exact ⟨_, _, _, _⟩ on); (case hf => rfl); (case hc => (cbv <;> trivial)); (case hle => (repeat' (first | exact u_nil | apply u_cons | apply u2_agg | exact u2_int | exact u1_int | exact u2_bool | exact u1_bool | exact u2_sli | exact u1_sli | exact u2_s0 | exact u1_s0))); all_goals (first | (intro x hx; cbv) | (assumption))))
  have x1 : x.1 = dyL n.exact.1 := by have k : x = (dyL n.exact.1, n.exact.2) := hx; rw [k]
  have x2 : x.2 = n.exact.2 := by have k : x = (dyL n.exact.1, n.exact.2) := hx; rw [k]
  have xl : x.1.2.1.length < 67108864 := by rw [x1]; exact XL
  clear hx XL
  (first | (apply E_pcallX hE (c_Of 1073741824 (by decide) (by decide)); (case hm => rfl); (case hle => (repeat' (first | exact u_nil | apply u_cons | apply u2_agg | exact u2_int | exact u1_int | exact u2_bool | exact u1_bool | exact u2_sli | exact u1_sli | exact u2_s0 | exact u1_s0))); all_goals (first | (intro o1 ho1; cbv) | (assumption))) | (apply E_callX hE (c_Of 1073741824 (by decide) (by decide)); (case hf => rfl); (case hc => (cbv <;> trivial)); (case hle => (repeat' (first | exact u_nil | apply u_cons | apply u2_agg | exact u2_int | exact u1_int | exact u2_bool | exact u1_bool | exact u2_sli | exact u1_sli | exact u2_s0 | exact u1_s0))); all_goals (first | (intro o1 ho1; cbv) | (assumption))))
  (first | (apply E_pcallX hE (c_Cmp ⟨_, _, _, _⟩ ⟨_, _, _, _⟩); (case hm => rfl); (case hle => (repeat' (first | exact u_nil | apply u_cons | apply u2_agg | exact u2_int | exact u1_int | exact u2_bool | exact u1_bool | exact u2_sli | exact u1_sli | exact u2_s0 | exact u1_s0))); all_goals (first | (intro c1 hc1; cbv) | (assumption))) | (apply E_callX hE (c_Cmp ⟨_, _, _, _⟩ ⟨_, _, _, _⟩); (case hf => rfl); (case hc => (cbv <;> trivial)); (case hle => (repeat' (first | exact u_nil | apply u_cons | apply u2_agg | exact u2_int | exact u1_int | exact u2_bool | exact u1_bool | exact u2_sli | exact u1_sli | exact u2_s0 | exact u1_s0))); all_goals (first | (intro c1 hc1; cbv) | (assumption))))
  have hc1 : c1 = n.cmp o1 := hc1
  refine E_br hE (fun gc => ?_) (fun gc => ?_) <;> cbv
  · skip
    (first | (apply E_pcallX hE (c_May ⟨_, _, _, _⟩); (case hm => rfl); (case hle => (repeat' (first | exact u_nil | apply u_cons | apply u2_agg | exact u2_int | exact u1_int | exact u2_bool | exact u1_bool | exact u2_sli | exact u1_sli | exact u2_s0 | exact u1_s0))); all_goals (first | (intro o ho_; cbv) | (assumption))) | (apply E_callX hE (c_May ⟨_, _, _, _⟩); (case hf => rfl); (case hc => (cbv <;> trivial)); (case hle => (repeat' (first | exact u_nil | apply u_cons | apply u2_agg | exact u2_int | exact u1_int | exact u2_bool | exact u1_bool | exact u2_sli | exact u1_sli | exact u2_s0 | exact u1_s0))); all_goals (first | (intro o ho_; cbv) | (assumption))))
    have ho_ : o = n.may := ho_
    refine E_br hE (fun g1 => ?_) (fun g1 => ?_) <;> cbv
    · rw [← F0 (by rw [← ho_]; subst hE; cases o; rfl; exact absurd g1 (by decide)), w0]; exact ⟨⟨rfl, rfl, trivial⟩, rfl, trivial⟩
    have mm : n.may = true := by rw [← ho_]; subst hE; cases o; exact absurd g1 (by decide); rfl
    refine E_br hE (fun g2 => ?_) (fun g2 => ?_) <;> cbv
    · rw [← F1 mm (by rw [← x2]; subst hE; cases q : x.2; rfl; rw [q] at g2; exact absurd g2 (by decide)), w0]; exact ⟨⟨rfl, rfl, trivial⟩, rfl, trivial⟩
    · rw [← F2 mm (.inl (by rw [← ho1, ← hc1]; subst hE; have := geq_t gc; omega)), w0]; exact ⟨⟨rfl, rfl, trivial⟩, rfl, trivial⟩
  · skip
    (first | (apply E_pcallX hE (c_Of (-1073741824) (by decide) (by decide)); (case hm => rfl); (case hle => (repeat' (first | exact u_nil | apply u_cons | apply u2_agg | exact u2_int | exact u1_int | exact u2_bool | exact u1_bool | exact u2_sli | exact u1_sli | exact u2_s0 | exact u1_s0))); all_goals (first | (intro o2 ho2; cbv) | (assumption))) | (apply E_callX hE (c_Of (-1073741824) (by decide) (by decide)); (case hf => rfl); (case hc => (cbv <;> trivial)); (case hle => (repeat' (first | exact u_nil | apply u_cons | apply u2_agg | exact u2_int | exact u1_int | exact u2_bool | exact u1_bool | exact u2_sli | exact u1_sli | exact u2_s0 | exact u1_s0))); all_goals (first | (intro o2 ho2; cbv) | (assumption))))
    (first | (apply E_pcallX hE (c_Cmp ⟨_, _, _, _⟩ ⟨_, _, _, _⟩); (case hm => rfl); (case hle => (repeat' (first | exact u_nil | apply u_cons | apply u2_agg | exact u2_int | exact u1_int | exact u2_bool | exact u1_bool | exact u2_sli | exact u1_sli | exact u2_s0 | exact u1_s0))); all_goals (first | (intro c2 hc2; cbv) | (assumption))) | (apply E_callX hE (c_Cmp ⟨_, _, _, _⟩ ⟨_, _, _, _⟩); (case hf => rfl); (case hc => (cbv <;> trivial)); (case hle => (repeat' (first | exact u_nil | apply u_cons | apply u2_agg | exact u2_int | exact u1_int | exact u2_bool | exact u1_bool | exact u2_sli | exact u1_sli | exact u2_s0 | exact u1_s0))); all_goals (first | (intro c2 hc2; cbv) | (assumption))))
    have hc2 : c2 = n.cmp o2 := hc2
    (first | (apply E_pcallX hE (c_May ⟨_, _, _, _⟩); (case hm => rfl); (case hle => (repeat' (first | exact u_nil | apply u_cons | apply u2_agg | exact u2_int | exact u1_int | exact u2_bool | exact u1_bool | exact u2_sli | exact u1_sli | exact u2_s0 | exact u1_s0))); all_goals (first | (intro o ho_; cbv) | (assumption))) | (apply E_callX hE (c_May ⟨_, _, _, _⟩); (case hf => rfl); (case hc => (cbv <;> trivial)); (case hle => (repeat' (first | exact u_nil | apply u_cons | apply u2_agg | exact u2_int | exact u1_int | exact u2_bool | exact u1_bool | exact u2_sli | exact u1_sli | exact u2_s0 | exact u1_s0))); all_goals (first | (intro o ho_; cbv) | (assumption))))
    have ho_ : o = n.may := ho_
    refine E_br hE (fun g1 => ?_) (fun g1 => ?_) <;> cbv
    · rw [← F0 (by rw [← ho_]; subst hE; cases o; rfl; exact absurd g1 (by decide)), w0]; exact ⟨⟨rfl, rfl, trivial⟩, rfl, trivial⟩
    have mm : n.may = true := by rw [← ho_]; subst hE; cases o; exact absurd g1 (by decide); rfl
    refine E_br hE (fun g2 => ?_) (fun g2 => ?_) <;> cbv
    · rw [← F1 mm (by rw [← x2]; subst hE; cases q : x.2; rfl; rw [q] at g2; exact absurd g2 (by decide)), w0]; exact ⟨⟨rfl, rfl, trivial⟩, rfl, trivial⟩
    have ex : n.exact.2 = true := by rw [← x2]; subst hE; cases q : x.2; rw [q] at g2; exact absurd g2 (by decide); rfl
    refine E_br hE (fun g3 => ?_) (fun g3 => ?_) <;> cbv
    · rw [← F2 mm (.inr (by rw [← ho2, ← hc2]; subst hE; exact leq_t g3)), w0]; exact ⟨⟨rfl, rfl, trivial⟩, rfl, trivial⟩
    obtain ⟨G1, G2, g3a, g3c, g3b⟩ := F3 mm ex (by
      rintro (z | z)
      · rw [← ho1, ← hc1] at z; subst hE; exact z (by have := geq_f gc; omega)
      · rw [← ho2, ← hc2] at z; subst hE; exact leq_f g3 z)
    refine E_br hE (fun k1 => ?_) (fun k1 => ?_) <;> cbv
    · have k1 : n.kind = 1 := by subst hE; exact eql_t k1
      refine E_br hE (fun k2 => ?_) (fun k2 => ?_) <;> cbv
      · have k2' : n.e < -256 := by subst hE; exact lss_t k2
        refine E_br hE (fun k3 => ?_) (fun k3 => ?_) <;> cbv
        · (first | (apply E_pcallX hE (c_wFrom (-1) (by decide) (by decide)); (case hm => rfl); (case hle => (repeat' (first | exact u_nil | apply u_cons | apply u2_agg | exact u2_int | exact u1_int | exact u2_bool | exact u1_bool | exact u2_sli | exact u1_sli | exact u2_s0 | exact u1_s0))); all_goals (first | (intro u hu; cbv) | (assumption))) | (apply E_callX hE (c_wFrom (-1) (by decide) (by decide)); (case hf => rfl); (case hc => (cbv <;> trivial)); (case hle => (repeat' (first | exact u_nil | apply u_cons | apply u2_agg | exact u2_int | exact u1_int | exact u2_bool | exact u1_bool | exact u2_sli | exact u1_sli | exact u2_s0 | exact u1_s0))); all_goals (first | (intro u hu; cbv) | (assumption))))
          rw [← G1 k1 k2' k3, wm1, ← hu]; exact ⟨⟨rfl, rfl, trivial⟩, rfl, trivial⟩
        · refine E_br_t hE k2 ?_; cbv
          rw [← G2 (by rw [k3]; rintro ⟨_, z⟩; cases z) k2', w0]; exact ⟨⟨rfl, rfl, trivial⟩, rfl, trivial⟩
      · refine E_br_f hE k2 ?_; cbv
        (first | (apply E_pcallX hE (c_dyMove n.exact.1 g3a x.1 x1 xl 192 (by decide) (by decide)); (case hm => rfl); (case hle => (repeat' (first | exact u_nil | apply u_cons | apply u2_agg | exact u2_int | exact u1_int | exact u2_bool | exact u1_bool | exact u2_sli | exact u1_sli | exact u2_s0 | exact u1_s0))); all_goals (first | (intro y hy; cbv) | (assumption))) | (apply E_callX hE (c_dyMove n.exact.1 g3a x.1 x1 xl 192 (by decide) (by decide)); (case hf => rfl); (case hc => (cbv <;> trivial)); (case hle => (repeat' (first | exact u_nil | apply u_cons | apply u2_agg | exact u2_int | exact u1_int | exact u2_bool | exact u1_bool | exact u2_sli | exact u1_sli | exact u2_s0 | exact u1_s0))); all_goals (first | (intro y hy; cbv) | (assumption))))
        have yl : y.2.1.length < 67108864 := by rw [hy]; exact g3c
        (first | (apply E_pcallX hE (c_dyFloor (dyMake n.exact.1.1 n.exact.1.2.1 (n.exact.1.2.2 + 192)) (dyMake_c _ _ _) y hy yl); (case hm => rfl); (case hle => (repeat' (first | exact u_nil | apply u_cons | apply u2_agg | exact u2_int | exact u1_int | exact u2_bool | exact u1_bool | exact u2_sli | exact u1_sli | exact u2_s0 | exact u1_s0))); all_goals (first | (intro z hz; cbv) | (assumption))) | (apply E_callX hE (c_dyFloor (dyMake n.exact.1.1 n.exact.1.2.1 (n.exact.1.2.2 + 192)) (dyMake_c _ _ _) y hy yl); (case hf => rfl); (case hc => (cbv <;> trivial)); (case hle => (repeat' (first | exact u_nil | apply u_cons | apply u2_agg | exact u2_int | exact u1_int | exact u2_bool | exact u1_bool | exact u2_sli | exact u1_sli | exact u2_s0 | exact u1_s0))); all_goals (first | (intro z hz; cbv) | (assumption))))
        rw [← g3b z hz]; exact ⟨⟨rfl, rfl, trivial⟩, rfl, trivial⟩
    · have k1 : ¬ n.kind = 1 := by subst hE; exact eql_f k1
      refine E_br hE (fun k2 => ?_) (fun k2 => ?_) <;> cbv
      · rw [← G2 (fun z => k1 z.1) (by subst hE; exact lss_t k2), w0]; exact ⟨⟨rfl, rfl, trivial⟩, rfl, trivial⟩
      · skip
        (first | (apply E_pcallX hE (c_dyMove n.exact.1 g3a x.1 x1 xl 192 (by decide) (by decide)); (case hm => rfl); (case hle => (repeat' (first | exact u_nil | apply u_cons | apply u2_agg | exact u2_int | exact u1_int | exact u2_bool | exact u1_bool | exact u2_sli | exact u1_sli | exact u2_s0 | exact u1_s0))); all_goals (first | (intro y hy; cbv) | (assumption))) | (apply E_callX hE (c_dyMove n.exact.1 g3a x.1 x1 xl 192 (by decide) (by decide)); (case hf => rfl); (case hc => (cbv <;> trivial)); (case hle => (repeat' (first | exact u_nil | apply u_cons | apply u2_agg | exact u2_int | exact u1_int | exact u2_bool | exact u1_bool | exact u2_sli | exact u1_sli | exact u2_s0 | exact u1_s0))); all_goals (first | (intro y hy; cbv) | (assumption))))
        have yl : y.2.1.length < 67108864 := by rw [hy]; exact g3c
        (first | (apply E_pcallX hE (c_dyFloor (dyMake n.exact.1.1 n.exact.1.2.1 (n.exact.1.2.2 + 192)) (dyMake_c _ _ _) y hy yl); (case hm => rfl); (case hle => (repeat' (first | exact u_nil | apply u_cons | apply u2_agg | exact u2_int | exact u1_int | exact u2_bool | exact u1_bool | exact u2_sli | exact u1_sli | exact u2_s0 | exact u1_s0))); all_goals (first | (intro z hz; cbv) | (assumption))) | (apply E_callX hE (c_dyFloor (dyMake n.exact.1.1 n.exact.1.2.1 (n.exact.1.2.2 + 192)) (dyMake_c _ _ _) y hy yl); (case hf => rfl); (case hc => (cbv <;> trivial)); (case hle => (repeat' (first | exact u_nil | apply u_cons | apply u2_agg | exact u2_int | exact u1_int | exact u2_bool | exact u1_bool | exact u2_sli | exact u1_sli | exact u2_s0 | exact u1_s0))); all_goals (first | (intro z hz; cbv) | (assumption))))
        rw [← g3b z hz]; exact ⟨⟨rfl, rfl, trivial⟩, rfl, trivial⟩

end Go.Proofs.YtpadpcjdakfokaaDoor.Ev

/- Exact sums, differences and products of dyadic numbers, by their values: plain Lean. -/
namespace Go.Proofs.YtpadpcjdakfokaaDoor.Ev
open Go
set_option linter.unusedVariables false
set_option linter.unusedSimpArgs false

/-- a dyadic number of a value, its bits between two places -/
structure DyV (B : Nat) (p : Bool × Nat × Int) (t : Int) : Prop where
  odd : p = (false, 0, 0) ∨ p.2.1 % 2 = 1
  lo : -(B : Int) ≤ p.2.2
  hi : p.2.2 + blen (p.2.1 : Int) ≤ B
  val : dyv p = t

theorem DyV.c {B : Nat} {p : Bool × Nat × Int} {t : Int} (h : DyV B p t) (hB : B ≤ 4000000) : DyC p := by
  have lo := h.lo
  have hi := h.hi
  have b := blen_nonneg (p.2.1 : Int)
  rcases h.odd with k | k
  · exact .inl k
  · exact .inr ⟨k, by omega, by omega⟩
theorem lim_blen (k : Nat) : (lim k).length ≤ (blen (k : Int)).toNat / 32 + 1 := by
  refine lim_length_le ?_
  have a := blen_lt (n := k)
  have b : 2 ^ (blen (k : Int)).toNat ≤ 4294967296 ^ ((blen (k : Int)).toNat / 32 + 1) := by
    rw [show (4294967296 : Nat) = 2 ^ 32 by rfl, ← Nat.pow_mul]
    exact Nat.pow_le_pow_right (by decide) (by omega)
  omega
theorem DyV.len {B : Nat} {p : Bool × Nat × Int} {t : Int} (h : DyV B p t) (hB : B ≤ 4000000) : (dyL p).2.1.length ≤ 250001 := by
  have lo := h.lo
  have hi := h.hi
  have b := lim_blen p.2.1
  show (lim p.2.1).length ≤ _
  omega
theorem DyV.mono {A B : Nat} {p : Bool × Nat × Int} {t : Int} (h : DyV A p t) (hB : A ≤ B) : DyV B p t :=
  ⟨h.odd, by have := h.lo; omega, by have := h.hi; omega, h.val⟩
theorem DyV.of {p : Bool × Nat × Int} {t : Int} (h : Dy p t) : DyV 1048704 p t := by
  refine ⟨h.odd, by have := h.lo; omega, ?_, h.val⟩
  have hi := h.hi
  have lt := h.lt
  have := blen_le (x := (p.2.1 : Int)) 64 (by have : (p.2.1 : Int) < 18446744073709551616 := by omega
                                              exact this)
  show p.2.2 + blen (p.2.1 : Int) ≤ 1048704
  omega
/-- a whole number times a power of two -/
def dyZ (z : Int) (e : Int) : Bool × Nat × Int := dyMake (decide (z < 0)) z.natAbs e
theorem dyZ_val {B : Nat} {z e : Int} (hB : B ≤ 4000000) (he : -(B : Int) ≤ e) (hz : (z.natAbs : Int) < 2 ^ (B - e).toNat) (heB : e ≤ B) : DyV B (dyZ z e) (z * pw e) := by
  by_cases h : z = 0
  · subst h
    have : dyZ 0 e = (false, 0, 0) := by unfold dyZ; exact dyMake_zero _ _
    rw [this]
    exact ⟨.inl rfl, by show -(B : Int) ≤ 0; omega, by show (0 : Int) + blen 0 ≤ B; rw [blen_zero]; omega, by simp [dyv]⟩
  · have bl := blen_le _ hz
    have v := v2_blen (k := z.natAbs) (by omega)
    have d := dyMake_val (ng := decide (z < 0)) (k := z.natAbs) (e := e) (by omega) (by omega) (by omega)
    obtain ⟨d1, d2, d3, d4, d5, d6⟩ := d
    refine ⟨.inr d1, by unfold dyZ; omega, by unfold dyZ; omega, ?_⟩
    unfold dyv dyZ
    rw [d2, d5]
    split
    · rename_i g
      have g : z < 0 := of_decide_eq_true g
      rw [← Int.neg_mul]; congr 1; omega
    · rename_i g
      have g : ¬ z < 0 := fun k => g (decide_eq_true k)
      congr 1; omega
/-- the sum of two -/
def dySum (p q : Bool × Nat × Int) : Bool × Nat × Int :=
  if p.2.1 = 0 then q else if q.2.1 = 0 then p else if q.2.2 < p.2.2 then dyZ (sv q.1 q.2.1 + sv p.1 (p.2.1 * 2 ^ (p.2.2 - q.2.2).toNat)) q.2.2
    else dyZ (sv p.1 p.2.1 + sv q.1 (q.2.1 * 2 ^ (q.2.2 - p.2.2).toNat)) p.2.2
theorem sv_abs (n : Bool) (k : Nat) : (sv n k).natAbs = k := by unfold sv; split <;> omega
theorem align_val {B : Nat} {p q : Bool × Nat × Int} {t u : Int} (hB : B ≤ 3999999) (hp : DyV B p t) (hq : DyV B q u) (he : p.2.2 ≤ q.2.2) :
    DyV (B + 1) (dyZ (sv p.1 p.2.1 + sv q.1 (q.2.1 * 2 ^ (q.2.2 - p.2.2).toNat)) p.2.2) (t + u) := by
  have plo := hp.lo
  have phi := hp.hi
  have qhi := hq.hi
  have pb := blen_nonneg (p.2.1 : Int)
  have qb := blen_nonneg (q.2.1 : Int)
  have e1 := pw_add (e := p.2.2) (f := q.2.2 - p.2.2) (by omega) (by omega)
  rw [show p.2.2 + (q.2.2 - p.2.2) = q.2.2 by omega] at e1
  have ev : (sv p.1 p.2.1 + sv q.1 (q.2.1 * 2 ^ (q.2.2 - p.2.2).toNat)) * pw p.2.2 = t + u := by
    rw [← hp.val, ← hq.val, dyv_sv, dyv_sv, Int.add_mul]
    congr 1
    rw [e1]
    unfold sv
    split
    · rw [Int.natCast_mul, Int.natCast_pow, Int.neg_mul, Int.neg_mul, Int.mul_assoc, Int.mul_comm (pw p.2.2)]; rfl
    · rw [Int.natCast_mul, Int.natCast_pow, Int.mul_assoc, Int.mul_comm (pw p.2.2)]; rfl
  rw [← ev]
  refine dyZ_val (by omega) (by omega) ?_ (by omega)
  have a := blen_lt (n := p.2.1)
  have b := blen_lt (n := q.2.1)
  obtain ⟨D, hD⟩ : ∃ D : Nat, (B : Int) - p.2.2 = D := ⟨((B : Int) - p.2.2).toNat, by omega⟩
  have a2 : 2 ^ (blen (p.2.1 : Int)).toNat ≤ 2 ^ D := Nat.pow_le_pow_right (by decide) (by omega)
  have b2 : 2 ^ (blen (q.2.1 : Int)).toNat * 2 ^ (q.2.2 - p.2.2).toNat ≤ 2 ^ D := by
    rw [← Nat.pow_add]; exact Nat.pow_le_pow_right (by decide) (by omega)
  have b3 : q.2.1 * 2 ^ (q.2.2 - p.2.2).toNat < 2 ^ D := Nat.lt_of_lt_of_le (Nat.mul_lt_mul_of_pos_right b (Nat.two_pow_pos _)) b2
  have s := Int.natAbs_add_le (sv p.1 p.2.1) (sv q.1 (q.2.1 * 2 ^ (q.2.2 - p.2.2).toNat))
  rw [sv_abs, sv_abs] at s
  have f : (sv p.1 p.2.1 + sv q.1 (q.2.1 * 2 ^ (q.2.2 - p.2.2).toNat)).natAbs < 2 ^ (D + 1) := by rw [Nat.pow_succ]; omega
  have g : (((B + 1 : Nat) : Int) - p.2.2).toNat = D + 1 := by omega
  rw [g]
  have := Int.ofNat_lt.2 f
  rw [Int.natCast_pow] at this
  exact this
theorem DyV.zero {B : Nat} {p : Bool × Nat × Int} {t : Int} (h : DyV B p t) (z : p.2.1 = 0) : t = 0 := by
  rcases h.odd with k | k
  · rw [← h.val, k]; simp [dyv]
  · rw [z] at k; cases k
theorem dySum_val {B : Nat} {p q : Bool × Nat × Int} {t u : Int} (hB : B ≤ 3999999) (hp : DyV B p t) (hq : DyV B q u) : DyV (B + 1) (dySum p q) (t + u) := by
  unfold dySum
  split
  · rename_i z
    rw [hp.zero z, Int.zero_add]
    exact hq.mono (by omega)
  · split
    · rename_i z
      rw [hq.zero z, Int.add_zero]
      exact hp.mono (by omega)
    · split
      · rw [Int.add_comm t u]
        exact align_val hB hq hp (by omega)
      · exact align_val hB hp hq (by omega)
/-- the opposite of one -/
def dyOpp (p : Bool × Nat × Int) : Bool × Nat × Int := (!p.1 && decide (p.2.1 ≠ 0), p.2.1, p.2.2)
theorem dyOpp_val {B : Nat} {p : Bool × Nat × Int} {t : Int} (hp : DyV B p t) : DyV B (dyOpp p) (-t) := by
  refine ⟨?_, hp.lo, hp.hi, ?_⟩
  · rcases hp.odd with k | k
    · left; rw [k]; rfl
    · exact .inr k
  · rw [← hp.val]
    by_cases z : p.2.1 = 0
    · simp [dyv, dyOpp, z]
    · unfold dyv dyOpp
      dsimp only
      rw [decide_eq_true z, Bool.and_true]
      cases p.1 <;> simp
theorem dyMake_self {p : Bool × Nat × Int} (h : DyC p) : dyMake p.1 p.2.1 p.2.2 = p := by
  rcases h with k | k
  · rw [k]; exact dyMake_zero _ _
  · exact dyMake_odd k.1 k.2.1 k.2.2
/-- the sign of one is that of its value -/
theorem dyv_sign {p : Bool × Nat × Int} {B : Nat} {t : Int} (hp : DyV B p t) : (if p.2.1 = 0 then 0 else if p.1 then -1 else 1 : Int) = if t < 0 then -1 else if 0 < t then 1 else 0 := by
  have pe := pw_pos p.2.2
  split
  · rename_i z; rw [hp.zero z]; rfl
  · rename_i z
    have m : 0 < (p.2.1 : Int) * pw p.2.2 := Int.mul_pos (by omega) pe
    have v := hp.val
    unfold dyv at v
    split
    · rename_i g
      rw [if_pos g] at v
      rw [if_pos (by omega)]
    · rename_i g
      rw [if_neg g] at v
      rw [if_neg (by omega), if_pos (by omega)]
end Go.Proofs.YtpadpcjdakfokaaDoor.Ev

/- Contracts of dy.Neg, Sign, add, Add, Sub, Cmp, Mul: by the values of dyadic numbers. Printed by gen.py. -/
namespace Go.Proofs.YtpadpcjdakfokaaDoor.Ev
open Go Go.Proofs
set_option linter.unusedVariables false
set_option linter.unusedSimpArgs false

attribute [local irreducible] Lb
abbrev DyT := Bool × List Int × Int
theorem c_dyNeg (B : Nat) (hB : B ≤ 4000000) (p : Bool × Nat × Int) (v : Int) (hp : DyV B p v) (x : DyT) (hx : x = dyL p) :
    ∃ t : DyT, t = dyL (dyOpp p) ∧ CallsA Tryd.prog 54 [.agg [.bool (.s x.1), .sli .u32 x.2.1, .int .i64 (.s x.2.2)]] (.agg [.bool (.s t.1), .sli .u32 t.2.1, .int .i64 (.s t.2.2)]) := by
  refine ⟨_, rfl, ?_⟩
  generalize hr : dyL (dyOpp p) = r
  have xl := hp.len hB
  rw [← hx] at xl
  have xl1 : x.2.1.length ≤ 268435456 := by omega
  have x1 : x.1 = p.1 := by rw [hx]; rfl
  have x2 : x.2.1 = lim p.2.1 := by rw [hx]; rfl
  have x3 : x.2.2 = p.2.2 := by rw [hx]; rfl
  have xb : Lb x.2.1 := by rw [x2]; exact lim_lb _
  have C := hp.c hB
  have e0 : -4194304 ≤ p.2.2 ∧ p.2.2 ≤ 4194304 := by rcases C with k | k; rw [k]; exact ⟨by decide, by decide⟩; exact k.2
  have fin : ∀ u : Bool × List Int, u = (!x.1 && decide (lv x.2.1 ≠ 0), lim (lv x.2.1)) → Lb u.2 ∧ u.2.length < 67108864 ∧ dyL (dyMake u.1 (lv u.2) x.2.2) = r := by
    intro u hu
    rw [x1, x2, lv_lim] at hu
    have e : u.2 = lim p.2.1 := by rw [hu]
    rw [e]
    refine ⟨lim_lb _, by rw [← x2]; omega, ?_⟩
    rw [lv_lim, hu, x3, ← hr]
    exact congrArg dyL (dyMake_self ((dyOpp_val hp).c hB))
  refine callsA_of hG hm Tryd.func54 (by kernel_rfl) ?_
  intro E hE lp hl
  cbv
  (first | (apply E_pcallX hE (c_wNeg x.1 x.2.1 xb xl1); (case hm => rfl); (case hle => (repeat' (first | exact u_nil | apply u_cons | apply u2_agg | exact u2_int | exact u1_int | exact u2_bool | exact u1_bool | exact u2_sli | exact u1_sli | exact u2_s0 | exact u1_s0))); all_goals (first | (intro u hu; cbv) | (assumption))) | (apply E_callX hE (c_wNeg x.1 x.2.1 xb xl1); (case hf => rfl); (case hc => (cbv <;> trivial)); (case hle => (repeat' (first | exact u_nil | apply u_cons | apply u2_agg | exact u2_int | exact u1_int | exact u2_bool | exact u1_bool | exact u2_sli | exact u1_sli | exact u2_s0 | exact u1_s0))); all_goals (first | (intro u hu; cbv) | (assumption))))
  have F := fin u hu
  (first | (apply E_pcallX hE (c_dyMake u.1 u.2 x.2.2 F.1 F.2.1 ?_ ?_); (case hm => rfl); (case hle => (repeat' (first | exact u_nil | apply u_cons | apply u2_agg | exact u2_int | exact u1_int | exact u2_bool | exact u1_bool | exact u2_sli | exact u1_sli | exact u2_s0 | exact u1_s0))); all_goals (first | (intro t ht; cbv) | ((rw [x3]; omega)))) | (apply E_callX hE (c_dyMake u.1 u.2 x.2.2 F.1 F.2.1 ?_ ?_); (case hf => rfl); (case hc => (cbv <;> trivial)); (case hle => (repeat' (first | exact u_nil | apply u_cons | apply u2_agg | exact u2_int | exact u1_int | exact u2_bool | exact u1_bool | exact u2_sli | exact u1_sli | exact u2_s0 | exact u1_s0))); all_goals (first | (intro t ht; cbv) | ((rw [x3]; omega)))))
  rw [← F.2.2, ← ht]; exact ⟨rfl, rfl, rfl, trivial⟩
theorem c_dySign (B : Nat) (hB : B ≤ 4000000) (p : Bool × Nat × Int) (v : Int) (hp : DyV B p v) (x : DyT) (hx : x = dyL p) :
    ∃ t : Int, t = (if v < 0 then -1 else if 0 < v then 1 else 0) ∧ CallsA Tryd.prog 44 [.agg [.bool (.s x.1), .sli .u32 x.2.1, .int .i64 (.s x.2.2)]] (.int .i64 (.s t)) := by
  refine ⟨_, rfl, ?_⟩
  generalize hr : (if v < 0 then -1 else if 0 < v then 1 else 0 : Int) = r
  rw [← dyv_sign hp] at hr
  have xl := hp.len hB
  rw [← hx] at xl
  have xl2 : x.2.1.length < 4611686018427387904 := by omega
  have C := hp.c hB
  have x1 : x.1 = p.1 := by rw [hx]; rfl
  have x2 : x.2.1 = lim p.2.1 := by rw [hx]; rfl
  refine callsA_of hG hm Tryd.func44 (by kernel_rfl) ?_
  intro E hE lp hl
  cbv
  (first | (apply E_pcallX hE (c_dyFair p C x hx xl2); (case hm => rfl); (case hle => (repeat' (first | exact u_nil | apply u_cons | apply u2_agg | exact u2_int | exact u1_int | exact u2_bool | exact u1_bool | exact u2_sli | exact u1_sli | exact u2_s0 | exact u1_s0))); all_goals (first | (intro y hy; cbv) | (assumption))) | (apply E_callX hE (c_dyFair p C x hx xl2); (case hf => rfl); (case hc => (cbv <;> trivial)); (case hle => (repeat' (first | exact u_nil | apply u_cons | apply u2_agg | exact u2_int | exact u1_int | exact u2_bool | exact u1_bool | exact u2_sli | exact u1_sli | exact u2_s0 | exact u1_s0))); all_goals (first | (intro y hy; cbv) | (assumption))))
  have yb : Lb y.2.1 ∧ y.2.1.length < 67108864 := by rw [hy]; exact ⟨by rw [x2]; exact lim_lb _, Nat.lt_of_le_of_lt xl (by decide)⟩
  (first | (apply E_pcallX hE (c_wSign y.1 y.2.1 yb.1 yb.2); (case hm => rfl); (case hle => (repeat' (first | exact u_nil | apply u_cons | apply u2_agg | exact u2_int | exact u1_int | exact u2_bool | exact u1_bool | exact u2_sli | exact u1_sli | exact u2_s0 | exact u1_s0))); all_goals (first | (intro s hs; cbv) | (assumption))) | (apply E_callX hE (c_wSign y.1 y.2.1 yb.1 yb.2); (case hf => rfl); (case hc => (cbv <;> trivial)); (case hle => (repeat' (first | exact u_nil | apply u_cons | apply u2_agg | exact u2_int | exact u1_int | exact u2_bool | exact u1_bool | exact u2_sli | exact u1_sli | exact u2_s0 | exact u1_s0))); all_goals (first | (intro s hs; cbv) | (assumption))))
  (try (refine E_nm hE (fun s1 hs1 => ?_); cbv))
  have k : s = r := by
    have k : s = (if lv y.2.1 = 0 then 0 else if y.1 then -1 else 1) := hs
    rw [k, hy, x1, x2, lv_lim, hr]
  first | exact k | exact hs1.trans k
set_option maxHeartbeats 2000000 in
theorem c_dyadd (B : Nat) (hB : B ≤ 3999999) (p q : Bool × Nat × Int) (v w : Int) (hp : DyV B p v) (hq : DyV B q w) (x y : DyT) (hx : x = dyL p) (hy : y = dyL q) :
    ∃ t : DyT, t = dyL (dySum p q) ∧ CallsA Tryd.prog 48 [.agg [.bool (.s x.1), .sli .u32 x.2.1, .int .i64 (.s x.2.2)], .agg [.bool (.s y.1), .sli .u32 y.2.1, .int .i64 (.s y.2.2)]] (.agg [.bool (.s t.1), .sli .u32 t.2.1, .int .i64 (.s t.2.2)]) := by
  refine ⟨_, rfl, ?_⟩
  generalize hr : dyL (dySum p q) = r
  have xl := hp.len (by omega)
  rw [← hx] at xl
  have yl := hq.len (by omega)
  rw [← hy] at yl
  have x1 : x.1 = p.1 := by rw [hx]; rfl
  have x2 : x.2.1 = lim p.2.1 := by rw [hx]; rfl
  have x3 : x.2.2 = p.2.2 := by rw [hx]; rfl
  have y1 : y.1 = q.1 := by rw [hy]; rfl
  have y2 : y.2.1 = lim q.2.1 := by rw [hy]; rfl
  have y3 : y.2.2 = q.2.2 := by rw [hy]; rfl
  have xb : Lb x.2.1 := by rw [x2]; exact lim_lb _
  have yb : Lb y.2.1 := by rw [y2]; exact lim_lb _
  have plo := hp.lo
  have phi := hp.hi
  have qlo := hq.lo
  have qhi := hq.hi
  have pbl := blen_nonneg (p.2.1 : Int)
  have qbl := blen_nonneg (q.2.1 : Int)
  have z1 : (x.2.1.length : Int) = 0 ↔ p.2.1 = 0 := by
    rw [x2]
    exact ⟨fun h => lim_eq_nil.1 (List.length_eq_zero_iff.1 (by omega)), fun h => by rw [h]; rfl⟩
  have z2 : (y.2.1.length : Int) = 0 ↔ q.2.1 = 0 := by
    rw [y2]
    exact ⟨fun h => lim_eq_nil.1 (List.length_eq_zero_iff.1 (by omega)), fun h => by rw [h]; rfl⟩
  have r1 : p.2.1 = 0 → y = r := by intro h; rw [← hr]; unfold dySum; rw [if_pos h, hy]
  have r2 : p.2.1 ≠ 0 → q.2.1 = 0 → x = r := by intro h g; rw [← hr]; unfold dySum; rw [if_neg h, if_pos g, hx]
  have step : ∀ (a b : Bool × Nat × Int) (α β : DyT), α = dyL a → β = dyL b → α.2.1.length ≤ 250001 → β.2.1.length ≤ 250001 → a.2.2 ≤ b.2.2 → b.2.2 - a.2.2 ≤ 8000000 →
      dyL (dyZ (sv a.1 a.2.1 + sv b.1 (b.2.1 * 2 ^ (b.2.2 - a.2.2).toNat)) a.2.2) = r → ∀ u, u = (if b.2.2 - a.2.2 < 1 then lim (lv β.2.1) else if 16777216 < b.2.2 - a.2.2 then [] else lim (lv β.2.1 * 2 ^ (b.2.2 - a.2.2).toNat)) →
      Lb u ∧ u.length < 134217728 ∧ ∀ z : Bool × List Int, z = whN (wv α.1 α.2.1 + wv β.1 u) → Lb z.2 ∧ z.2.length < 67108864 ∧ dyL (dyMake z.1 (lv z.2) a.2.2) = r := by
    intro a b α β hα hβ lα lβ hle hd hr u hu
    have b2 : β.2.1 = lim b.2.1 := by rw [hβ]; rfl
    have hu : u = lim (b.2.1 * 2 ^ (b.2.2 - a.2.2).toNat) := by
      rw [hu, b2, lv_lim]
      split
      · rw [show (b.2.2 - a.2.2).toNat = 0 by omega, Nat.pow_zero, Nat.mul_one]
      · rw [if_neg (by omega)]
    have ul := shl_len (k := b.2.1) (L := 250001) (n := (b.2.2 - a.2.2).toNat) (by rw [← b2]; exact lβ)
    refine ⟨by rw [hu]; exact lim_lb _, by rw [hu]; omega, fun z hz => ?_⟩
    have e : wv α.1 α.2.1 + wv β.1 u = sv a.1 a.2.1 + sv b.1 (b.2.1 * 2 ^ (b.2.2 - a.2.2).toNat) := by
      rw [hu, hα, hβ]
      unfold wv sv dyL
      dsimp only
      rw [lv_lim, lv_lim]
    have zl : (whN (wv α.1 α.2.1 + wv β.1 u)).2.length ≤ 600000 := by
      rw [e]
      refine whN_len ?_
      have a2 : α.2.1 = lim a.2.1 := by rw [hα]; rfl
      have s := Int.natAbs_add_le (sv a.1 a.2.1) (sv b.1 (b.2.1 * 2 ^ (b.2.2 - a.2.2).toNat))
      rw [sv_abs, sv_abs] at s
      have k1 := lv_lt (lim_lb a.2.1)
      have k2 := lv_lt (lim_lb (b.2.1 * 2 ^ (b.2.2 - a.2.2).toNat))
      rw [lv_lim] at k1 k2
      rw [← a2] at k1
      obtain ⟨M, hM⟩ : ∃ M : Nat, M = 599999 := ⟨_, rfl⟩
      have m1 : (4294967296 : Nat) ^ α.2.1.length ≤ 4294967296 ^ M := Nat.pow_le_pow_right (by decide) (by omega)
      have m2 : (4294967296 : Nat) ^ (lim (b.2.1 * 2 ^ (b.2.2 - a.2.2).toNat)).length ≤ 4294967296 ^ M := Nat.pow_le_pow_right (by decide) (by omega)
      rw [show (600000 : Nat) = M + 1 by omega, Nat.pow_succ]
      have : 0 < 4294967296 ^ M := Nat.pow_pos (by decide)
      omega
    refine ⟨by rw [hz]; exact whN_lb _, by rw [hz]; omega, ?_⟩
    rw [hz, e, ← hr]
    unfold dyZ whN
    dsimp only
    rw [lv_lim]
  have sw : p.2.1 ≠ 0 → q.2.1 ≠ 0 → q.2.2 < p.2.2 → dyL (dyZ (sv q.1 q.2.1 + sv p.1 (p.2.1 * 2 ^ (p.2.2 - q.2.2).toNat)) q.2.2) = r := by
    intro h g k; rw [← hr]; unfold dySum; rw [if_neg h, if_neg g, if_pos k]
  have ns : p.2.1 ≠ 0 → q.2.1 ≠ 0 → ¬ q.2.2 < p.2.2 → dyL (dyZ (sv p.1 p.2.1 + sv q.1 (q.2.1 * 2 ^ (q.2.2 - p.2.2).toNat)) p.2.2) = r := by
    intro h g k; rw [← hr]; unfold dySum; rw [if_neg h, if_neg g, if_neg k]
  have S1 := fun h g (k : q.2.2 < p.2.2) => step q p y x hy hx yl xl (by omega) (by omega) (sw h g k)
  have S2 := fun h g (k : ¬ q.2.2 < p.2.2) => step p q x y hx hy xl yl (by omega) (by omega) (ns h g k)
  have xl2 : x.2.1.length < 67108864 := by omega
  have yl2 : y.2.1.length < 67108864 := by omega
  have xl3 : x.2.1.length < 134217728 := by omega
  have yl3 : y.2.1.length < 134217728 := by omega
  have pr : -4194304 ≤ p.2.2 ∧ p.2.2 ≤ 4194304 := by omega
  have qr : -4194304 ≤ q.2.2 ∧ q.2.2 ≤ 4194304 := by omega
  clear step sw ns hr
  refine callsA_of hG hm Tryd.func48 (by kernel_rfl) ?_
  intro E hE lp hl
  cbv
  refine E_br hE (fun g => ?_) (fun g => ?_) <;> cbv
  · rw [← r1 (z1.1 (by subst hE; exact eql_t g))]; exact ⟨rfl, rfl, rfl, trivial⟩
  have n1 : p.2.1 ≠ 0 := fun h => by subst hE; exact eql_f g (z1.2 h)
  refine E_br hE (fun g2 => ?_) (fun g2 => ?_) <;> cbv
  · rw [← r2 n1 (z2.1 (by subst hE; exact eql_t g2))]; exact ⟨rfl, rfl, rfl, trivial⟩
  have n2 : q.2.1 ≠ 0 := fun h => by subst hE; exact eql_f g2 (z2.2 h)
  refine E_br hE (fun g3 => ?_) (fun g3 => ?_) <;> cbv
  · have k : q.2.2 < p.2.2 := by rw [← x3, ← y3]; subst hE; exact gtr_t g3
    have es : E.bin .sub .i64 x.2.2 y.2.2 = p.2.2 - q.2.2 := by rw [x3, y3]; subst hE; show IntKind.i64.wrap (p.2.2 - q.2.2) = _; exact wi64_in (by omega) (by omega)
    (first | (apply E_pcallX hE (c_natShl x.2.1 (E.bin .sub .i64 x.2.2 y.2.2) xb xl2); (case hm => rfl); (case hle => (repeat' (first | exact u_nil | apply u_cons | apply u2_agg | exact u2_int | exact u1_int | exact u2_bool | exact u1_bool | exact u2_sli | exact u1_sli | exact u2_s0 | exact u1_s0))); all_goals (first | (intro u hu; cbv) | (assumption))) | (apply E_callX hE (c_natShl x.2.1 (E.bin .sub .i64 x.2.2 y.2.2) xb xl2); (case hf => rfl); (case hc => (cbv <;> trivial)); (case hle => (repeat' (first | exact u_nil | apply u_cons | apply u2_agg | exact u2_int | exact u1_int | exact u2_bool | exact u1_bool | exact u2_sli | exact u1_sli | exact u2_s0 | exact u1_s0))); all_goals (first | (intro u hu; cbv) | (assumption))))
    rw [es] at hu
    have U := S1 n1 n2 k u hu
    (first | (apply E_pcallX hE (c_wAdd y.1 y.2.1 x.1 u yb U.1 yl3 U.2.1); (case hm => rfl); (case hle => (repeat' (first | exact u_nil | apply u_cons | apply u2_agg | exact u2_int | exact u1_int | exact u2_bool | exact u1_bool | exact u2_sli | exact u1_sli | exact u2_s0 | exact u1_s0))); all_goals (first | (intro z hz; cbv) | (assumption))) | (apply E_callX hE (c_wAdd y.1 y.2.1 x.1 u yb U.1 yl3 U.2.1); (case hf => rfl); (case hc => (cbv <;> trivial)); (case hle => (repeat' (first | exact u_nil | apply u_cons | apply u2_agg | exact u2_int | exact u1_int | exact u2_bool | exact u1_bool | exact u2_sli | exact u1_sli | exact u2_s0 | exact u1_s0))); all_goals (first | (intro z hz; cbv) | (assumption))))
    have Z := U.2.2 z hz
    (first | (apply E_pcallX hE (c_dyMake z.1 z.2 y.2.2 Z.1 Z.2.1 ?_ ?_); (case hm => rfl); (case hle => (repeat' (first | exact u_nil | apply u_cons | apply u2_agg | exact u2_int | exact u1_int | exact u2_bool | exact u1_bool | exact u2_sli | exact u1_sli | exact u2_s0 | exact u1_s0))); all_goals (first | (intro t ht; cbv) | ((rw [y3]; omega)))) | (apply E_callX hE (c_dyMake z.1 z.2 y.2.2 Z.1 Z.2.1 ?_ ?_); (case hf => rfl); (case hc => (cbv <;> trivial)); (case hle => (repeat' (first | exact u_nil | apply u_cons | apply u2_agg | exact u2_int | exact u1_int | exact u2_bool | exact u1_bool | exact u2_sli | exact u1_sli | exact u2_s0 | exact u1_s0))); all_goals (first | (intro t ht; cbv) | ((rw [y3]; omega)))))
    rw [y3] at ht
    rw [← Z.2.2, ← ht]; exact ⟨rfl, rfl, rfl, trivial⟩
  · have k : ¬ q.2.2 < p.2.2 := by rw [← x3, ← y3]; subst hE; exact gtr_f g3
    have es : E.bin .sub .i64 y.2.2 x.2.2 = q.2.2 - p.2.2 := by rw [x3, y3]; subst hE; show IntKind.i64.wrap (q.2.2 - p.2.2) = _; exact wi64_in (by omega) (by omega)
    (first | (apply E_pcallX hE (c_natShl y.2.1 (E.bin .sub .i64 y.2.2 x.2.2) yb yl2); (case hm => rfl); (case hle => (repeat' (first | exact u_nil | apply u_cons | apply u2_agg | exact u2_int | exact u1_int | exact u2_bool | exact u1_bool | exact u2_sli | exact u1_sli | exact u2_s0 | exact u1_s0))); all_goals (first | (intro u hu; cbv) | (assumption))) | (apply E_callX hE (c_natShl y.2.1 (E.bin .sub .i64 y.2.2 x.2.2) yb yl2); (case hf => rfl); (case hc => (cbv <;> trivial)); (case hle => (repeat' (first | exact u_nil | apply u_cons | apply u2_agg | exact u2_int | exact u1_int | exact u2_bool | exact u1_bool | exact u2_sli | exact u1_sli | exact u2_s0 | exact u1_s0))); all_goals (first | (intro u hu; cbv) | (assumption))))
    rw [es] at hu
    have U := S2 n1 n2 k u hu
    (first | (apply E_pcallX hE (c_wAdd x.1 x.2.1 y.1 u xb U.1 xl3 U.2.1); (case hm => rfl); (case hle => (repeat' (first | exact u_nil | apply u_cons | apply u2_agg | exact u2_int | exact u1_int | exact u2_bool | exact u1_bool | exact u2_sli | exact u1_sli | exact u2_s0 | exact u1_s0))); all_goals (first | (intro z hz; cbv) | (assumption))) | (apply E_callX hE (c_wAdd x.1 x.2.1 y.1 u xb U.1 xl3 U.2.1); (case hf => rfl); (case hc => (cbv <;> trivial)); (case hle => (repeat' (first | exact u_nil | apply u_cons | apply u2_agg | exact u2_int | exact u1_int | exact u2_bool | exact u1_bool | exact u2_sli | exact u1_sli | exact u2_s0 | exact u1_s0))); all_goals (first | (intro z hz; cbv) | (assumption))))
    have Z := U.2.2 z hz
    (first | (apply E_pcallX hE (c_dyMake z.1 z.2 x.2.2 Z.1 Z.2.1 ?_ ?_); (case hm => rfl); (case hle => (repeat' (first | exact u_nil | apply u_cons | apply u2_agg | exact u2_int | exact u1_int | exact u2_bool | exact u1_bool | exact u2_sli | exact u1_sli | exact u2_s0 | exact u1_s0))); all_goals (first | (intro t ht; cbv) | ((rw [x3]; omega)))) | (apply E_callX hE (c_dyMake z.1 z.2 x.2.2 Z.1 Z.2.1 ?_ ?_); (case hf => rfl); (case hc => (cbv <;> trivial)); (case hle => (repeat' (first | exact u_nil | apply u_cons | apply u2_agg | exact u2_int | exact u1_int | exact u2_bool | exact u1_bool | exact u2_sli | exact u1_sli | exact u2_s0 | exact u1_s0))); all_goals (first | (intro t ht; cbv) | ((rw [x3]; omega)))))
    rw [x3] at ht
    rw [← Z.2.2, ← ht]; exact ⟨rfl, rfl, rfl, trivial⟩

end Go.Proofs.YtpadpcjdakfokaaDoor.Ev

/- Contracts of dy.Add of two, Sub, Cmp, Mul: by the values of dyadic numbers. Printed by gen.py. -/
namespace Go.Proofs.YtpadpcjdakfokaaDoor.Ev
open Go Go.Proofs
set_option linter.unusedVariables false
set_option linter.unusedSimpArgs false

attribute [local irreducible] Lb
theorem c_dyOwn (x : DyT) (xb : Lb x.2.1) (xl : x.2.1.length < 67108864) (x0 : -9223372036854775808 ≤ x.2.2) (x1 : x.2.2 < 9223372036854775808) :
    ∃ t : DyT, t = dyL (dyMake x.1 (lv x.2.1) x.2.2) ∧ CallsA Tryd.prog 50 [.agg [.bool (.s x.1), .sli .u32 x.2.1, .int .i64 (.s x.2.2)]] (.agg [.bool (.s t.1), .sli .u32 t.2.1, .int .i64 (.s t.2.2)]) := by
  refine ⟨_, rfl, ?_⟩
  generalize hr : dyL (dyMake x.1 (lv x.2.1) x.2.2) = r
  refine callsA_of hG hm Tryd.func50 (by kernel_rfl) ?_
  intro E hE lp hl'
  cbv
  (first | (apply E_pcallX hE (c_dyMake x.1 x.2.1 x.2.2 xb xl x0 x1); (case hm => rfl); (case hle => (repeat' (first | exact u_nil | apply u_cons | apply u2_agg | exact u2_int | exact u1_int | exact u2_bool | exact u1_bool | exact u2_sli | exact u1_sli | exact u2_s0 | exact u1_s0))); all_goals (first | (intro t ht; cbv) | (assumption))) | (apply E_callX hE (c_dyMake x.1 x.2.1 x.2.2 xb xl x0 x1); (case hf => rfl); (case hc => (cbv <;> trivial)); (case hle => (repeat' (first | exact u_nil | apply u_cons | apply u2_agg | exact u2_int | exact u1_int | exact u2_bool | exact u1_bool | exact u2_sli | exact u1_sli | exact u2_s0 | exact u1_s0))); all_goals (first | (intro t ht; cbv) | (assumption))))
  rw [← hr, ← ht]; exact ⟨rfl, rfl, rfl, trivial⟩
theorem dyv0 (B : Nat) : DyV B (false, 0, 0) 0 := ⟨.inl rfl, by show -(B : Int) ≤ 0; omega, by show (0 : Int) + blen 0 ≤ B; rw [blen_zero]; omega, by simp [dyv]⟩
set_option maxHeartbeats 2000000 in
theorem c_dyAdd2 (B : Nat) (hB : B ≤ 3999998) (p q : Bool × Nat × Int) (v w : Int) (hp : DyV B p v) (hq : DyV B q w) (x y : DyT) (hx : x = dyL p) (hy : y = dyL q) :
    ∃ t : DyT, t = dyL (dySum p q) ∧ CallsA Tryd.prog 18 [.slc 3 (.l 2) (fun i => getRow [[.bool (.s x.1), .sli .u32 x.2.1, .int .i64 (.s x.2.2)], [.bool (.s y.1), .sli .u32 y.2.1, .int .i64 (.s y.2.2)]] (Int.ofNat i))] (.agg [.bool (.s t.1), .sli .u32 t.2.1, .int .i64 (.s t.2.2)]) := by
  refine ⟨_, rfl, ?_⟩
  generalize hr : dyL (dySum p q) = r
  have hB1 : B ≤ 3999999 := by omega
  have hB2 : B ≤ 4000000 := by omega
  have xl := hp.len hB2
  rw [← hx] at xl
  have yl := hq.len hB2
  rw [← hy] at yl
  have xl2 : x.2.1.length < 4611686018427387904 := by omega
  have yl2 : y.2.1.length < 4611686018427387904 := by omega
  have Cp := hp.c hB2
  have Cq := hq.c hB2
  have S := dySum_val hB1 hp hq
  have rl := S.len (by omega)
  have Cr := S.c (by omega)
  rw [hr] at rl
  have e1 : dyL (dySum (false, 0, 0) p) = x := by rw [hx]; rfl
  have own : r.2.1.length < 67108864 ∧ Lb r.2.1 ∧ -9223372036854775808 ≤ r.2.2 ∧ r.2.2 < 9223372036854775808 ∧ dyL (dyMake r.1 (lv r.2.1) r.2.2) = r := by
    have e : r.2.2 = (dySum p q).2.2 := by rw [← hr]; rfl
    have b : -4194304 ≤ (dySum p q).2.2 ∧ (dySum p q).2.2 ≤ 4194304 := by rcases Cr with k | k; rw [k]; exact ⟨by decide, by decide⟩; exact k.2
    refine ⟨by omega, by rw [← hr]; exact lim_lb _, by omega, by omega, ?_⟩
    rw [← hr]
    show dyL (dyMake (dySum p q).1 (lv (lim (dySum p q).2.1)) (dySum p q).2.2) = _
    rw [lv_lim, dyMake_self Cr]
  have z0 := dyv0 B
  refine callsA_of hG hm Tryd.func18 (by kernel_rfl) ?_
  intro E hE lp hl'
  cbv
  refine E_rounds hE hG hm hl' 3 ?_
  cbv
  (first | (apply E_pcallX hE (c_dyFair p Cp x hx xl2); (case hm => rfl); (case hle => (repeat' (first | exact u_nil | apply u_cons | apply u2_agg | exact u2_int | exact u1_int | exact u2_bool | exact u1_bool | exact u2_sli | exact u1_sli | exact u2_s0 | exact u1_s0))); all_goals (first | (intro a ha; cbv) | (assumption))) | (apply E_callX hE (c_dyFair p Cp x hx xl2); (case hf => rfl); (case hc => (cbv <;> trivial)); (case hle => (repeat' (first | exact u_nil | apply u_cons | apply u2_agg | exact u2_int | exact u1_int | exact u2_bool | exact u1_bool | exact u2_sli | exact u1_sli | exact u2_s0 | exact u1_s0))); all_goals (first | (intro a ha; cbv) | (assumption))))
  have ha : a = dyL p := ha.trans hx
  (first | (apply E_pcallX hE (c_dyadd B hB1 (false, 0, 0) p 0 v z0 hp (false, [], 0) a rfl ha); (case hm => rfl); (case hle => (repeat' (first | exact u_nil | apply u_cons | apply u2_agg | exact u2_int | exact u1_int | exact u2_bool | exact u1_bool | exact u2_sli | exact u1_sli | exact u2_s0 | exact u1_s0))); all_goals (first | (intro s hs; cbv) | (assumption))) | (apply E_callX hE (c_dyadd B hB1 (false, 0, 0) p 0 v z0 hp (false, [], 0) a rfl ha); (case hf => rfl); (case hc => (cbv <;> trivial)); (case hle => (repeat' (first | exact u_nil | apply u_cons | apply u2_agg | exact u2_int | exact u1_int | exact u2_bool | exact u1_bool | exact u2_sli | exact u1_sli | exact u2_s0 | exact u1_s0))); all_goals (first | (intro s hs; cbv) | (assumption))))
  have hs : s = dyL p := by rw [hs, e1, hx]
  (first | (apply E_pcallX hE (c_dyFair q Cq y hy yl2); (case hm => rfl); (case hle => (repeat' (first | exact u_nil | apply u_cons | apply u2_agg | exact u2_int | exact u1_int | exact u2_bool | exact u1_bool | exact u2_sli | exact u1_sli | exact u2_s0 | exact u1_s0))); all_goals (first | (intro b hb; cbv) | (assumption))) | (apply E_callX hE (c_dyFair q Cq y hy yl2); (case hf => rfl); (case hc => (cbv <;> trivial)); (case hle => (repeat' (first | exact u_nil | apply u_cons | apply u2_agg | exact u2_int | exact u1_int | exact u2_bool | exact u1_bool | exact u2_sli | exact u1_sli | exact u2_s0 | exact u1_s0))); all_goals (first | (intro b hb; cbv) | (assumption))))
  have hb : b = dyL q := hb.trans hy
  (first | (apply E_pcallX hE (c_dyadd B hB1 p q v w hp hq s b hs hb); (case hm => rfl); (case hle => (repeat' (first | exact u_nil | apply u_cons | apply u2_agg | exact u2_int | exact u1_int | exact u2_bool | exact u1_bool | exact u2_sli | exact u1_sli | exact u2_s0 | exact u1_s0))); all_goals (first | (intro u hu; cbv) | (assumption))) | (apply E_callX hE (c_dyadd B hB1 p q v w hp hq s b hs hb); (case hf => rfl); (case hc => (cbv <;> trivial)); (case hle => (repeat' (first | exact u_nil | apply u_cons | apply u2_agg | exact u2_int | exact u1_int | exact u2_bool | exact u1_bool | exact u2_sli | exact u1_sli | exact u2_s0 | exact u1_s0))); all_goals (first | (intro u hu; cbv) | (assumption))))
  have hu : u = r := by rw [hu, hr]
  (first | (apply E_pcallX hE (c_dyOwn u (by rw [hu]; exact own.2.1) (by rw [hu]; exact own.1) (by rw [hu]; exact own.2.2.1) (by rw [hu]; exact own.2.2.2.1)); (case hm => rfl); (case hle => (repeat' (first | exact u_nil | apply u_cons | apply u2_agg | exact u2_int | exact u1_int | exact u2_bool | exact u1_bool | exact u2_sli | exact u1_sli | exact u2_s0 | exact u1_s0))); all_goals (first | (intro t ht; cbv) | (assumption))) | (apply E_callX hE (c_dyOwn u (by rw [hu]; exact own.2.1) (by rw [hu]; exact own.1) (by rw [hu]; exact own.2.2.1) (by rw [hu]; exact own.2.2.2.1)); (case hf => rfl); (case hc => (cbv <;> trivial)); (case hle => (repeat' (first | exact u_nil | apply u_cons | apply u2_agg | exact u2_int | exact u1_int | exact u2_bool | exact u1_bool | exact u2_sli | exact u1_sli | exact u2_s0 | exact u1_s0))); all_goals (first | (intro t ht; cbv) | (assumption))))
  have k : t = r := by
    have k : t = dyL (dyMake u.1 (lv u.2.1) u.2.2) := ht
    rw [k, hu]; exact own.2.2.2.2
  rw [← k]; exact ⟨rfl, rfl, rfl, trivial⟩
set_option maxHeartbeats 1000000 in
theorem c_dySub (B : Nat) (hB : B ≤ 3999998) (p q : Bool × Nat × Int) (v w : Int) (hp : DyV B p v) (hq : DyV B q w) (x y : DyT) (hx : x = dyL p) (hy : y = dyL q) :
    ∃ t : DyT, t = dyL (dySum p (dyOpp q)) ∧ CallsA Tryd.prog 20 [.agg [.bool (.s x.1), .sli .u32 x.2.1, .int .i64 (.s x.2.2)], .agg [.bool (.s y.1), .sli .u32 y.2.1, .int .i64 (.s y.2.2)]] (.agg [.bool (.s t.1), .sli .u32 t.2.1, .int .i64 (.s t.2.2)]) := by
  refine ⟨_, rfl, ?_⟩
  generalize hr : dyL (dySum p (dyOpp q)) = r
  have hB2 : B ≤ 4000000 := by omega
  refine callsA_of hG hm Tryd.func20 (by kernel_rfl) ?_
  intro E hE lp hl'
  cbv
  (first | (apply E_pcallX hE (c_dyNeg B hB2 q w hq y hy); (case hm => rfl); (case hle => (repeat' (first | exact u_nil | apply u_cons | apply u2_agg | exact u2_int | exact u1_int | exact u2_bool | exact u1_bool | exact u2_sli | exact u1_sli | exact u2_s0 | exact u1_s0))); all_goals (first | (intro a ha; cbv) | (assumption))) | (apply E_callX hE (c_dyNeg B hB2 q w hq y hy); (case hf => rfl); (case hc => (cbv <;> trivial)); (case hle => (repeat' (first | exact u_nil | apply u_cons | apply u2_agg | exact u2_int | exact u1_int | exact u2_bool | exact u1_bool | exact u2_sli | exact u1_sli | exact u2_s0 | exact u1_s0))); all_goals (first | (intro a ha; cbv) | (assumption))))
  apply E_pcallX hE (c_dyAdd2 B hB p (dyOpp q) v (-w) hp (dyOpp_val hq) x a hx ha)
  case hm => rfl
  case hle => exact ⟨u2_slc', trivial⟩
  intro t ht
  cbv
  rw [← hr, ← ht]; exact ⟨rfl, rfl, rfl, trivial⟩
theorem c_dyCmp (B : Nat) (hB : B ≤ 3999998) (p q : Bool × Nat × Int) (v w : Int) (hp : DyV B p v) (hq : DyV B q w) (x y : DyT) (hx : x = dyL p) (hy : y = dyL q) :
    ∃ t : Int, t = (if v < w then -1 else if w < v then 1 else 0) ∧ CallsA Tryd.prog 14 [.agg [.bool (.s x.1), .sli .u32 x.2.1, .int .i64 (.s x.2.2)], .agg [.bool (.s y.1), .sli .u32 y.2.1, .int .i64 (.s y.2.2)]] (.int .i64 (.s t)) := by
  refine ⟨_, rfl, ?_⟩
  generalize hr : (if v < w then -1 else if w < v then 1 else 0 : Int) = r
  have S := dySum_val (by omega) hp (dyOpp_val hq)
  have fin : ∀ s : Int, s = (if v + -w < 0 then -1 else if 0 < v + -w then 1 else 0) → s = r := by
    intro s hs
    rw [hs, ← hr]
    by_cases h1 : v < w
    · rw [if_pos h1, if_pos (by omega)]
    · by_cases h2 : w < v
      · rw [if_neg h1, if_pos h2, if_neg (by omega), if_pos (by omega)]
      · rw [if_neg h1, if_neg h2, if_neg (by omega), if_neg (by omega)]
  have hB3 : B + 1 ≤ 4000000 := by omega
  clear hr
  refine callsA_of hG hm Tryd.func14 (by kernel_rfl) ?_
  intro E hE lp hl'
  cbv
  (first | (apply E_pcallX hE (c_dySub B hB p q v w hp hq x y hx hy); (case hm => rfl); (case hle => (repeat' (first | exact u_nil | apply u_cons | apply u2_agg | exact u2_int | exact u1_int | exact u2_bool | exact u1_bool | exact u2_sli | exact u1_sli | exact u2_s0 | exact u1_s0))); all_goals (first | (intro u hu; cbv) | (assumption))) | (apply E_callX hE (c_dySub B hB p q v w hp hq x y hx hy); (case hf => rfl); (case hc => (cbv <;> trivial)); (case hle => (repeat' (first | exact u_nil | apply u_cons | apply u2_agg | exact u2_int | exact u1_int | exact u2_bool | exact u1_bool | exact u2_sli | exact u1_sli | exact u2_s0 | exact u1_s0))); all_goals (first | (intro u hu; cbv) | (assumption))))
  (first | (apply E_pcallX hE (c_dySign (B + 1) hB3 (dySum p (dyOpp q)) (v + -w) S u hu); (case hm => rfl); (case hle => (repeat' (first | exact u_nil | apply u_cons | apply u2_agg | exact u2_int | exact u1_int | exact u2_bool | exact u1_bool | exact u2_sli | exact u1_sli | exact u2_s0 | exact u1_s0))); all_goals (first | (intro s hs; cbv) | (assumption))) | (apply E_callX hE (c_dySign (B + 1) hB3 (dySum p (dyOpp q)) (v + -w) S u hu); (case hf => rfl); (case hc => (cbv <;> trivial)); (case hle => (repeat' (first | exact u_nil | apply u_cons | apply u2_agg | exact u2_int | exact u1_int | exact u2_bool | exact u1_bool | exact u2_sli | exact u1_sli | exact u2_s0 | exact u1_s0))); all_goals (first | (intro s hs; cbv) | (assumption))))
  (try (refine E_nm hE (fun s1 hs1 => ?_); cbv))
  first | exact fin s hs | exact hs1.trans (fin s hs)
end Go.Proofs.YtpadpcjdakfokaaDoor.Ev

/- Sums and products of numbers: their order, and their opposites. Plain Lean. -/
namespace Go.Proofs.YtpadpcjdakfokaaDoor.Ev
open Go

theorem Num.may_fair {n : Num} (h : n.may = true) : n.fair = n := by unfold Num.fair; rw [if_pos h]
theorem Num.opp_inf (b : Bool) : (Num.inf b).opp = Num.inf (!b) := by cases b <;> decide
theorem Num.fair_inf {a : Num} (oa : a.ok) (k : a.fair.kind = 2) : a.fair = Num.inf a.fair.neg := Num.inf_of a.fair_may (Num.fair_ok oa) k

theorem Num.add_inf {a b : Num} (up : Bool) (ka : a.fair.kind = 2) : Num.add a b up = if b.fair.kind = 2 ∧ a.fair.neg ≠ b.fair.neg then Num.inf (!up) else a.fair := by
  unfold Num.add
  by_cases h : b.fair.kind = 2 ∧ a.fair.neg ≠ b.fair.neg
  · rw [if_pos ⟨ka, h⟩, if_pos h]
  · rw [if_neg (fun k => h k.2), if_neg h, if_pos (.inl ka)]
theorem Num.add_inf2 {a b : Num} (oa : a.ok) (ob : b.ok) (up : Bool) (kb : b.fair.kind = 2) : Num.add a b up = if a.fair.kind = 2 ∧ b.fair.neg ≠ a.fair.neg then Num.inf (!up) else b.fair := by
  unfold Num.add
  by_cases h : a.fair.kind = 2 ∧ b.fair.neg ≠ a.fair.neg
  · rw [if_pos ⟨h.1, kb, fun e => h.2 e.symm⟩, if_pos h]
  · rw [if_neg (fun k => h ⟨k.1, fun e => k.2.2 e.symm⟩), if_neg h]
    by_cases ka : a.fair.kind = 2
    · rw [if_pos (.inl ka), Num.fair_inf oa ka, Num.fair_inf ob kb]
      congr 1
      exact (Classical.not_not.1 (fun e => h ⟨ka, e⟩)).symm
    · rw [if_neg (by rw [kb]; simp [ka]), if_pos (.inl kb)]
theorem Num.add_comm {a b : Num} (oa : a.ok) (ob : b.ok) (up : Bool) : Num.add a b up = Num.add b a up := by
  by_cases ka : a.fair.kind = 2
  · rw [Num.add_inf up ka, Num.add_inf2 ob oa up ka]
  · by_cases kb : b.fair.kind = 2
    · rw [Num.add_inf2 oa ob up kb, Num.add_inf up kb]
    · exact (add_best oa ob ka kb up).uniq (add_best ob oa kb ka up) (by decide) (by decide) (by rw [Int.add_comm])

theorem Num.mul_comm {a b : Num} (oa : a.ok) (ob : b.ok) (up : Bool) : Num.mul a b up = Num.mul b a up := by
  have key : a.fair.kind = 2 ∨ b.fair.kind = 2 → Num.mul a b up = Num.mul b a up := by
    intro h
    unfold Num.mul
    by_cases h0 : a.fair.kind = 0 ∨ b.fair.kind = 0
    · have h0' : b.fair.kind = 0 ∨ a.fair.kind = 0 := h0.symm
      rw [if_pos h0]
      exact (if_pos h0').symm
    · have h0' : ¬ (b.fair.kind = 0 ∨ a.fair.kind = 0) := fun k => h0 k.symm
      rw [if_neg h0, if_pos h]
      refine Eq.trans ?_ (Eq.trans (if_pos h.symm).symm (if_neg h0').symm)
      congr 1
      cases a.fair.neg <;> cases b.fair.neg <;> rfl
  by_cases ka : a.fair.kind = 2
  · exact key (.inl ka)
  · by_cases kb : b.fair.kind = 2
    · exact key (.inr kb)
    · exact (mul_best oa ob ka kb up).uniq (mul_best ob oa kb ka up) (pw_pos 0) (pw_pos 0) (by rw [Int.mul_comm a.fair.val])

theorem Best.opp {r : Num} {up : Bool} {t c : Int} (h : Best r up t c) : Best r.opp (!up) (-t) c := by
  have fr := Num.may_fair h.may
  have vr : r.opp.val = -r.val := by rw [Num.opp_val, fr]
  have inj : ∀ b, r.opp = Num.inf b → r = Num.inf (!b) := by
    intro b e
    have := congrArg Num.opp e
    rw [Num.opp_opp, fr, Num.opp_inf] at this
    exact this
  have back : ∀ s : Num, s.may = true → s.ok → ∀ b, s ≠ Num.inf b → s.opp ≠ Num.inf (!b) := by
    intro s ms os b hs e
    have := congrArg Num.opp e
    rw [Num.opp_opp, Num.may_fair ms, Num.opp_inf, Bool.not_not] at this
    exact hs this
  have vs : ∀ s : Num, s.may = true → s.opp.val = -s.val := fun s ms => by rw [Num.opp_val, Num.may_fair ms]
  refine ⟨Num.opp_may r, Num.opp_ok h.ok, fun hu => ?_, fun hu s ms os hs hle => ?_, fun hu s ms os hs hle => ?_, fun hu => ?_⟩
  · have hu' : up = true := by simpa using hu
    obtain ⟨h1, h2⟩ := h.hi hu'
    refine ⟨fun e => h1 (inj _ e), ?_⟩
    rcases h2 with h2 | h2
    · left; rw [h2, Num.opp_inf]; rfl
    · right; rw [vr, Int.neg_mul]; omega
  · have hu' : up = true := by simpa using hu
    have := h.uopt hu' s.opp (Num.opp_may s) (Num.opp_ok os) (back s ms os false hs) (by rw [vs s ms, Int.neg_mul]; omega)
    rw [vs s ms] at this
    rw [vr]; omega
  · have hu' : up = false := by simpa using hu
    have := h.dopt hu' s.opp (Num.opp_may s) (Num.opp_ok os) (back s ms os true hs) (by rw [vs s ms, Int.neg_mul]; omega)
    rw [vs s ms] at this
    rw [vr]; omega
  · have hu' : up = false := by simpa using hu
    obtain ⟨h1, h2⟩ := h.down hu'
    refine ⟨fun e => h1 (inj _ e), ?_⟩
    rcases h2 with h2 | h2
    · left; rw [h2, Num.opp_inf]; rfl
    · right; rw [vr, Int.neg_mul]; omega

theorem Num.opp_fair (n : Num) : n.opp.fair = n.opp := Num.may_fair (Num.opp_may n)
end Go.Proofs.YtpadpcjdakfokaaDoor.Ev

/- The law of rules, all but roots: plain Lean. -/
namespace Go.Proofs.YtpadpcjdakfokaaDoor.Ev
open Go

theorem Iv.bad_two (a b : Iv) : Iv.anyBad [a, b] = (a.bad || b.bad) := by simp [Iv.anyBad]
theorem Iv.bad_one (a : Iv) : Iv.anyBad [a] = a.bad := by simp [Iv.anyBad]

theorem Num.least_perm {w x y z : Num} (hw : w.ok) (hx : x.ok) (hy : y.ok) (hz : z.ok) : Num.least [w, x, y, z] = Num.least [w, y, x, z] := by
  have s1 := Num.least_spec [w, x, y, z] (by simp; exact ⟨hw, hx, hy, hz⟩)
  have s2 := Num.least_spec [w, y, x, z] (by simp; exact ⟨hw, hy, hx, hz⟩)
  refine Num.val_inj s1.1 s2.1 s1.2.1 s2.2.1 ?_
  have l1 := s1.2.2.1
  have l2 := s2.2.2.1
  have top1 := (Num.val_le s1.1 s1.2.1).2
  have top2 := (Num.val_le s2.1 s2.2.1).2
  apply Int.le_antisymm
  · rcases s2.2.2.2 with e | ⟨v, hv, e⟩
    · rw [e, Num.val_inf]; simpa using top1
    · have := l1 v (by simp at hv ⊢; rcases hv with h | h | h | h <;> simp [h])
      rw [e]; exact this
  · rcases s1.2.2.2 with e | ⟨v, hv, e⟩
    · rw [e, Num.val_inf]; simpa using top2
    · have := l2 v (by simp at hv ⊢; rcases hv with h | h | h | h <;> simp [h])
      rw [e]; exact this
theorem Num.most_perm {w x y z : Num} (hw : w.ok) (hx : x.ok) (hy : y.ok) (hz : z.ok) : Num.most [w, x, y, z] = Num.most [w, y, x, z] := by
  have s1 := Num.most_spec [w, x, y, z] (by simp; exact ⟨hw, hx, hy, hz⟩)
  have s2 := Num.most_spec [w, y, x, z] (by simp; exact ⟨hw, hy, hx, hz⟩)
  refine Num.val_inj s1.1 s2.1 s1.2.1 s2.2.1 ?_
  have l1 := s1.2.2.1
  have l2 := s2.2.2.1
  have top1 := (Num.val_le s1.1 s1.2.1).1
  have top2 := (Num.val_le s2.1 s2.2.1).1
  apply Int.le_antisymm
  · rcases s1.2.2.2 with e | ⟨v, hv, e⟩
    · rw [e, Num.val_inf]; simpa using top2
    · have := l2 v (by simp at hv ⊢; rcases hv with h | h | h | h <;> simp [h])
      rw [e]; exact this
  · rcases s2.2.2.2 with e | ⟨v, hv, e⟩
    · rw [e, Num.val_inf]; simpa using top1
    · have := l1 v (by simp at hv ⊢; rcases hv with h | h | h | h <;> simp [h])
      rw [e]; exact this

theorem Iv.mul_comm {a b : Iv} (ha : a.lo.ok ∧ a.hi.ok) (hb : b.lo.ok ∧ b.hi.ok) : Iv.mul a b = Iv.mul b a := by
  unfold Iv.mul
  rw [Iv.bad_two, Iv.bad_two, Bool.or_comm]
  unfold Iv.corners
  rw [Num.least_perm (Num.mul_ok ha.1 hb.1 _) (Num.mul_ok ha.1 hb.2 _) (Num.mul_ok ha.2 hb.1 _) (Num.mul_ok ha.2 hb.2 _),
    Num.most_perm (Num.mul_ok ha.1 hb.1 _) (Num.mul_ok ha.1 hb.2 _) (Num.mul_ok ha.2 hb.1 _) (Num.mul_ok ha.2 hb.2 _)]
  rw [Num.mul_comm ha.1 hb.1 false, Num.mul_comm ha.2 hb.1 false, Num.mul_comm ha.1 hb.2 false, Num.mul_comm ha.2 hb.2 false,
    Num.mul_comm ha.1 hb.1 true, Num.mul_comm ha.2 hb.1 true, Num.mul_comm ha.1 hb.2 true, Num.mul_comm ha.2 hb.2 true]

theorem Iv.neg_eq (a : Iv) : Iv.neg a = if a.bad = true then Iv.none else Iv.make a.hi.opp a.lo.opp := by
  unfold Iv.neg; rw [Iv.bad_one]

theorem Iv.Real.neg {x : Iv} (h : x.Real) : (Iv.mk false x.hi.opp x.lo.opp).Real := by
  have vl : x.lo.opp.val = -x.lo.val := by rw [Num.opp_val, Num.may_fair h.lom]
  have vh : x.hi.opp.val = -x.hi.val := by rw [Num.opp_val, Num.may_fair h.him]
  have l := h.lt
  have g := h.gt
  have le := h.le
  exact ⟨rfl, Num.opp_may _, Num.opp_may _, Num.opp_ok h.hio, Num.opp_ok h.loo, by show x.hi.opp.val ≤ x.lo.opp.val; omega, by show x.hi.opp.val < _; omega, by show _ < x.lo.opp.val; omega⟩
theorem Iv.neg_real {x : Iv} (h : x.Real) : Iv.neg x = ⟨false, x.hi.opp, x.lo.opp⟩ := by
  rw [Iv.neg_eq, if_neg (by rw [h.good]; decide)]
  have := Iv.make_real (lo := x.hi.opp) (hi := x.lo.opp) (by rw [Num.opp_fair, Num.opp_fair]; exact h.neg)
  rw [this, Num.opp_fair, Num.opp_fair]
theorem Iv.neg_neg {a : Iv} (m : a.may = true) (ha : a.lo.ok ∧ a.hi.ok) : Iv.neg (Iv.neg a) = a := by
  cases he : a.empty with
  | true =>
    have := Iv.empty_may m he
    rw [this]; decide
  | false =>
    have r := Iv.real_of m he ha.1 ha.2
    rw [Iv.neg_real r, Iv.neg_real r.neg]
    show Iv.mk false a.lo.opp.opp a.hi.opp.opp = a
    rw [Num.opp_opp, Num.opp_opp, Num.may_fair r.lom, Num.may_fair r.him]
    cases a; simp_all

end Go.Proofs.YtpadpcjdakfokaaDoor.Ev

/- Squares are within products: plain Lean. -/
namespace Go.Proofs.YtpadpcjdakfokaaDoor.Ev
open Go

theorem Iv.empty_within (b : Iv) : Iv.none.within b = true := by
  unfold Iv.within
  have : Iv.none.fair.empty = true := by decide
  rw [this]; rfl
theorem Iv.real_within {a b : Iv} (ha : a.Real) (hb : b.Real) (h1 : b.lo.val ≤ a.lo.val) (h2 : a.hi.val ≤ b.hi.val) : a.within b = true := by
  unfold Iv.within
  rw [ha.fair, hb.fair, ha.some, hb.some]
  have e1 : b.lo.cmp a.lo ≤ 0 := (Num.cmp_le hb.loo ha.loo).2 (by rw [Num.may_fair hb.lom, Num.may_fair ha.lom]; exact h1)
  have e2 : a.hi.cmp b.hi ≤ 0 := (Num.cmp_le ha.hio hb.hio).2 (by rw [Num.may_fair ha.him, Num.may_fair hb.him]; exact h2)
  simp [e1, e2]
theorem Iv.make_within {x y u v : Num} (ox : x.ok) (oy : y.ok) (ou : u.ok) (ov : v.ok) (h1 : u.fair.val ≤ x.fair.val) (h2 : y.fair.val ≤ v.fair.val) : (Iv.make x y).within (Iv.make u v) = true := by
  rcases Iv.make_cases ox oy with ⟨e, -⟩ | ⟨e, r⟩
  · rw [e]; exact Iv.empty_within _
  · have l := r.lt
    have g := r.gt
    have le := r.le
    dsimp only at l g le
    have r2 : (Iv.mk false u.fair v.fair).Real := ⟨rfl, u.fair_may, v.fair_may, Num.fair_ok ou, Num.fair_ok ov, by show u.fair.val ≤ v.fair.val; omega, by show u.fair.val < _; omega, by show _ < v.fair.val; omega⟩
    rw [e, Iv.make_real r2]
    exact Iv.real_within r r2 h1 h2

end Go.Proofs.YtpadpcjdakfokaaDoor.Ev

/- Contracts: the terms of an inverse tangent. Printed by gen.py. -/
namespace Go.Proofs.YtpadpcjdakfokaaDoor.Ev
open Go Go.Proofs
set_option linter.unusedVariables false
set_option linter.unusedSimpArgs false

theorem whN_def (z : Int) : whN z = (decide (z < 0), lim z.natAbs) := rfl
attribute [local irreducible] Lb whN piOne
theorem c_wDivQ (na : Bool) (a : List Int) (nb : Bool) (b : List Int) (hna : na = false) (hnb : nb = false) (ha : Lb a) (hb : Lb b) (hla : a.length < 33554432) (hlb : b.length < 33554432) (hb0 : lv b ≠ 0) :
    ∃ t : (Bool × List Int) × (Bool × List Int), t = (whN ((lv a / lv b : Nat) : Int), whN ((lv a % lv b : Nat) : Int)) ∧
      CallsA Tryd.prog 115 [.agg [.bool (.s na), .sli .u32 a], .agg [.bool (.s nb), .sli .u32 b]] (.tup [.agg [.bool (.s t.1.1), .sli .u32 t.1.2], .agg [.bool (.s t.2.1), .sli .u32 t.2.2], .bool (.s true)]) := by
  subst hna hnb; exact c_wDivP a b ha hb hla hlb hb0
def piTerm (n j : Nat) : Nat := piOne / (n ^ (2 * j + 1) * (2 * j + 1))
def nbB (n : Int) : Blk := .rows true 1 [.int .i64 (.l 0)] [[.int .i64 (.s n)]]
def pwB (p : Bool × List Int) : Blk := .rows true 2 [.bool (.l false), .s0] [[.bool (.s p.1), .sli .u32 p.2]]
def zwB : Blk := .rows true 2 [.bool (.l false), .s0] [[.bool (.l false), .s0]]
def odB (o : Int) : Blk := .rows true 1 [.int .i64 (.l 0)] [[.int .i64 (.s o)]]
theorem whN_nat (n : Nat) : whN (n : Int) = (false, lim n) := by unfold whN; rw [decide_eq_false (by omega), Int.natAbs_natCast]
theorem pow_len {n k : Nat} (h0 : 2 ≤ n) (hn : n ≤ 1000) (hk : k ≤ 240) : n ^ k ≤ 4294967296 ^ 80 := by
  have h3 : n ^ 3 ≤ 4294967296 := Nat.le_trans (Nat.pow_le_pow_left hn 3) (by decide)
  calc n ^ k ≤ n ^ (3 * 80) := Nat.pow_le_pow_right (by omega) hk
    _ = (n ^ 3) ^ 80 := by rw [Nat.pow_mul]
    _ ≤ 4294967296 ^ 80 := Nat.pow_le_pow_left h3 80
theorem lim_pow_len {m : Nat} (h : m ≤ 4294967296 ^ 100) : (lim m).length ≤ 101 := lim_length_le (Nat.lt_of_le_of_lt h (Nat.pow_lt_pow_right (by decide) (by decide)))
theorem piOne_le : piOne ≤ 4294967296 ^ 100 := by unfold piOne; decide +kernel
theorem limb_mono {k l : Nat} (h : k ≤ l) : 4294967296 ^ k ≤ 4294967296 ^ l := Nat.pow_le_pow_right (by decide) h
theorem wv_nat (n : Nat) : wv (whN (n : Int)).1 (whN (n : Int)).2 = n := wv_whN _

theorem h_term1 (n j : Nat) (hn1 : 2 ≤ n) (hn2 : n ≤ 1000) (hj : j ≤ 98) (N : Int) (hN : N = n) (p : Bool × List Int) (hp : p = whN ((n ^ (2 * j + 1) : Nat) : Int)) (o : Int) (ho : o = 2 * (j : Int) - 1)  :
    CallsH Tryd.prog 114 [.ptr 4 1 (.l 0) 0, .ptr 3 2 (.l 0) 0, .ptr 2 1 (.l 0) 0] [zwB, zwB, nbB N, pwB p, odB o, zwB]
      (fun v h => ∃ (t p' : Bool × List Int) (o' : Int), v = .agg [.bool (.s t.1), .sli .u32 t.2] ∧ h = [zwB, zwB, nbB N, pwB p', odB o', zwB] ∧ t = whN ((piTerm n j : Nat) : Int) ∧ p' = whN ((n ^ (2 * (j + 1) + 1) : Nat) : Int) ∧ o' = 2 * ((j + 1 : Nat) : Int) - 1) := by
  obtain ⟨f, ef⟩ : ∃ f : (Bool × List Int) → (Bool × List Int) → Int → Prop, ∀ t p' o', f t p' o' ↔ (t = whN ((piTerm n j : Nat) : Int) ∧ p' = whN ((n ^ (2 * (j + 1) + 1) : Nat) : Int) ∧ o' = 2 * ((j + 1 : Nat) : Int) - 1) := ⟨_, fun _ _ _ => Iff.rfl⟩
  have p1 : p.1 = false := by rw [hp, whN_nat]
  have p2 : lv p.2 = n ^ (2 * j + 1) := by rw [hp, whN_nat, lv_lim]
  have pb : Lb p.2 := by rw [hp]; exact whN_lb _
  have wp : wv p.1 p.2 = ((n ^ (2 * j + 1) : Nat) : Int) := by rw [hp]; exact wv_nat _
  have pl : p.2.length < 60000000 := by rw [hp, whN_nat]; exact Nat.lt_of_le_of_lt (lim_pow_len (Nat.le_trans (pow_len hn1 hn2 (by omega)) (limb_mono (by decide)))) (by decide)
  have o1 : IntKind.i64.wrap (o + 2) = 2 * (j : Int) + 1 := by rw [wi64_in (by omega) (by omega)]; omega
  have nn : (n : Int) * n = ((n * n : Nat) : Int) := (Int.natCast_mul n n).symm
  have nk : n * n ≤ 1000000 := Nat.mul_le_mul hn2 hn2
  have n2 : IntKind.i64.wrap (N * N) = ((n * n : Nat) : Int) := by
    rw [hN, nn, wi64_in (by omega) (by omega)]
  have o3 : -9223372036854775808 ≤ (2 * (j : Int) + 1) ∧ (2 * (j : Int) + 1) < 9223372036854775808 := by omega
  have n3 : -9223372036854775808 ≤ ((n * n : Nat) : Int) ∧ ((n * n : Nat) : Int) < 9223372036854775808 := by omega
  have fin : ∀ (s d q r : Bool × List Int), s = whN (piOne : Int) → d = whN (wv p.1 p.2 * (2 * (j : Int) + 1)) → q = whN ((lv s.2 / lv d.2 : Nat) : Int) → r = whN (wv p.1 p.2 * ((n * n : Nat) : Int)) → f q r (2 * (j : Int) + 1) := by
    intro s d q r hs hd hq hr
    rw [ef]
    have e1 : lv s.2 = piOne := by rw [hs, whN_nat, lv_lim]
    have e2 : lv d.2 = n ^ (2 * j + 1) * (2 * j + 1) := by
      rw [hd, wp, show ((n ^ (2 * j + 1) : Nat) : Int) * (2 * (j : Int) + 1) = ((n ^ (2 * j + 1) * (2 * j + 1) : Nat) : Int) by push_cast; rfl, whN_nat, lv_lim]
    refine ⟨by rw [hq, e1, e2]; rfl, ?_, by push_cast; omega⟩
    rw [hr, wp]
    exact congrArg _ (by rw [← Int.natCast_mul, show 2 * (j + 1) + 1 = (2 * j + 1) + 2 by omega, Nat.pow_add n (2 * j + 1) 2, show n * n = n ^ 2 from (Nat.pow_two n).symm])
  have side : ∀ d : Bool × List Int, d = whN (wv p.1 p.2 * (2 * (j : Int) + 1)) → d.1 = false ∧ Lb d.2 ∧ d.2.length < 33554432 ∧ lv d.2 ≠ 0 := by
    intro d hd
    have e : d = (false, lim (n ^ (2 * j + 1) * (2 * j + 1))) := by
      rw [hd, wp, show ((n ^ (2 * j + 1) : Nat) : Int) * (2 * (j : Int) + 1) = ((n ^ (2 * j + 1) * (2 * j + 1) : Nat) : Int) by push_cast; rfl, whN_nat]
    rw [e]
    refine ⟨rfl, lim_lb _, Nat.lt_of_le_of_lt (lim_pow_len ?_) (by decide), ?_⟩
    · calc n ^ (2 * j + 1) * (2 * j + 1) ≤ 4294967296 ^ 80 * 4294967296 ^ 1 := Nat.mul_le_mul (pow_len hn1 hn2 (by omega)) (by rw [Nat.pow_one]; omega)
        _ = 4294967296 ^ 81 := by rw [← Nat.pow_add]
        _ ≤ 4294967296 ^ 100 := limb_mono (by decide)
    · rw [lv_lim]
      exact Nat.pos_iff_ne_zero.1 (Nat.mul_pos (Nat.pow_pos (by omega)) (by omega))
  have sside : ∀ s : Bool × List Int, s = whN (piOne : Int) → s.1 = false ∧ Lb s.2 ∧ s.2.length < 33554432 := by
    intro s hs
    rw [hs, whN_nat]
    exact ⟨rfl, (lim_lb piOne : Lb (lim piOne)), Nat.lt_of_le_of_lt (lim_pow_len piOne_le) (by decide)⟩
  refine callsH_named (callsH_of (K := fun v h => ∃ (t p' : Bool × List Int) (o' : Int) (r1 r2 r3 : Blk), v = .agg [.bool (.s t.1), .sli .u32 t.2] ∧ h = [zwB, zwB, nbB N, pwB p', odB o', zwB, r1, r2, r3] ∧ f t p' o') hG hm Tryd.func114 (by kernel_rfl) ?_) ?_
  · clear hp ho
    intro E hE lp hl'
    cbv
    have eo : E.bin .add .i64 o 2 = 2 * (j : Int) + 1 := by subst hE; exact o1
    have en : E.bin .mul .i64 N N = ((n * n : Nat) : Int) := by subst hE; exact n2
    (first | (apply E_pcallX hE (c_piScale); (case hm => rfl); (case hle => (repeat' (first | exact u_nil | apply u_cons | apply u2_agg | exact u2_int | exact u1_int | exact u2_bool | exact u1_bool | exact u2_sli | exact u1_sli | exact u2_s0 | exact u1_s0))); all_goals (first | (intro s hs; cbv) | (assumption))) | (apply E_callX hE (c_piScale); (case hf => rfl); (case hc => (cbv <;> trivial)); (case hle => (repeat' (first | exact u_nil | apply u_cons | apply u2_agg | exact u2_int | exact u1_int | exact u2_bool | exact u1_bool | exact u2_sli | exact u1_sli | exact u2_s0 | exact u1_s0))); all_goals (first | (intro s hs; cbv) | (assumption))))
    have e1 : -9223372036854775808 ≤ E.bin .add .i64 o 2 := by rw [eo]; exact o3.1
    have e2 : E.bin .add .i64 o 2 < 9223372036854775808 := by rw [eo]; exact o3.2
    apply E_pcallX hE (c_piTimes p.1 p.2 (E.bin .add .i64 o 2) pb pl e1 e2)
    case hm => rfl
    case hle => (repeat' (first | exact u_nil | apply u_cons | apply u2_agg | exact u2_int | exact u1_int | exact u2_bool | exact u1_bool | exact u2_sli | exact u1_sli | exact u2_s0 | exact u1_s0))
    intro d hd
    cbv
    have hd : d = whN (wv p.1 p.2 * (2 * (j : Int) + 1)) := by
      have k : d = whN (wv p.1 p.2 * E.bin .add .i64 o 2) := hd
      rw [k, eo]
    obtain ⟨d1, d2, d3, d4⟩ := side d hd
    obtain ⟨s1, s2, s3⟩ := sside s hs
    (first | (apply E_pcallX hE (c_wDivQ s.1 s.2 d.1 d.2 s1 d1 s2 d2 s3 d3 d4); (case hm => rfl); (case hle => (repeat' (first | exact u_nil | apply u_cons | apply u2_agg | exact u2_int | exact u1_int | exact u2_bool | exact u1_bool | exact u2_sli | exact u1_sli | exact u2_s0 | exact u1_s0))); all_goals (first | (intro q hq; cbv) | (assumption))) | (apply E_callX hE (c_wDivQ s.1 s.2 d.1 d.2 s1 d1 s2 d2 s3 d3 d4); (case hf => rfl); (case hc => (cbv <;> trivial)); (case hle => (repeat' (first | exact u_nil | apply u_cons | apply u2_agg | exact u2_int | exact u1_int | exact u2_bool | exact u1_bool | exact u2_sli | exact u1_sli | exact u2_s0 | exact u1_s0))); all_goals (first | (intro q hq; cbv) | (assumption))))
    have e3 : -9223372036854775808 ≤ E.bin .mul .i64 N N := by rw [en]; exact n3.1
    have e4 : E.bin .mul .i64 N N < 9223372036854775808 := by rw [en]; exact n3.2
    (first | (apply E_pcallX hE (c_piTimes p.1 p.2 (E.bin .mul .i64 N N) pb pl e3 e4); (case hm => rfl); (case hle => (repeat' (first | exact u_nil | apply u_cons | apply u2_agg | exact u2_int | exact u1_int | exact u2_bool | exact u1_bool | exact u2_sli | exact u1_sli | exact u2_s0 | exact u1_s0))); all_goals (first | (intro r hr; cbv) | (assumption))) | (apply E_callX hE (c_piTimes p.1 p.2 (E.bin .mul .i64 N N) pb pl e3 e4); (case hf => rfl); (case hc => (cbv <;> trivial)); (case hle => (repeat' (first | exact u_nil | apply u_cons | apply u2_agg | exact u2_int | exact u1_int | exact u2_bool | exact u1_bool | exact u2_sli | exact u1_sli | exact u2_s0 | exact u1_s0))); all_goals (first | (intro r hr; cbv) | (assumption))))
    have hr : r = whN (wv p.1 p.2 * ((n * n : Nat) : Int)) := by
      have k : r = whN (wv p.1 p.2 * E.bin .mul .i64 N N) := hr
      rw [k, en]
    have q1 : q.1 = whN ((lv s.2 / lv d.2 : Nat) : Int) := by
      have k : q = (whN ((lv s.2 / lv d.2 : Nat) : Int), whN ((lv s.2 % lv d.2 : Nat) : Int)) := hq
      rw [k]
    have F := fin s d q.1 r hs hd q1 hr
    rw [← eo] at F
    exact ⟨q.1, r, E.bin .add .i64 o 2, _, _, _, rfl, rfl, F⟩
  · rintro v h ⟨t, p', o', r1, r2, r3, rfl, rfl, hf⟩
    exact ⟨[0, 1, 2, 3, 4, 5], .agg [.bool (.s t.1), .sli .u32 t.2], [zwB, zwB, nbB N, pwB p', odB o', zwB], ⟨by repeat' (first | exact trivial | exact rfl | apply And.intro), rfl, rfl, by show (_ : Nat) ≤ _; exact Nat.le_refl _, by repeat' (first | exact trivial | exact rfl | apply And.intro), fun _ _ hv => hv, rfl⟩, t, p', o', rfl, rfl, (ef t p' o').1 hf⟩

theorem h_term4 (n j : Nat) (hn1 : 2 ≤ n) (hn2 : n ≤ 1000) (hj : j ≤ 98) (N : Int) (hN : N = n) (p : Bool × List Int) (hp : p = whN ((n ^ (2 * j + 1) : Nat) : Int)) (o : Int) (ho : o = 2 * (j : Int) - 1) (x5 x7 x8 : Bool × List Int) :
    CallsH Tryd.prog 114 [.ptr 4 1 (.l 0) 0, .ptr 3 2 (.l 0) 0, .ptr 2 1 (.l 0) 0] [zwB, zwB, nbB N, pwB p, odB o, pwB x5, .dead, pwB x7, pwB x8]
      (fun v h => ∃ (t p' : Bool × List Int) (o' : Int), v = .agg [.bool (.s t.1), .sli .u32 t.2] ∧ h = [zwB, zwB, nbB N, pwB p', odB o', pwB x5, .dead, pwB x7, pwB x8] ∧ t = whN ((piTerm n j : Nat) : Int) ∧ p' = whN ((n ^ (2 * (j + 1) + 1) : Nat) : Int) ∧ o' = 2 * ((j + 1 : Nat) : Int) - 1) := by
  obtain ⟨f, ef⟩ : ∃ f : (Bool × List Int) → (Bool × List Int) → Int → Prop, ∀ t p' o', f t p' o' ↔ (t = whN ((piTerm n j : Nat) : Int) ∧ p' = whN ((n ^ (2 * (j + 1) + 1) : Nat) : Int) ∧ o' = 2 * ((j + 1 : Nat) : Int) - 1) := ⟨_, fun _ _ _ => Iff.rfl⟩
  have p1 : p.1 = false := by rw [hp, whN_nat]
  have p2 : lv p.2 = n ^ (2 * j + 1) := by rw [hp, whN_nat, lv_lim]
  have pb : Lb p.2 := by rw [hp]; exact whN_lb _
  have wp : wv p.1 p.2 = ((n ^ (2 * j + 1) : Nat) : Int) := by rw [hp]; exact wv_nat _
  have pl : p.2.length < 60000000 := by rw [hp, whN_nat]; exact Nat.lt_of_le_of_lt (lim_pow_len (Nat.le_trans (pow_len hn1 hn2 (by omega)) (limb_mono (by decide)))) (by decide)
  have o1 : IntKind.i64.wrap (o + 2) = 2 * (j : Int) + 1 := by rw [wi64_in (by omega) (by omega)]; omega
  have nn : (n : Int) * n = ((n * n : Nat) : Int) := (Int.natCast_mul n n).symm
  have nk : n * n ≤ 1000000 := Nat.mul_le_mul hn2 hn2
  have n2 : IntKind.i64.wrap (N * N) = ((n * n : Nat) : Int) := by
    rw [hN, nn, wi64_in (by omega) (by omega)]
  have o3 : -9223372036854775808 ≤ (2 * (j : Int) + 1) ∧ (2 * (j : Int) + 1) < 9223372036854775808 := by omega
  have n3 : -9223372036854775808 ≤ ((n * n : Nat) : Int) ∧ ((n * n : Nat) : Int) < 9223372036854775808 := by omega
  have fin : ∀ (s d q r : Bool × List Int), s = whN (piOne : Int) → d = whN (wv p.1 p.2 * (2 * (j : Int) + 1)) → q = whN ((lv s.2 / lv d.2 : Nat) : Int) → r = whN (wv p.1 p.2 * ((n * n : Nat) : Int)) → f q r (2 * (j : Int) + 1) := by
    intro s d q r hs hd hq hr
    rw [ef]
    have e1 : lv s.2 = piOne := by rw [hs, whN_nat, lv_lim]
    have e2 : lv d.2 = n ^ (2 * j + 1) * (2 * j + 1) := by
      rw [hd, wp, show ((n ^ (2 * j + 1) : Nat) : Int) * (2 * (j : Int) + 1) = ((n ^ (2 * j + 1) * (2 * j + 1) : Nat) : Int) by push_cast; rfl, whN_nat, lv_lim]
    refine ⟨by rw [hq, e1, e2]; rfl, ?_, by push_cast; omega⟩
    rw [hr, wp]
    exact congrArg _ (by rw [← Int.natCast_mul, show 2 * (j + 1) + 1 = (2 * j + 1) + 2 by omega, Nat.pow_add n (2 * j + 1) 2, show n * n = n ^ 2 from (Nat.pow_two n).symm])
  have side : ∀ d : Bool × List Int, d = whN (wv p.1 p.2 * (2 * (j : Int) + 1)) → d.1 = false ∧ Lb d.2 ∧ d.2.length < 33554432 ∧ lv d.2 ≠ 0 := by
    intro d hd
    have e : d = (false, lim (n ^ (2 * j + 1) * (2 * j + 1))) := by
      rw [hd, wp, show ((n ^ (2 * j + 1) : Nat) : Int) * (2 * (j : Int) + 1) = ((n ^ (2 * j + 1) * (2 * j + 1) : Nat) : Int) by push_cast; rfl, whN_nat]
    rw [e]
    refine ⟨rfl, lim_lb _, Nat.lt_of_le_of_lt (lim_pow_len ?_) (by decide), ?_⟩
    · calc n ^ (2 * j + 1) * (2 * j + 1) ≤ 4294967296 ^ 80 * 4294967296 ^ 1 := Nat.mul_le_mul (pow_len hn1 hn2 (by omega)) (by rw [Nat.pow_one]; omega)
        _ = 4294967296 ^ 81 := by rw [← Nat.pow_add]
        _ ≤ 4294967296 ^ 100 := limb_mono (by decide)
    · rw [lv_lim]
      exact Nat.pos_iff_ne_zero.1 (Nat.mul_pos (Nat.pow_pos (by omega)) (by omega))
  have sside : ∀ s : Bool × List Int, s = whN (piOne : Int) → s.1 = false ∧ Lb s.2 ∧ s.2.length < 33554432 := by
    intro s hs
    rw [hs, whN_nat]
    exact ⟨rfl, (lim_lb piOne : Lb (lim piOne)), Nat.lt_of_le_of_lt (lim_pow_len piOne_le) (by decide)⟩
  refine callsH_named (callsH_of (K := fun v h => ∃ (t p' : Bool × List Int) (o' : Int) (r1 r2 r3 : Blk), v = .agg [.bool (.s t.1), .sli .u32 t.2] ∧ h = [zwB, zwB, nbB N, pwB p', odB o', pwB x5, .dead, pwB x7, pwB x8, r1, r2, r3] ∧ f t p' o') hG hm Tryd.func114 (by kernel_rfl) ?_) ?_
  · clear hp ho
    intro E hE lp hl'
    cbv
    have eo : E.bin .add .i64 o 2 = 2 * (j : Int) + 1 := by subst hE; exact o1
    have en : E.bin .mul .i64 N N = ((n * n : Nat) : Int) := by subst hE; exact n2
    (first | (apply E_pcallX hE (c_piScale); (case hm => rfl); (case hle => (repeat' (first | exact u_nil | apply u_cons | apply u2_agg | exact u2_int | exact u1_int | exact u2_bool | exact u1_bool | exact u2_sli | exact u1_sli | exact u2_s0 | exact u1_s0))); all_goals (first | (intro s hs; cbv) | (assumption))) | (apply E_callX hE (c_piScale); (case hf => rfl); (case hc => (cbv <;> trivial)); (case hle => (repeat' (first | exact u_nil | apply u_cons | apply u2_agg | exact u2_int | exact u1_int | exact u2_bool | exact u1_bool | exact u2_sli | exact u1_sli | exact u2_s0 | exact u1_s0))); all_goals (first | (intro s hs; cbv) | (assumption))))
    have e1 : -9223372036854775808 ≤ E.bin .add .i64 o 2 := by rw [eo]; exact o3.1
    have e2 : E.bin .add .i64 o 2 < 9223372036854775808 := by rw [eo]; exact o3.2
    apply E_pcallX hE (c_piTimes p.1 p.2 (E.bin .add .i64 o 2) pb pl e1 e2)
    case hm => rfl
    case hle => (repeat' (first | exact u_nil | apply u_cons | apply u2_agg | exact u2_int | exact u1_int | exact u2_bool | exact u1_bool | exact u2_sli | exact u1_sli | exact u2_s0 | exact u1_s0))
    intro d hd
    cbv
    have hd : d = whN (wv p.1 p.2 * (2 * (j : Int) + 1)) := by
      have k : d = whN (wv p.1 p.2 * E.bin .add .i64 o 2) := hd
      rw [k, eo]
    obtain ⟨d1, d2, d3, d4⟩ := side d hd
    obtain ⟨s1, s2, s3⟩ := sside s hs
    (first | (apply E_pcallX hE (c_wDivQ s.1 s.2 d.1 d.2 s1 d1 s2 d2 s3 d3 d4); (case hm => rfl); (case hle => (repeat' (first | exact u_nil | apply u_cons | apply u2_agg | exact u2_int | exact u1_int | exact u2_bool | exact u1_bool | exact u2_sli | exact u1_sli | exact u2_s0 | exact u1_s0))); all_goals (first | (intro q hq; cbv) | (assumption))) | (apply E_callX hE (c_wDivQ s.1 s.2 d.1 d.2 s1 d1 s2 d2 s3 d3 d4); (case hf => rfl); (case hc => (cbv <;> trivial)); (case hle => (repeat' (first | exact u_nil | apply u_cons | apply u2_agg | exact u2_int | exact u1_int | exact u2_bool | exact u1_bool | exact u2_sli | exact u1_sli | exact u2_s0 | exact u1_s0))); all_goals (first | (intro q hq; cbv) | (assumption))))
    have e3 : -9223372036854775808 ≤ E.bin .mul .i64 N N := by rw [en]; exact n3.1
    have e4 : E.bin .mul .i64 N N < 9223372036854775808 := by rw [en]; exact n3.2
    (first | (apply E_pcallX hE (c_piTimes p.1 p.2 (E.bin .mul .i64 N N) pb pl e3 e4); (case hm => rfl); (case hle => (repeat' (first | exact u_nil | apply u_cons | apply u2_agg | exact u2_int | exact u1_int | exact u2_bool | exact u1_bool | exact u2_sli | exact u1_sli | exact u2_s0 | exact u1_s0))); all_goals (first | (intro r hr; cbv) | (assumption))) | (apply E_callX hE (c_piTimes p.1 p.2 (E.bin .mul .i64 N N) pb pl e3 e4); (case hf => rfl); (case hc => (cbv <;> trivial)); (case hle => (repeat' (first | exact u_nil | apply u_cons | apply u2_agg | exact u2_int | exact u1_int | exact u2_bool | exact u1_bool | exact u2_sli | exact u1_sli | exact u2_s0 | exact u1_s0))); all_goals (first | (intro r hr; cbv) | (assumption))))
    have hr : r = whN (wv p.1 p.2 * ((n * n : Nat) : Int)) := by
      have k : r = whN (wv p.1 p.2 * E.bin .mul .i64 N N) := hr
      rw [k, en]
    have q1 : q.1 = whN ((lv s.2 / lv d.2 : Nat) : Int) := by
      have k : q = (whN ((lv s.2 / lv d.2 : Nat) : Int), whN ((lv s.2 % lv d.2 : Nat) : Int)) := hq
      rw [k]
    have F := fin s d q.1 r hs hd q1 hr
    rw [← eo] at F
    exact ⟨q.1, r, E.bin .add .i64 o 2, _, _, _, rfl, rfl, F⟩
  · rintro v h ⟨t, p', o', r1, r2, r3, rfl, rfl, hf⟩
    exact ⟨[0, 1, 2, 3, 4, 5, 6, 7, 8], .agg [.bool (.s t.1), .sli .u32 t.2], [zwB, zwB, nbB N, pwB p', odB o', pwB x5, .dead, pwB x7, pwB x8], ⟨by repeat' (first | exact trivial | exact rfl | apply And.intro), rfl, rfl, by show (_ : Nat) ≤ _; exact Nat.le_refl _, by repeat' (first | exact trivial | exact rfl | apply And.intro), fun _ _ hv => hv, rfl⟩, t, p', o', rfl, rfl, (ef t p' o').1 hf⟩

end Go.Proofs.YtpadpcjdakfokaaDoor.Ev

/- A block behind a call, told otherwise. -/
namespace Go.Proofs.YtpadpcjdakfokaaDoor.Ev
open Go Go.RowKit
set_option linter.unusedVariables false
set_option linter.unusedSimpArgs false
variable {P : Program} {G : Nat → TI}

theorem callsH_turn {f : FuncId} {args : List AV} {h : List Blk} {K K' : AV → List Blk → Prop} (hC : CallsH P f args h K')
    (hK : ∀ v h1, K' v h1 → ∃ b x y, h1[b]? = some y ∧ x.wr = y.wr ∧ (x.dim = y.dim ∧ x.need = y.need) ∧ (∀ (x1 x2 : X) g, x1.w = x2.w → BlkR x1 g y → BlkR x2 g x) ∧ K v (h1.set b x)) : CallsH P f args h K := by
  intro base O0 μ w vals H hl ha
  refine (hC base O0 μ w vals H hl ha).mono ?_
  rintro e w' ⟨val, v, h1, μ1, rfl, hk, hv, H1, X1, hB⟩
  obtain ⟨b, x, y, hb, hw, ⟨hd, hn⟩, hr, hK⟩ := hK v h1 hk
  have hb0 : b < h1.length := (List.getElem?_eq_some_iff.1 hb).1
  have hdim : x.dim = dimB h1 b := by rw [hd]; simp [dimB, hb]
  have hwr : x.wr = true → wrB h1 b = true := by intro k; rw [hw] at k; simp [wrB, hb, k]
  have e := Ext.turn H1 (b := b) (x := x) (.inr rfl) hwr (.inr hdim) rfl (fun _ _ => rfl) (fun _ h => h)
  exact ⟨val, v, h1.set b x, μ1, rfl, hK, hv.mono e, HR.turn H1 hb0 (.inr rfl) hwr (.inr hdim) rfl (fun _ _ => rfl) (fun _ h => h) (hr (mkX base O0 μ1 h1 w') _ _ rfl (H1.blk b y hb)) (.inr ⟨_, hb, hn⟩), X1.trans e, hB⟩

/-- one whole number, known in full, as one told by a term -/
theorem blk_lit {k : IntKind} {n : Int} {w : Bool} {d : List AV} (x1 x2 : X) (g : Nat) (hw : x1.w = x2.w) (h : BlkR x1 g (.rows w 1 d [[.int k (.l n)]])) : BlkR x2 g (.rows w 1 d [[.int k (.s n)]]) := by
  obtain ⟨h1, c, e, h2, h3⟩ := h
  refine ⟨h1, c, e, hw ▸ h2, fun i r hr => ?_⟩
  match i, hr with
  | 0, hr =>
    simp only [List.getElem?_cons_zero, Option.some.injEq] at hr
    subst hr
    refine ⟨rfl, fun j a ha => ?_⟩
    match j, ha with
    | 0, ha =>
      simp only [List.getElem?_cons_zero, Option.some.injEq] at ha
      subst ha
      obtain ⟨y, e1, e2⟩ := (h3 0 _ rfl).2 0 _ rfl
      refine ⟨y, e1, ?_⟩
      have e2 : RoV x1.O x1.w (.int k (.l n)) y := e2
      cases e2 with
      | int _ _ v h => exact RoV.int k (.s n) v h
    | j + 1, ha => simp at ha
  | i + 1, hr => simp at hr
end Go.Proofs.YtpadpcjdakfokaaDoor.Ev
