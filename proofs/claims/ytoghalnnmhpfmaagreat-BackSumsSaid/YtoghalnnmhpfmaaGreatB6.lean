/- Texts of the proof, joined: N7 N8 Bn11 N9 N3 Bn12 N10 N11 C23 Pu24 Pu25 Br7 R24 Br8 R19 Br9 R20 Br10 R21 R25 Br12 R22 R26 R27 C31 Pu26 Pu28a Pu28 Pu29 Pu30 Pu31 Pu32 Pu33 Pu35 Pu36 Br13 R28 C24a C25 Pu37 C26a C32 Br14 R29 R30 C33 -/
import Derived.Test.YtoghalnnmhpfmaaGreatB5
set_option linter.unusedVariables false
set_option linter.unusedSimpArgs false

/- Contracts: a guess times the divisor taken away, and given back: both write the caller's memory. Printed by gen.py. -/
namespace Go.Proofs.YtoghalnnmhpfmaaGreat.Ev
open Go Go.Proofs
set_option linter.unusedVariables false
set_option linter.unusedSimpArgs false


attribute [local irreducible] Lb
def lessS (E : Env) (d z Q : List Int) (q at_ n : Int) : Int × Int × Int × List Int → St := fun p => ⟨[(0, .ms 2 1 (.l 0) (.s n)), (1, .sli .u32 d), (2, .int .u32 (.s q)), (3, .int .i64 (.s at_)), (9, .int .u32 (.s p.2.2.1)), (10, .int .u64 (.s p.2.1)), (14, .sli .u32 d), (15, .int .i64 (.s (E.len d))), (16, .int .i64 (.s p.1))],
  [.dead, .ints true .u32 z, .ints true .u32 p.2.2.2, .ints true .u32 Q]⟩
set_option maxHeartbeats 2000000 in
theorem h_less (d z R Q : List Int) (q at_ n : Int) (hd : Lb d) (hR : Lb R) (hq : 0 ≤ q ∧ q < 4294967296) (hlr : R.length < 134217728) (ha : 0 ≤ at_) (hat : at_ + d.length < R.length) (hn : at_ + d.length < n) (hn2 : n ≤ R.length) :
    CallsH Tryz.prog 152 [.ms 2 1 (.l 0) (.s n), .sli .u32 d, .int .u32 (.s q), .int .i64 (.s at_)] [.dead, .ints true .u32 z, .ints true .u32 R, .ints true .u32 Q]
      (fun v h => ∃ r b, v = .bool (.s b) ∧ h = [.dead, .ints true .u32 z, .ints true .u32 r, .ints true .u32 Q] ∧ LessR R d q at_.toNat r b) := by
  obtain ⟨m, em⟩ : ∃ m : Int × Int × Int × List Int → Nat, ∀ p, m p = (d.length - p.1).toNat := ⟨_, fun _ => rfl⟩
  obtain ⟨ok, eok⟩ : ∃ ok : Int × Int × Int × List Int → Prop, ∀ p, ok p ↔ 0 ≤ p.1 ∧ p.1 ≤ d.length ∧ LessInv R d q at_.toNat p.2.2.2 p.1.toNat p.2.1 p.2.2.1 := ⟨_, fun _ => Iff.rfl⟩
  refine callsH_of hG hm Tryz.func152 (by kernel_rfl) ?_
  intro E hE lp hl
  cbv
  repeat' (first
    | (refine E_br hE (fun h => ?_) (fun h => ?_) <;> cbv)
    | (refine E_nm hE (fun v hv => ?_); cbv)
    | (refine E_nilS hE (fun b hb => ?_); cbv)
    | fail)
  refine E_loop hE hG hm hl (lessS E d z Q q at_ n) m ok ⟨(0, 0, 0, R), (eok _).2 ⟨by show (0 : Int) ≤ 0; omega, by show (0 : Int) ≤ d.length; omega, LessInv.start d q at_.toNat hR⟩, stLe rfl ?_⟩ ?_
  · (repeat' (first | exact t_nil | apply t_cons | exact u2_sli | exact u2_int | exact u2_bool | exact u2_ms | exact u2_ptr | exact (rfl : sle2 .s0 .s0)))
  rintro ⟨i, carry, borrow, r⟩ hok
  have h1 : 0 ≤ i := ((eok _).1 hok).1
  have h2 : i ≤ d.length := ((eok _).1 hok).2.1
  have inv : LessInv R d q at_.toNat r i.toNat carry borrow := ((eok _).1 hok).2.2
  have lr := inv.lb
  have hol := inv.len
  have b0 := inv.b0
  have b1 := inv.b1
  have w1 : ∀ x : Int, 0 ≤ IntKind.u32.wrap x := fun x => by rw [wu32]; omega
  have w2 : ∀ x : Int, IntKind.u32.wrap x < 4294967296 := fun x => by rw [wu32]; omega
  clear hok
  cbv
  repeat' (first
    | (refine E_br hE (fun h => ?_) (fun h => ?_) <;> cbv)
    | (refine E_nm hE (fun v hv => ?_); cbv)
    | (refine E_nilS hE (fun b hb => ?_); cbv)
    | (apply E_callX hE (c_Sub32 _ _ _ ?_ ?_ ?_ ?_ ?_ ?_); (case hf => rfl); (case hc => (cbv <;> trivial)); (case hle => exact u_up); all_goals (first | (intro t ht; cbv) | (((try simp only [SI.val]); first | omega | (subst hE; first | exact (lr.getD _).1 | exact (lr.getD _).2 | exact w1 _ | exact w2 _)))))
    | fail)
  all_goals (try (rename_i c' ec _ _ _; refine ⟨(E.bin .add .i64 i 1, c', v, E.set r (E.bin .add .i64 at_ _) t.1), ?_, ?_, stLe rfl ?_⟩))
  all_goals (try ((repeat' (first | exact t_nil | apply t_cons | exact u2_sli | exact u2_int | exact u2_bool | exact u2_ms | exact u2_ptr | exact (rfl : sle2 .s0 .s0))); done))
  all_goals (subst hE)
  all_goals (try (first
    | (rw [em, em]; exact (less_next hd hq hlr h1 (lss_t ‹_›) ha hat inv ‹_ = i› ‹_› ‹_› ‹t = _› ‹_› rfl ‹_›).2.2.1)
    | (rw [eok]; have q := less_next hd hq hlr h1 (lss_t ‹_›) ha hat inv ‹_ = i› ‹_› ‹_› ‹t = _› ‹_› rfl ‹_›; exact ⟨q.1, q.2.1, q.2.2.2⟩)
    | exact ⟨_, _, rfl, rfl, less_stop hlr h2 (lss_f ‹_›) ha hat inv ‹t = _› ‹_› rfl⟩))
  all_goals (clear inv eok em w1 w2; simp only [NatCast.natCast, Int.ofNat_eq_natCast, realE, cmp_eql, cmp_neq, cmp_lss, cmp_leq, cmp_gtr, cmp_geq, intBinR, decide_eq_true_eq, decide_eq_false_iff_not, SI.val, SB.val, Num.eta, Iv.eta] at *; (try simp only [wi64] at *); subst_vars; omega)

def moreS (E : Env) (d z Q : List Int) (at_ n : Int) : Int × Int × List Int → St := fun p => ⟨[(0, .ms 2 1 (.l 0) (.s n)), (1, .sli .u32 d), (2, .int .i64 (.s at_)), (6, .int .u32 (.s p.2.1)), (9, .sli .u32 d), (10, .int .i64 (.s (E.len d))), (11, .int .i64 (.s p.1))],
  [.dead, .ints true .u32 z, .ints true .u32 p.2.2, .ints true .u32 Q]⟩
set_option maxHeartbeats 2000000 in
theorem h_more (d z R Q : List Int) (at_ n : Int) (hd : Lb d) (hR : Lb R) (hlr : R.length < 134217728) (ha : 0 ≤ at_) (hat : at_ + d.length < R.length) (hn : at_ + d.length < n) (hn2 : n ≤ R.length) :
    CallsH Tryz.prog 153 [.ms 2 1 (.l 0) (.s n), .sli .u32 d, .int .i64 (.s at_)] [.dead, .ints true .u32 z, .ints true .u32 R, .ints true .u32 Q]
      (fun v h => ∃ r, v = .tup [] ∧ h = [.dead, .ints true .u32 z, .ints true .u32 r, .ints true .u32 Q] ∧ MoreR R d at_.toNat r) := by
  obtain ⟨m, em⟩ : ∃ m : Int × Int × List Int → Nat, ∀ p, m p = (d.length - p.1).toNat := ⟨_, fun _ => rfl⟩
  obtain ⟨ok, eok⟩ : ∃ ok : Int × Int × List Int → Prop, ∀ p, ok p ↔ 0 ≤ p.1 ∧ p.1 ≤ d.length ∧ MoreInv R d at_.toNat p.2.2 p.1.toNat p.2.1 := ⟨_, fun _ => Iff.rfl⟩
  refine callsH_of hG hm Tryz.func153 (by kernel_rfl) ?_
  intro E hE lp hl
  cbv
  repeat' (first
    | (refine E_br hE (fun h => ?_) (fun h => ?_) <;> cbv)
    | (refine E_nm hE (fun v hv => ?_); cbv)
    | (refine E_nilS hE (fun b hb => ?_); cbv)
    | fail)
  refine E_loop hE hG hm hl (moreS E d z Q at_ n) m ok ⟨(0, 0, R), (eok _).2 ⟨by show (0 : Int) ≤ 0; omega, by show (0 : Int) ≤ d.length; omega, MoreInv.start d at_.toNat hR⟩, stLe rfl ?_⟩ ?_
  · (repeat' (first | exact t_nil | apply t_cons | exact u2_sli | exact u2_int | exact u2_bool | exact u2_ms | exact u2_ptr | exact (rfl : sle2 .s0 .s0)))
  rintro ⟨i, c, r⟩ hok
  have h1 : 0 ≤ i := ((eok _).1 hok).1
  have h2 : i ≤ d.length := ((eok _).1 hok).2.1
  have inv : MoreInv R d at_.toNat r i.toNat c := ((eok _).1 hok).2.2
  have lr := inv.lb
  have hol := inv.len
  have c0 := inv.c0
  have c1 := inv.c1
  have g1 : ∀ v, v = E.get d i → 0 ≤ v := by subst hE; intro v e; rw [e]; exact (hd.getD _).1
  have g2 : ∀ v, v = E.get d i → v < 4294967296 := by subst hE; intro v e; rw [e]; exact (hd.getD _).2
  clear hok
  cbv
  repeat' (first
    | (refine E_br hE (fun h => ?_) (fun h => ?_) <;> cbv)
    | (refine E_nm hE (fun v hv => ?_); cbv)
    | (refine E_nilS hE (fun b hb => ?_); cbv)
    | (apply E_callX hE (c_Add32 _ _ _ ?_ ?_ ?_ ?_ ?_ ?_); (case hf => rfl); (case hc => (cbv <;> trivial)); (case hle => exact u_up); all_goals (first | (intro t ht; cbv) | (((try simp only [SI.val]); first | omega | exact g1 _ ‹_› | exact g2 _ ‹_› | (subst hE; first | exact (lr.getD _).1 | exact (lr.getD _).2)))))
    | fail)
  all_goals (try (refine ⟨(E.bin .add .i64 i 1, v, E.set r (E.bin .add .i64 at_ _) t.1), ?_, ?_, stLe rfl ?_⟩))
  all_goals (try ((repeat' (first | exact t_nil | apply t_cons | exact u2_sli | exact u2_int | exact u2_bool | exact u2_ms | exact u2_ptr | exact (rfl : sle2 .s0 .s0))); done))
  all_goals (subst hE)
  all_goals (try (first
    | (rw [em, em]; exact (more_next hd hlr h1 (lss_t ‹_›) ha hat inv ‹_ = i› ‹_› ‹t = _› ‹_› rfl).2.2.1)
    | (rw [eok]; have q := more_next hd hlr h1 (lss_t ‹_›) ha hat inv ‹_ = i› ‹_› ‹t = _› ‹_› rfl; exact ⟨q.1, q.2.1, q.2.2.2⟩)
    | exact ⟨_, rfl, rfl, more_stop hlr h2 (lss_f ‹_›) ha hat inv rfl⟩))
  all_goals (clear inv eok em g1 g2; simp only [NatCast.natCast, Int.ofNat_eq_natCast, realE, cmp_eql, cmp_neq, cmp_lss, cmp_leq, cmp_gtr, cmp_geq, intBinR, decide_eq_true_eq, decide_eq_false_iff_not, SI.val, SB.val, Num.eta, Iv.eta] at *; (try simp only [wi64] at *); subst_vars; omega)
  all_goals trace_state

end Go.Proofs.YtoghalnnmhpfmaaGreat.Ev

/- Contracts: limbs shifted, into memory that the caller writes. Printed by gen.py. -/
namespace Go.Proofs.YtoghalnnmhpfmaaGreat.Ev
open Go Go.Proofs
set_option linter.unusedVariables false
set_option linter.unusedSimpArgs false


attribute [local irreducible] Lb
set_option maxHeartbeats 1000000 in
theorem h_cut (L : List Int) (n : Int) (hL : Lb L) (hl : L.length < 268435456) (hn : n = L.length) :
    CallsH Tryz.prog 124 [.ms 0 1 (.l 0) (.s n)] [.ints true .u32 L] (fun v h => ∃ k : Int, v = .ms 0 1 (.l 0) (.s k) ∧ h = [.ints true .u32 L] ∧ 0 ≤ k ∧ k ≤ L.length ∧ L.take k.toNat = lim (lv L)) := by
  obtain ⟨m, em⟩ : ∃ m : Int → Nat, ∀ p, m p = p.toNat := ⟨_, fun _ => rfl⟩
  obtain ⟨ok, eok⟩ : ∃ ok : Int → Prop, ∀ p, ok p ↔ 0 ≤ p ∧ p ≤ L.length ∧ lv (L.take p.toNat) = lv L := ⟨_, fun _ => Iff.rfl⟩
  have s0 : 0 ≤ n ∧ n ≤ L.length ∧ lv (L.take n.toNat) = lv L := ⟨by omega, by omega, by rw [hn, Int.toNat_natCast, List.take_length]⟩
  refine callsH_of hG hm Tryz.func124 (by kernel_rfl) ?_
  intro E hE lp hl'
  cbv
  refine E_loop hE hG hm hl' (fun p : Int => (⟨[(0, .ms 0 1 (.l 0) (.s p)), (2, .s0)], [.ints true .u32 L]⟩ : St)) m ok ⟨n, (eok _).2 s0, stLe rfl ?_⟩ ?_
  · (repeat' (first | exact t_nil | apply t_cons | exact u2_sli | exact u2_int | exact u2_bool | exact u2_ms | exact u2_ptr | exact (rfl : sle2 .s0 .s0)))
  intro k hok
  have h1 : 0 ≤ k := ((eok _).1 hok).1
  have h2 : k ≤ L.length := ((eok _).1 hok).2.1
  have h3 : lv (L.take k.toNat) = lv L := ((eok _).1 hok).2.2
  have next : ∀ j : Int, 0 < k → j = intBinR .sub .i64 k 1 → L.getD j.toNat 0 = 0 → 0 ≤ j ∧ j ≤ L.length ∧ j.toNat < k.toNat ∧ lv (L.take j.toNat) = lv L := by
    intro j h0 hj hz
    have hj' : j = k - 1 := by rw [hj]; exact wi64_id (by omega) (by omega)
    refine ⟨by omega, by omega, by omega, ?_⟩
    rw [show j.toNat = k.toNat - 1 by omega] at hz ⊢
    rw [lv_cut_step (by omega) (by omega) hz, h3]
  have fin : (k = 0 ∨ L.getD (intBinR .sub .i64 k 1).toNat 0 ≠ 0) → L.take k.toNat = lim (lv L) := by
    intro h
    refine cut_end hL (by omega) ?_ h3
    rcases h with h | h
    · exact .inl (by omega)
    · rcases Int.lt_or_le 0 k with h0 | h0
      · have e : intBinR .sub .i64 k 1 = k - 1 := wi64_id (by omega) (by omega)
        rw [e, show (k - 1).toNat = k.toNat - 1 by omega] at h
        exact .inr h
      · exact .inl (by omega)
  clear hok
  cbv
  repeat' (first
    | (refine E_br hE (fun h => ?_) (fun h => ?_) <;> cbv)
    | (refine E_nm hE (fun v hv => ?_); cbv)
    | (refine E_nilS hE (fun b hb => ?_); cbv)
    | fail)
  all_goals (try (refine ⟨E.bin .sub .i64 k 1, ?_, ?_, stLe rfl ?_⟩))
  all_goals (try ((repeat' (first | exact t_nil | apply t_cons | exact u2_sli | exact u2_int | exact u2_bool | exact u2_ms | exact u2_ptr | exact (rfl : sle2 .s0 .s0))); done))
  all_goals (subst hE)
  all_goals (try (first
    | (rw [em, em]; exact (next _ (gtr_t ‹_›) rfl (eql_t ‹_›)).2.2.1)
    | (rw [eok]; have q := next _ (gtr_t ‹_›) rfl (eql_t ‹_›); exact ⟨q.1, q.2.1, q.2.2.2⟩)
    | exact ⟨k, rfl, rfl, h1, h2, fin (.inr (eql_f ‹_›))⟩
    | exact ⟨k, rfl, rfl, h1, h2, fin (.inl (by have := gtr_f ‹_›; omega))⟩))
  all_goals (clear next fin eok em s0; simp only [NatCast.natCast, Int.ofNat_eq_natCast, realE, cmp_eql, cmp_neq, cmp_lss, cmp_leq, cmp_gtr, cmp_geq, intBinR, decide_eq_true_eq, decide_eq_false_iff_not, SI.val, SB.val, Num.eta, Iv.eta] at *; (try simp only [wi64] at *); omega)

theorem h_Clone (a : List Int) (ha : 0 < a.length) (hl : a.length ≤ 268435456) :
    CallsH Tryz.prog 131 [.sli .u32 a] [] (fun v h => ∃ L k, v = .ms 0 1 (.l 0) (.s k) ∧ h = [.ints true .u32 L] ∧ k = (a.length : Int) ∧ L = a) := by
  refine callsH_named (callsH_of (K := fun v h => ∃ L k, v = .ms 1 1 (.l 0) (.s k) ∧ h = [.dead, .ints true .u32 L] ∧ k = (a.length : Int) ∧ L = a) hG hm Tryz.func131 (by kernel_rfl) ?_) ?_
  · intro E hE lp hl'
    cbv
    repeat' (first
    | (refine E_br hE (fun h => ?_) (fun h => ?_) <;> cbv)
    | (refine E_nm hE (fun v hv => ?_); cbv)
    | (refine E_nilS hE (fun b hb => ?_); cbv)
    | fail)
    all_goals (subst hE)
    · exfalso; have := hb h; simp only [realE] at this; omega
    · exact ⟨_, _, rfl, rfl, rfl, rfl⟩
    · have := leq_f h; simp only [realE] at this; omega
  · rintro v h ⟨L, k, rfl, rfl, hk, hL⟩
    exact ⟨[1], .ms 0 1 (.l 0) (.s k), [.ints true .u32 L], ⟨⟨rfl, trivial⟩, rfl, rfl, Nat.zero_le _, trivial, ms_le rfl rfl, rfl⟩, L, k, rfl, rfl, hk, hL⟩
set_option maxHeartbeats 1000000 in
theorem h_Shl (a : List Int) (n : Int) (ha : Lb a) (hla : a.length < 67108864) (ha0 : 0 < lv a) (hn0 : 0 ≤ n) (hn1 : n ≤ 16777216) :
    CallsH Tryz.prog 93 [.sli .u32 a, .int .i64 (.s n)] [] (fun v h => ∃ L k, v = .ms 0 1 (.l 0) (.s k) ∧ h = [.ints true .u32 L] ∧ 0 ≤ k ∧ k ≤ L.length ∧ L.take k.toNat = lim (lv a * 2 ^ n.toNat) ∧ L.length ≤ 134217728) := by
  generalize hr : lim (lv a * 2 ^ n.toNat) = r
  have hlx := lim_length_le' ha
  have hx := lim_lb (lv a)
  have vx := lv_lim (lv a)
  obtain ⟨x, ex⟩ : ∃ x, lim (lv a) = x := ⟨_, rfl⟩
  rw [ex] at hlx hx vx
  have hx0 : 0 < x.length := by
    rcases Nat.eq_zero_or_pos x.length with h | h
    · rw [List.length_eq_zero_iff.1 h] at vx; simp only [lv] at vx; omega
    · exact h
  obtain ⟨m, em⟩ : ∃ m : Int × List Int → Nat, ∀ p, m p = (x.length - p.1).toNat := ⟨_, fun _ => rfl⟩
  obtain ⟨ok, eok⟩ : ∃ ok : Int × List Int → Prop, ∀ p, ok p ↔ 0 ≤ p.1 ∧ p.1 ≤ x.length ∧ ShlInv x p.2 (n / 32).toNat (n % 32).toNat p.1.toNat := ⟨_, fun _ => Iff.rfl⟩
  have eN : ∀ l : Int, 1 ≤ n → n ≤ 16777216 → l = intBinR .quo .i64 n 32 → IntKind.i64.wrap (IntKind.i64.wrap ((x.length : Int) + l) + 1) = x.length + n / 32 + 1 := by
    intro l n1 n2 el
    have : l = n / 32 := by rw [el]; exact quo32 (by omega) (by omega)
    rw [this, wi64_id (n := (x.length : Int) + n / 32) (by omega) (by omega), wi64_id (by omega) (by omega)]
  refine callsH_of hG hm Tryz.func93 (by kernel_rfl) ?_
  intro E hE lp hl
  cbv
  (apply E_callX hE (c_cut a ha (by omega)); (case hf => rfl); (case hc => (cbv <;> trivial)); (case hle => exact ⟨u2_sli, trivial⟩); intro x' hx'; cbv)
  rw [hx'.trans ex]
  clear hx' x'
  refine E_br hE (fun h => ?_) (fun h => ?_)
  · have e : x = r := by subst hE; have := lss_t h; rw [← hr, show n.toNat = 0 by omega, Nat.pow_zero, Nat.mul_one, ex]
    cbv
    refine E_callH hE (h_Clone x hx0 (by omega)) ?_
    rintro v h1 ⟨L, k, rfl, rfl, hk, hL⟩
    cbv
    exact ⟨L, k, rfl, rfl, by rw [hk]; exact Int.natCast_nonneg _, by rw [hk, hL]; exact Int.le_refl _, by rw [hk, hL, Int.toNat_natCast, List.take_length]; exact e, by rw [hL]; omega⟩
  have n1 : 1 ≤ n := by subst hE; have := lss_f h; omega
  cbv
  repeat' (first
    | (refine E_br hE (fun h => ?_) (fun h => ?_) <;> cbv)
    | (refine E_nm hE (fun v hv => ?_); cbv)
    | (refine E_nilS hE (fun b hb => ?_); cbv)
    | fail)
  · exfalso; subst hE; have := gtr_t ‹_›; omega
  · exfalso
    have e0 : x.length = 0 := by subst hE; have := eql_t h; simp only [realE] at this; omega
    omega
  all_goals (have n2 : n ≤ 16777216 := (by subst hE; have := gtr_f ‹(realE Tryz.prog).cmp .gtr n 16777216 = false›; omega))
  all_goals (try (exfalso; have := eN _ n1 n2 (by subst hE; assumption); subst hE; simp only [NatCast.natCast, Int.ofNat_eq_natCast, realE, cmp_eql, cmp_neq, cmp_lss, cmp_leq, cmp_gtr, cmp_geq, intBinR, decide_eq_true_eq, decide_eq_false_iff_not, SI.val, SB.val, Num.eta, Iv.eta] at *; rw [this] at *; omega))
  rename_i l el _ _
  replace eN := eN l n1 n2 (by subst hE; exact el)
  simp only [NatCast.natCast, Int.ofNat_eq_natCast] at eN
  have er := hv
  have l1 : l = n / 32 := by subst hE; rw [el]; exact quo32 (by omega) (by omega)
  have r1 : 0 ≤ v := by
    have : v = n % 32 := by subst hE; rw [hv]; exact rem32 (by omega)
    omega
  clear hv
  refine E_loop hE hG hm hl (shlS E x l v) m ok ⟨(0, E.rep (E.bin .add .i64 (E.bin .add .i64 (E.len x) l) 1)), (eok _).2 ?_, stLe rfl ?_⟩ ?_
  · refine ⟨by show (0 : Int) ≤ 0; omega, by show (0 : Int) ≤ x.length; omega, ?_⟩
    have := ShlInv.start x (n / 32).toNat (n % 32).toNat
    subst hE; simp only [NatCast.natCast, Int.ofNat_eq_natCast, realE, cmp_eql, cmp_neq, cmp_lss, cmp_leq, cmp_gtr, cmp_geq, intBinR, decide_eq_true_eq, decide_eq_false_iff_not, SI.val, SB.val, Num.eta, Iv.eta] at *; rw [eN, show ((x.length : Int) + n / 32 + 1).toNat = x.length + (n / 32).toNat + 1 by omega]
    exact this
  · (repeat' (first | exact t_nil | apply t_cons | exact u2_sli | exact u2_int | exact u2_bool | exact u2_ms | exact u2_ptr | exact (rfl : sle2 .s0 .s0)))
  rintro ⟨i, out⟩ hok
  have h1 : 0 ≤ i := ((eok _).1 hok).1
  have h2 : i ≤ x.length := ((eok _).1 hok).2.1
  have inv : ShlInv x out (n / 32).toNat (n % 32).toNat i.toNat := ((eok _).1 hok).2.2
  have hol := inv.len
  have fin : ¬ i < x.length → lim (lv out) = r := by
    intro h
    have inv' := inv
    rw [show i.toNat = x.length by omega] at inv'
    rw [inv'.stop, ← hr, vx, show 32 * (n / 32).toNat + (n % 32).toNat = n.toNat by omega]
  have lo := inv.lb
  have hol2 : out.length ≤ 134217728 := by omega
  have eNN : E.bin .add .i64 (E.bin .add .i64 (E.len x) l) 1 = (out.length : Int) := by
    subst hE; show IntKind.i64.wrap (IntKind.i64.wrap ((x.length : Int) + l) + 1) = _; rw [eN]; omega
  clear hok hr ex
  cbv
  repeat' (first
    | (refine E_br hE (fun h => ?_) (fun h => ?_) <;> cbv)
    | (refine E_nm hE (fun v hv => ?_); cbv)
    | (refine E_nilS hE (fun b hb => ?_); cbv)
    | fail)
  all_goals (try (
    refine E_callH hE (h_cut out (E.bin .add .i64 (E.bin .add .i64 (E.len x) l) 1) lo (by omega) eNN) ?_
    rintro v h1 ⟨k, rfl, rfl, k1, k2, k3⟩
    cbv
    exact ⟨out, k, rfl, rfl, k1, k2, k3.trans (fin (by subst hE; exact lss_f ‹_›)), hol2⟩))
  all_goals (try refine ⟨(E.bin .add .i64 i 1, _), ?_, ?_, stLe rfl ?_⟩)
  all_goals (try ((repeat' (first | exact t_nil | apply t_cons | exact u2_sli | exact u2_int | exact u2_bool | exact u2_ms | exact u2_ptr | exact (rfl : sle2 .s0 .s0))); done))
  all_goals (subst hE)
  all_goals (try (first | (rw [em, em]; exact (shl_next hx (by omega) n1 n2 h1 (lss_t ‹_›) inv ‹_› el er ‹_› ‹_› rfl).2.2.1) | (rw [eok]; have q := shl_next hx (by omega) n1 n2 h1 (lss_t ‹_›) inv ‹_› el er ‹_› ‹_› rfl; exact ⟨q.1, q.2.1, q.2.2.2⟩)))
  all_goals (clear inv eok em fin er el; simp only [NatCast.natCast, Int.ofNat_eq_natCast, realE, cmp_eql, cmp_neq, cmp_lss, cmp_leq, cmp_gtr, cmp_geq, intBinR, decide_eq_true_eq, decide_eq_false_iff_not, SI.val, SB.val, Num.eta, Iv.eta] at *; (try rw [eN] at *); clear eN; (try simp only [wi64] at *); omega)
end Go.Proofs.YtoghalnnmhpfmaaGreat.Ev

/- A long division's start, rounds and end, as the words of the program reckon them. -/
namespace Go.Proofs.YtoghalnnmhpfmaaGreat.Ev
open Go

theorem lim_length_ge {n k : Nat} (h : 0 < k) (hk : 4294967296 ^ (k - 1) ≤ n) : k ≤ (lim n).length := by
  have := lim_length_lt hk
  omega

theorem lv_ge_last {a : List Int} (h : Lb a) (hne : a ≠ []) (h0 : a.getD (a.length - 1) 0 ≠ 0) : 4294967296 ^ (a.length - 1) ≤ lv a := by
  have hl : 0 < a.length := List.length_pos_iff.2 hne
  have e := lv_take_succ (a := a) (i := a.length - 1) (by omega)
  rw [show a.length - 1 + 1 = a.length by omega, lv_take_all] at e
  have hg := h.getD (a.length - 1)
  have : 4294967296 ^ (a.length - 1) * 1 ≤ 4294967296 ^ (a.length - 1) * (a.getD (a.length - 1) 0).toNat := Nat.mul_le_mul_left _ (by omega)
  omega

/-- The divisor, moved up as far as its limbs go. -/
theorem norm_len {y : List Int} {by_ : Int} (h : Lb y) (hne : y ≠ []) (h0 : y.getD (y.length - 1) 0 ≠ 0) (e : by_ = 32 - blen (y.getD (y.length - 1) 0)) :
    0 ≤ by_ ∧ by_ < 32 ∧ (lim (lv y * 2 ^ by_.toNat)).length = y.length := by
  have hl : 0 < y.length := List.length_pos_iff.2 hne
  have hg := h.getD (y.length - 1)
  have b1 := blen_le 32 (x := y.getD (y.length - 1) 0) (by omega)
  obtain ⟨n, q1, q2, q3⟩ := blen_pos (x := y.getD (y.length - 1) 0) (by omega)
  have hb : 0 ≤ by_ ∧ by_ < 32 := by omega
  refine ⟨hb.1, hb.2, ?_⟩
  have hL := blen_len h hne h0
  have hN : blen (lv y : Int) = ((32 * (y.length - 1) + n : Nat) : Int) + 1 := by rw [hL, q1]; omega
  obtain ⟨k1, k2⟩ := (blen_nat_iff _).1 hN
  have p : (4294967296 : Nat) ^ y.length = 2 ^ (32 * (y.length - 1) + n + 1) * 2 ^ by_.toNat := by
    rw [← Nat.pow_add, show (4294967296 : Nat) = 2 ^ 32 by rfl, ← Nat.pow_mul]
    congr 1
    omega
  apply Nat.le_antisymm
  · apply lim_length_le
    rw [p]
    exact Nat.mul_lt_mul_of_pos_right k2 (Nat.two_pow_pos _)
  · apply lim_length_ge hl
    have := lv_ge_last h hne h0
    have h2 : lv y * 1 ≤ lv y * 2 ^ by_.toNat := Nat.mul_le_mul_left _ (Nat.two_pow_pos _)
    omega

theorem div_start {x y : List Int} {k : Nat} (hx : Lb x) (hy : Lb y) (hxn : x ≠ []) (hyn : y ≠ []) (hx0 : x.getD (x.length - 1) 0 ≠ 0) (hy0 : y.getD (y.length - 1) 0 ≠ 0) (hle : y.length ≤ x.length) :
    DivInv (lv x * 2 ^ k) (lv y * 2 ^ k) y.length (lim (lv x * 2 ^ k) ++ [0, 0]) (List.replicate (x.length - y.length + 1) 0) (x.length - y.length + 1) := by
  have hyl : 0 < y.length := List.length_pos_iff.2 hyn
  have hxl : 0 < x.length := List.length_pos_iff.2 hxn
  have g1 := lv_ge_last hx hxn hx0
  have g2 := lv_ge_last hy hyn hy0
  have g3 := lv_lt hx
  have e0 : lv (lim (lv x * 2 ^ k) ++ [0, 0]) = lv x * 2 ^ k := by
    rw [lv_append, lv_lim]
    simp [lv]
  refine ⟨?_, (lim_lb _).append (Lb.cons (by omega) (by omega) (Lb.cons (by omega) (by omega) Lb.nil)), Lb.replicate _, fun j _ => getD_replicate0 _ _, ?_, ?_⟩
  · have : x.length ≤ (lim (lv x * 2 ^ k)).length := by
      apply lim_length_ge hxl
      have : lv x * 1 ≤ lv x * 2 ^ k := Nat.mul_le_mul_left _ (Nat.two_pow_pos _)
      omega
    simp only [List.length_replicate, List.length_append, List.length_cons, List.length_nil]
    omega
  · rw [lv_replicate, e0]; omega
  · rw [e0]
    have e1 : lv y * 2 ^ k * 4294967296 ^ (x.length - y.length + 1) = 2 ^ k * (lv y * 4294967296 ^ (x.length - y.length + 1)) := by grind
    have e2 : 4294967296 ^ (y.length - 1) * 4294967296 ^ (x.length - y.length + 1) = 4294967296 ^ x.length := by
      rw [← Nat.pow_add]; congr 1; omega
    have e3 : 4294967296 ^ (y.length - 1) * 4294967296 ^ (x.length - y.length + 1) ≤ lv y * 4294967296 ^ (x.length - y.length + 1) := Nat.mul_le_mul_right _ g2
    rw [e1, Nat.mul_comm (lv x)]
    exact Nat.mul_lt_mul_of_pos_left (by omega) (Nat.two_pow_pos _)

section
variable {A : Nat} {d R Q : List Int} {at_ top i i' : Int}
/-- where a round works -/
theorem div_at (hl : Q.length < 134217728) (h1 : 0 ≤ i) (h2 : i < Q.length) (ei : i' = i) (ea : at_ = intBinR .sub .i64 (intBinR .sub .i64 Q.length 1) i') : at_ = Q.length - 1 - i := by
  subst ei
  rw [ea]
  show IntKind.i64.wrap (IntKind.i64.wrap ((Q.length : Int) - 1) - i') = _
  rw [wi64_id (n := (Q.length : Int) - 1) (by omega) (by omega), wi64_id (by omega) (by omega)]

theorem div_guess (hi : DivInv A (lv d) d.length R Q (at_.toNat + 1)) (hd : Lb d) (hn : 2 ≤ d.length) (h0 : d.getD (d.length - 1) 0 ≠ 0) (hl : R.length < 134217728) (ha : 0 ≤ at_) (hat : at_ < Q.length)
    (et : top = intBinR .add .i64 at_ d.length) :
    GuessIn (R.getD top.toNat 0) (R.getD (intBinR .sub .i64 top 1).toNat 0) (R.getD (intBinR .sub .i64 top 2).toNat 0) (d.getD (intBinR .sub .i64 d.length 1).toNat 0) (d.getD (intBinR .sub .i64 d.length 2).toNat 0) ∧
    (guessQ (R.getD top.toNat 0) (R.getD (intBinR .sub .i64 top 1).toNat 0) (R.getD (intBinR .sub .i64 top 2).toNat 0) (d.getD (intBinR .sub .i64 d.length 1).toNat 0) (d.getD (intBinR .sub .i64 d.length 2).toNat 0)
      = guessQ (R.getD (at_.toNat + d.length) 0) (R.getD (at_.toNat + d.length - 1) 0) (R.getD (at_.toNat + d.length - 2) 0) (d.getD (d.length - 1) 0) (d.getD (d.length - 2) 0)) := by
  have hr := hi.lenr
  have et' : top = at_ + d.length := by rw [et]; exact wi64_id (by omega) (by omega)
  have e1 : (intBinR .sub .i64 top 1).toNat = at_.toNat + d.length - 1 := by
    have : intBinR .sub .i64 top 1 = top - 1 := wi64_id (by omega) (by omega)
    omega
  have e2 : (intBinR .sub .i64 top 2).toNat = at_.toNat + d.length - 2 := by
    have : intBinR .sub .i64 top 2 = top - 2 := wi64_id (by omega) (by omega)
    omega
  have e3 : (intBinR .sub .i64 d.length 1).toNat = d.length - 1 := by
    have : intBinR .sub .i64 (d.length : Int) 1 = d.length - 1 := wi64_id (by omega) (by omega)
    omega
  have e4 : (intBinR .sub .i64 d.length 2).toNat = d.length - 2 := by
    have : intBinR .sub .i64 (d.length : Int) 2 = d.length - 2 := wi64_id (by omega) (by omega)
    omega
  rw [e1, e2, e3, e4, show top.toNat = at_.toNat + d.length by omega]
  exact ⟨hi.in_ hd hn rfl (by omega) h0, rfl⟩

theorem div_same {g : Int} {r : List Int} (hi : DivInv A (lv d) d.length R Q (at_.toNat + 1)) (hd : Lb d) (hn : 2 ≤ d.length) (h0 : d.getD (d.length - 1) 0 ≠ 0) (ha : 0 ≤ at_) (hat : at_ < Q.length)
    (eg : g = guessQ (R.getD (at_.toNat + d.length) 0) (R.getD (at_.toNat + d.length - 1) 0) (R.getD (at_.toNat + d.length - 2) 0) (d.getD (d.length - 1) 0) (d.getD (d.length - 2) 0))
    (hr : LessR R d g at_.toNat r false) : DivInv A (lv d) d.length r (Q.set at_.toNat g) at_.toNat := by
  have ok := guessQ_ok (hi.in_ hd hn rfl (by omega) h0)
  rw [← eg] at ok
  have nr := hi.near hd hn rfl (by omega) h0 ok
  have g2 := lv_ge_last hd (by intro e; rw [e] at hn; simp at hn) h0
  have hD : 0 < lv d := Nat.lt_of_lt_of_le (Nat.pow_pos (by omega)) g2
  have v := hr.val
  have q0 := ok.q0
  have q1 := ok.q1
  exact hi.same (by omega) hD hr.len hr.lb ⟨q0, by omega⟩ nr.1 (by simpa using v)

theorem div_less {g g' : Int} {r1 r : List Int} (hi : DivInv A (lv d) d.length R Q (at_.toNat + 1)) (hd : Lb d) (hn : 2 ≤ d.length) (h0 : d.getD (d.length - 1) 0 ≠ 0) (ha : 0 ≤ at_) (hat : at_ < Q.length)
    (eg : g = guessQ (R.getD (at_.toNat + d.length) 0) (R.getD (at_.toNat + d.length - 1) 0) (R.getD (at_.toNat + d.length - 2) 0) (d.getD (d.length - 1) 0) (d.getD (d.length - 2) 0))
    (hr1 : LessR R d g at_.toNat r1 true) (hr : MoreR r1 d at_.toNat r) (eg' : g' = intBinR .sub .u32 g 1) : DivInv A (lv d) d.length r (Q.set at_.toNat g') at_.toNat := by
  have ok := guessQ_ok (hi.in_ hd hn rfl (by omega) h0)
  rw [← eg] at ok
  have nr := hi.near hd hn rfl (by omega) h0 ok
  have g2 := lv_ge_last hd (by intro e; rw [e] at hn; simp at hn) h0
  have hD : 0 < lv d := Nat.lt_of_lt_of_le (Nat.pow_pos (by omega)) g2
  have v1 := hr1.val
  obtain ⟨c, c0, c1, v⟩ := hr.val
  have q0 := ok.q0
  have q1 := ok.q1
  obtain ⟨p1, p2⟩ := hi.less (by omega) hD (lv_lt hd) (hr.len.trans hr1.len) hr1.lb hr.lb ⟨q0, by omega⟩ nr.2 (fun j hj => (hr.same j hj).trans (hr1.same j hj)) hr1.same ⟨c0, c1⟩ (by simpa using v1) v
  have e : g' = g - 1 := by rw [eg']; show IntKind.u32.wrap (g - 1) = _; rw [wu32]; omega
  rw [e]; exact p2
end

theorem lv_take_of_lt {R : List Int} {n : Nat} (h : n ≤ R.length) (hlt : lv R < 4294967296 ^ n) : lv (R.take n) = lv R := by
  have e := lv_take_drop R n h
  rcases Nat.eq_zero_or_pos (lv (R.drop n)) with h0 | h0
  · rw [h0] at e; omega
  · have : 4294967296 ^ n * 1 ≤ 4294967296 ^ n * lv (R.drop n) := Nat.mul_le_mul_left _ h0
    omega

theorem div_stop {x y R Q : List Int} {k m : Nat} (hy : Lb y) (hyn : y ≠ []) (hy0 : 0 < lv y) (hm : y.length + 1 ≤ m) (hmR : m ≤ R.length) (hlen : (lim (lv y * 2 ^ k)).length = y.length)
    (hi : DivInv (lv x * 2 ^ k) (lv y * 2 ^ k) y.length R Q 0) : lv Q = lv x / lv y ∧ lv (R.take m) / 2 ^ k = lv x % lv y := by
  obtain ⟨s1, s2⟩ := hi.stop
  have p : 0 < 2 ^ k := Nat.two_pow_pos k
  have hlt : lv R < 4294967296 ^ m := by
    have h1 : lv y * 2 ^ k < 4294967296 ^ y.length := by
      have := lv_lt (lim_lb (lv y * 2 ^ k))
      rwa [lv_lim, hlen] at this
    have h2 : (4294967296 : Nat) ^ y.length ≤ 4294967296 ^ m := Nat.pow_le_pow_right (by omega) (by omega)
    have h3 : lv R < lv y * 2 ^ k := by rw [s2]; exact Nat.mod_lt _ (Nat.mul_pos hy0 p)
    omega
  rw [lv_take_of_lt hmR hlt, s1, s2, Nat.mul_div_mul_right _ _ p, Nat.mul_mod_mul_right, Nat.mul_div_cancel _ p]
  exact ⟨rfl, rfl⟩
end Go.Proofs.YtoghalnnmhpfmaaGreat.Ev

/- Contracts: the quotient and the rest of limbs. Printed by gen.py. -/
namespace Go.Proofs.YtoghalnnmhpfmaaGreat.Ev
open Go Go.Proofs
set_option linter.unusedVariables false
set_option linter.unusedSimpArgs false


attribute [local irreducible] Lb
theorem pred_len {y : List Int} (h : 1 ≤ y.length) (h' : y.length < 67108864) : intBinR .sub .i64 (y.length : Int) 1 = y.length - 1 := wi64_id (by omega) (by omega)
def divS (w : Int) (d : List Int) (n1 nq : Int) : Int × List Int × List Int → St := fun p => ⟨[(9, .int .i64 (.s w)), (10, .sli .u32 d), (11, .ms 2 1 (.l 0) (.s n1)), (12, .ms 3 1 (.l 0) (.s nq)), (73, .int .i64 (.s nq)), (74, .int .i64 (.s p.1))],
  [.dead, .ints true .u32 [0, 0], .ints true .u32 p.2.1, .ints true .u32 p.2.2]⟩
structure DivOK (A : Nat) (d : List Int) (qn rn : Nat) (i : Int) (R Q : List Int) : Prop where
  i0 : 0 ≤ i
  i1 : i ≤ qn
  inv : DivInv A (lv d) d.length R Q ((qn : Int) - i).toNat
  ql : Q.length = qn
  rl : R.length = rn
set_option maxHeartbeats 4000000 in
theorem c_natDiv (a b : List Int) (ha : Lb a) (hb : Lb b) (hla : a.length < 33554432) (hlb : b.length < 33554432) : ∃ t : List Int × List Int × Bool, t = (if lv b = 0 then ([], [], false) else (lim (lv a / lv b), lim (lv a % lv b), true)) ∧
    CallsA Tryz.prog 126 [.sli .u32 a, .sli .u32 b] (.tup [.sli .u32 t.1, .sli .u32 t.2.1, .bool (.s t.2.2)]) := by
  refine ⟨_, rfl, ?_⟩
  generalize hr : (if lv b = 0 then ([], [], false) else (lim (lv a / lv b), lim (lv a % lv b), true)) = r
  have hlx := lim_length_le' ha
  have hx := lim_lb (lv a)
  have vx := lv_lim (lv a)
  have lx := (lim_cn (lv a)).last
  have hly := lim_length_le' hb
  have hy := lim_lb (lv b)
  have vy := lv_lim (lv b)
  have ly := (lim_cn (lv b)).last
  obtain ⟨x, ex⟩ : ∃ x, lim (lv a) = x := ⟨_, rfl⟩
  obtain ⟨y, ey⟩ : ∃ y, lim (lv b) = y := ⟨_, rfl⟩
  rw [ex] at hlx hx vx lx
  rw [ey] at hly hy vy ly
  have y0 : y.length = 0 ↔ lv b = 0 := by
    rw [← ey, List.length_eq_zero_iff, lim_eq_nil]
  obtain ⟨m, em⟩ : ∃ m : Int × List Int × List Int → Nat, ∀ p, m p = (x.length + 1 - p.1).toNat := ⟨_, fun _ => rfl⟩
  obtain ⟨ok, eok⟩ : ∃ ok : List Int → Int → Nat → Nat → Int × List Int × List Int → Prop, ∀ d w qn rn p, ok d w qn rn p ↔ DivOK (lv x * 2 ^ w.toNat) d qn rn p.1 p.2.1 p.2.2 := ⟨_, fun _ _ _ _ _ => Iff.rfl⟩
  refine callsA_of hG hm Tryz.func126 (by kernel_rfl) ?_
  intro E hE lp hl
  cbv
  (apply E_callX hE (c_cut a ha (by omega)); (case hf => rfl); (case hc => (cbv <;> trivial)); (case hle => exact ⟨u2_sli, trivial⟩); intro x' hx'; cbv)
  (apply E_callX hE (c_cut b hb (by omega)); (case hf => rfl); (case hc => (cbv <;> trivial)); (case hle => exact ⟨u2_sli, trivial⟩); intro y' hy'; cbv)
  rw [hx'.trans ex, hy'.trans ey]
  clear hx' hy' x' y'
  refine E_br hE (fun h => ?_) (fun h => ?_)
  · have e : lv b = 0 := y0.1 (by subst hE; have := eql_t h; simp only [realE] at this; omega)
    cbv
    rw [← hr, if_pos e]
    exact ⟨rfl, rfl, rfl, trivial⟩
  have hb0 : 0 < lv b := by
    rcases Nat.eq_zero_or_pos (lv b) with e | e
    · exfalso; have := y0.2 e; subst hE; have := eql_f h; simp only [realE] at this; omega
    · exact e
  have ny : y ≠ [] := by intro e; rw [e] at vy; simp only [lv] at vy; omega
  rw [if_neg (by omega)] at hr
  (apply E_callX hE (c_natCmp x y hx hy (by omega) (by omega)); (case hf => rfl); (case hc => (cbv <;> trivial)); (case hle => exact ⟨u2_sli, u2_sli, trivial⟩); intro t ht; cbv)
  rw [vx, vy] at ht
  refine E_br hE (fun h => ?_) (fun h => ?_)
  · have hlt : lv a < lv b := by
      subst hE; have := lss_t h
      rw [ht] at this
      rcases Nat.lt_or_ge (lv a) (lv b) with h1 | h1
      · exact h1
      · rw [if_neg (by omega)] at this; split at this <;> omega
    cbv
    repeat' (first
    | (refine E_br hE (fun h => ?_) (fun h => ?_) <;> cbv)
    | (refine E_nm hE (fun v hv => ?_); cbv)
    | (refine E_nilS hE (fun b hb => ?_); cbv)
    | (apply E_callX hE (c_Clone _ ?_); (case hf => rfl); (case hc => (cbv <;> trivial)); (case hle => exact u_up); all_goals (first | (intro t ht; cbv) | (omega)))
    | fail)
    rw [← hr, Nat.div_eq_of_lt hlt, Nat.mod_eq_of_lt hlt, ex]
    exact ⟨rfl, ‹_›, rfl, trivial⟩
  have hge : lv b ≤ lv a := by
    subst hE; have := lss_f h
    rw [ht] at this
    rcases Nat.lt_or_ge (lv a) (lv b) with h1 | h1
    · rw [if_pos h1] at this; omega
    · exact h1
  refine E_br hE (fun h => ?_) (fun h => ?_)
  · have y1 : y.length = 1 := by subst hE; have := eql_t h; simp only [realE] at this; omega
    have e0 : y = [y.getD 0 0] := by
      obtain ⟨z, hz⟩ := List.length_eq_one_iff.1 y1
      rw [hz]; rfl
    have g0 := hy.getD 0
    have v0 : lv b = (y.getD 0 0).toNat := by
      rw [← vy]
      conv => lhs; rw [e0]
      simp only [lv]; omega
    have p0 : 0 < y.getD 0 0 := by omega
    cbv
    repeat' (first
    | (refine E_br hE (fun h => ?_) (fun h => ?_) <;> cbv)
    | (refine E_nm hE (fun v hv => ?_); cbv)
    | (refine E_nilS hE (fun b hb => ?_); cbv)
    | (apply E_callX hE (c_short x _ hx ?_ ?_ ?_); (case hf => rfl); (case hc => (cbv <;> trivial)); (case hle => exact u_up); all_goals (first | (intro t ht; cbv) | ((subst hE; first | omega | exact p0 | exact g0.2))))
    | fail)
    · subst hE
      have ht' : t = (lim (lv x / (y.getD 0 0).toNat), lim (lv x % (y.getD 0 0).toNat)) := ht
      rw [ht', ← hr, vx, ← v0]; exact ⟨rfl, rfl, rfl, trivial⟩
    · subst hE; have := lss_f h; simp only [realE] at this; omega
  have y2 : 2 ≤ y.length := by
    have h1 : 0 < y.length := List.length_pos_iff.2 ny
    subst hE; have := eql_f h; simp only [realE] at this; omega
  have nx : x ≠ [] := by intro e; rw [e] at vx; simp only [lv] at vx; omega
  have xy : y.length ≤ x.length := by
    rw [← ex, ← ey]
    rcases Nat.lt_or_ge (lim (lv a)).length (lim (lv b)).length with h1 | h1
    · have := lim_len_lt h1; omega
    · exact h1
  have gl := hy.getD (y.length - 1)
  have g1 : E.get y (E.bin .sub .i64 (E.len y) 1) = y.getD (y.length - 1) 0 := by
    subst hE
    show y.getD (intBinR .sub .i64 (y.length : Int) 1).toNat 0 = _
    rw [pred_len (by omega) (by omega), show ((y.length : Int) - 1).toNat = y.length - 1 by omega]
  cbv
  refine E_br hE (fun h => ?_) (fun h => ?_)
  rotate_left
  · exfalso; subst hE; have := leq_f h; change ¬ 0 ≤ intBinR .sub .i64 (y.length : Int) 1 at this; rw [pred_len (by omega) (by omega)] at this; omega
  cbv
  refine E_br hE (fun h => ?_) (fun h => ?_)
  rotate_left
  · exfalso; subst hE; have := lss_f h; change ¬ intBinR .sub .i64 (y.length : Int) 1 < (y.length : Int) at this; rw [pred_len (by omega) (by omega)] at this; omega
  cbv
  (apply E_callX hE (c_LZ32 (E.get y (E.bin .sub .i64 (E.len y) 1)) (by rw [g1]; exact gl.1) (by rw [g1]; exact gl.2)); (case hf => rfl); (case hc => (cbv <;> trivial)); (case hle => exact ⟨u2_int, trivial⟩); intro t1 ht1; cbv)
  refine E_nm hE (fun w hw => ?_)
  have ew : w = 32 - blen (y.getD (y.length - 1) 0) := by rw [hw, ht1, g1]
  have w0 := (norm_len hy ny (ly ny) ew).1
  have w1 := (norm_len hy ny (ly ny) ew).2.1
  have dl := (norm_len hy ny (ly ny) ew).2.2
  clear hw ew ht1
  cbv
  (apply E_callX hE (c_natShl y w hy (by omega)); (case hf => rfl); (case hc => (cbv <;> trivial)); (case hle => exact ⟨u2_sli, u2_int, trivial⟩); intro d hd; cbv)
  have ed : d = lim (lv y * 2 ^ w.toNat) := by
    rw [hd]
    split
    · rw [show w.toNat = 0 by omega, Nat.pow_zero, Nat.mul_one]
    · rw [if_neg (by omega)]
  have ld : Lb d := ed ▸ lim_lb _
  have vd : lv d = lv y * 2 ^ w.toNat := by rw [ed, lv_lim]
  have nd : d.length = y.length := by rw [ed]; exact dl
  have d0 : d.getD (d.length - 1) 0 ≠ 0 := by
    rw [ed]
    refine (lim_cn _).last ?_
    intro e; rw [e] at dl; simp only [List.length_nil] at dl; omega
  have ds := div_start (k := w.toNat) hx hy nx ny (lx nx) (ly ny) xy
  clear lx ly hd
  refine E_callH hE (h_Shl x w hx (by omega) (by omega) w0 (by omega)) ?_
  intro v h1 hv
  obtain ⟨L, k, hv⟩ := hv
  rw [hv.1, hv.2.1]
  have k0 := hv.2.2.1
  have k1 := hv.2.2.2.1
  have k2 := hv.2.2.2.2.1
  have k3 := hv.2.2.2.2.2
  clear hv h1 v
  have kl : k.toNat = (lim (lv x * 2 ^ w.toNat)).length := by
    have := congrArg List.length k2
    rw [List.length_take] at this; omega
  have kx : (x.length : Int) + 1 ≤ k + 2 := by
    have := ds.lenr
    simp only [List.length_replicate, List.length_append, List.length_cons, List.length_nil] at this
    omega
  have kR : k ≤ 134217728 := by omega
  have kb : (lim (lv x * 2 ^ w.toNat)).length ≤ x.length + 1 := by
    apply lim_length_le
    have h1 := lv_lt hx
    have h2 : 2 ^ w.toNat ≤ 4294967296 := two_pow_le (by omega)
    rw [Nat.pow_succ]
    have h3 : lv x * 2 ^ w.toNat ≤ lv x * 4294967296 := Nat.mul_le_mul_left _ h2
    omega
  rw [← vd, ← nd] at ds
  obtain ⟨qn, hqn⟩ : ∃ qn, qn = x.length - d.length + 1 := ⟨_, rfl⟩
  obtain ⟨rn, hrn⟩ : ∃ rn, rn = k.toNat + 2 := ⟨_, rfl⟩
  have start : DivOK (lv x * 2 ^ w.toNat) d qn rn 0 (((L.drop (0 : Int).toNat).take k.toNat) ++ [0, 0]) (List.replicate qn 0) := by
    refine ⟨Int.le_refl _, by omega, ?_, by simp, ?_⟩
    · rw [← hqn] at ds
      rw [show (0 : Int).toNat = 0 by rfl, List.drop_zero, k2, show ((qn : Int) - 0).toNat = qn by omega]
      exact ds
    · rw [show (0 : Int).toNat = 0 by rfl, List.drop_zero, k2, List.length_append, ← kl]
      rw [hrn]; rfl
  have rn1 : x.length + 1 ≤ rn := by omega
  have rn2 : rn < 67108870 := by omega
  have fin : ∀ i R Q, DivOK (lv x * 2 ^ w.toNat) d qn rn i R Q → ¬ i < qn → Lb Q ∧ Q.length = qn ∧ Lb (R.take (x.length + 1)) ∧ (R.take (x.length + 1)).length = x.length + 1 ∧ (lim (lv Q), lim (lv (R.take (x.length + 1)) / 2 ^ w.toNat), true) = r := by
    intro i R Q o hi
    have hi' : ((qn : Int) - i).toNat = 0 := by have := o.i1; omega
    have inv := o.inv
    rw [hi', vd, nd] at inv
    have rl := o.rl
    obtain ⟨f1, f2⟩ := div_stop hy ny (by omega) (m := x.length + 1) (by omega) (by omega) dl inv
    refine ⟨inv.lbq, o.ql, inv.lbr.take _, by rw [List.length_take]; omega, ?_⟩
    rw [f1, f2, vx, vy, hr]
  have nqv : intBinR .add .i64 (intBinR .sub .i64 (x.length : Int) y.length) 1 = qn := by
    have e : intBinR .sub .i64 (x.length : Int) y.length = x.length - y.length := wi64_id (by omega) (by omega)
    have e2 : intBinR .add .i64 ((x.length : Int) - y.length) 1 = x.length - y.length + 1 := wi64_id (by omega) (by omega)
    rw [e, e2, hqn]; omega
  have n1v : intBinR .add .i64 (x.length : Int) 1 = (x.length + 1 : Nat) := by
    have e2 : intBinR .add .i64 (x.length : Int) 1 = x.length + 1 := wi64_id (by omega) (by omega)
    rw [e2]; rfl
  have qn1 : qn < 67108864 := by omega
  have d2 : 2 ≤ d.length := by omega
  have dx : d.length ≤ x.length := by omega
  have xyI : (y.length : Int) ≤ x.length := by omega
  have y2I : (2 : Int) ≤ y.length := by omega
  have xI : (x.length : Int) < 33554432 := by omega
  cbv
  repeat' (first
    | (refine E_br hE (fun h => ?_) (fun h => ?_) <;> cbv)
    | (refine E_nm hE (fun v hv => ?_); cbv)
    | (refine E_nilS hE (fun b hb => ?_); cbv)
    | fail)
  all_goals (try (exfalso; clear start ds dl d0 kl k2 ed vd fin nqv n1v; subst hE; simp only [NatCast.natCast, Int.ofNat_eq_natCast, realE, cmp_eql, cmp_neq, cmp_lss, cmp_leq, cmp_gtr, cmp_geq, intBinR, decide_eq_true_eq, decide_eq_false_iff_not, SI.val, SB.val, Num.eta, Iv.eta] at *; (try simp only [wi64] at *); omega))
  clear ds dl kl k2 ed vd g1 gl k0 k1 k3 kx kR kb
  refine E_loop hE hG hm hl (divS w d (E.bin .add .i64 (E.len x) 1) (E.bin .add .i64 (E.bin .sub .i64 (E.len x) (E.len y)) 1)) m (ok d w qn rn)
    ⟨(0, E.app (E.sub L 0 k) (E.sub [0, 0] 0 (Int.ofNat 2)), E.rep (E.bin .add .i64 (E.bin .sub .i64 (E.len x) (E.len y)) 1)), (eok _ _ _ _ _).2 ?_, stLe rfl ?_⟩ ?_
  · subst hE
    have e : (realE Tryz.prog).bin .add .i64 ((realE Tryz.prog).bin .sub .i64 ((realE Tryz.prog).len x) ((realE Tryz.prog).len y)) 1 = (qn : Int) := nqv
    rw [e]
    exact start
  · (repeat' (first | exact t_nil | apply t_cons | exact u2_sli | exact u2_int | exact u2_bool | exact u2_ms | exact u2_ptr | exact (rfl : sle2 .s0 .s0)))
  clear start
  rintro ⟨i, R, Q⟩ hok
  have o : DivOK (lv x * 2 ^ w.toNat) d qn rn i R Q := (eok _ _ _ _ _).1 hok
  have fin' := fin i R Q o
  have i0 := o.i0
  have i1 := o.i1
  clear hok fin ht
  cbv
  repeat' (first
    | (refine E_br hE (fun h => ?_) (fun h => ?_) <;> cbv)
    | (refine E_nm hE (fun v hv => ?_); cbv)
    | (refine E_nilS hE (fun b hb => ?_); cbv)
    | fail)
  all_goals (try (exfalso; clear fin' em eok o nqv n1v; subst hE; simp only [NatCast.natCast, Int.ofNat_eq_natCast, realE, cmp_eql, cmp_neq, cmp_lss, cmp_leq, cmp_gtr, cmp_geq, intBinR, decide_eq_true_eq, decide_eq_false_iff_not, SI.val, SB.val, Num.eta, Iv.eta] at *; (try simp only [wi64] at *); omega))
  rotate_left
  · simp only [NatCast.natCast, Int.ofNat_eq_natCast] at nqv n1v
    have hge : ¬ i < (qn : Int) := by
      subst hE
      have q : ¬ i < intBinR .add .i64 (intBinR .sub .i64 (x.length : Int) y.length) 1 := lss_f h
      rw [nqv] at q
      exact q
    have f1 := (fin' hge).1
    have f2 := (fin' hge).2.1
    have f3 := (fin' hge).2.2.1
    have f4 := (fin' hge).2.2.2.1
    have f5 := (fin' hge).2.2.2.2
    have e1 : E.sub Q 0 (E.bin .add .i64 (E.bin .sub .i64 (E.len x) (E.len y)) 1) = Q := by
      subst hE
      show (Q.drop (0 : Int).toNat).take (intBinR .add .i64 (intBinR .sub .i64 (x.length : Int) y.length) 1).toNat = Q
      rw [nqv]
      exact sub_all (by rw [f2])
    have e2 : E.sub R 0 (E.bin .add .i64 (E.len x) 1) = R.take (x.length + 1) := by
      subst hE
      show (R.drop (0 : Int).toNat).take (intBinR .add .i64 (x.length : Int) 1).toNat = _
      rw [n1v, Int.toNat_natCast]; rfl
    clear fin' o em eok
    (apply E_callX hE (c_cut (E.sub Q 0 (E.bin .add .i64 (E.bin .sub .i64 (E.len x) (E.len y)) 1)) (by rw [e1]; exact f1) (by rw [e1, f2]; omega)); (case hf => rfl); (case hc => (cbv <;> trivial)); (case hle => exact ⟨u2_sli, trivial⟩); intro q hq; cbv)
    (apply E_callX hE (c_natShr (E.sub R 0 (E.bin .add .i64 (E.len x) 1)) w (by rw [e2]; exact f3) (by rw [e2, f4]; omega)); (case hf => rfl); (case hc => (cbv <;> trivial)); (case hle => exact ⟨u2_sli, u2_int, trivial⟩); intro q2 hq2; cbv)
    rw [← f5]
    rw [e1] at hq
    rw [e2] at hq2
    exact ⟨hq, hq2, rfl, trivial⟩
  rename_i i' ei at_ eat _ _ _ _ _ _ _ _ _
  simp only [NatCast.natCast, Int.ofNat_eq_natCast] at nqv n1v xyI y2I xI
  have hi : i < (qn : Int) := by
    subst hE
    have q : i < intBinR .add .i64 (intBinR .sub .i64 (x.length : Int) y.length) 1 := lss_t ‹(realE Tryz.prog).cmp .lss i _ = true›
    rw [nqv] at q
    exact q
  have nqE : E.bin .add .i64 (E.bin .sub .i64 (E.len x) (E.len y)) 1 = qn := by subst hE; exact nqv
  have n1E : E.bin .add .i64 (E.len x) 1 = (x.length + 1 : Nat) := by subst hE; exact n1v
  have hat : at_ = qn - 1 - i := by
    rw [nqE] at eat
    subst hE
    rw [← o.ql] at eat ⊢
    exact div_at (by rw [o.ql]; omega) o.i0 (by rw [o.ql]; exact hi) ei eat
  have i0 := o.i0
  have a0 : 0 ≤ at_ := by omega
  have a1 : at_ < Q.length := by rw [o.ql]; omega
  have a2 : at_ + d.length < ((x.length + 1 : Nat) : Int) := by omega
  have a3 : ((x.length + 1 : Nat) : Int) ≤ R.length := by rw [o.rl]; omega
  have a4 : R.length < 134217728 := by rw [o.rl]; omega
  have inv : DivInv (lv x * 2 ^ w.toNat) (lv d) d.length R Q (at_.toNat + 1) := by
    have := o.inv
    rwa [show ((qn : Int) - i).toNat = at_.toNat + 1 by omega] at this
  have etop := hv
  have dg : GuessIn (E.get R v) (E.get R (E.bin .sub .i64 v 1)) (E.get R (E.bin .sub .i64 v 2)) (E.get d (E.bin .sub .i64 (E.len d) 1)) (E.get d (E.bin .sub .i64 (E.len d) 2)) ∧
      guessQ (E.get R v) (E.get R (E.bin .sub .i64 v 1)) (E.get R (E.bin .sub .i64 v 2)) (E.get d (E.bin .sub .i64 (E.len d) 1)) (E.get d (E.bin .sub .i64 (E.len d) 2)) =
        guessQ (R.getD (at_.toNat + d.length) 0) (R.getD (at_.toNat + d.length - 1) 0) (R.getD (at_.toNat + d.length - 2) 0) (d.getD (d.length - 1) 0) (d.getD (d.length - 2) 0) := by
    subst hE
    exact div_guess inv ld d2 d0 a4 a0 a1 etop
  have gq := guessQ_ok dg.1
  (apply E_pcallX hE (c_guess _ _ _ _ _ dg.1); (case hm => rfl); (case hle => exact ⟨u2_int, u2_int, u2_int, u2_int, u2_int, trivial⟩); intro g hg)
  have g0 : 0 ≤ g ∧ g < 4294967296 := by rw [hg]; exact ⟨gq.q0, by have := gq.q1; omega⟩
  have eg := hg.trans dg.2
  clear dg gq hg
  have j1 : ∀ j, j = intBinR .add .i64 i 1 → j = i + 1 := fun j e => e.trans (wi64_id (by omega) (by omega))
  have lbR := inv.lbr
  have next : ∀ (j : Int) (r' : List Int) (g' : Int), j = intBinR .add .i64 i 1 → r'.length = R.length → DivInv (lv x * 2 ^ w.toNat) (lv d) d.length r' (Q.set at_.toNat g') at_.toNat →
      m (j, r', Q.set at_.toNat g') < m (i, R, Q) ∧ ok d w qn rn (j, r', Q.set at_.toNat g') := by
    intro j r' g' ej hl hi'
    have ej := j1 j ej
    refine ⟨by rw [em, em]; show ((x.length : Int) + 1 - j).toNat < ((x.length : Int) + 1 - i).toNat; omega, (eok _ _ _ _ _).2 ⟨by show 0 ≤ j; omega, by show j ≤ (qn : Int); omega, ?_, by rw [List.length_set]; exact o.ql, hl.trans o.rl⟩⟩
    show DivInv _ _ _ _ _ ((qn : Int) - j).toNat
    rw [show ((qn : Int) - j).toNat = at_.toNat by omega]
    exact hi'
  have n1a : at_ + d.length < E.bin .add .i64 (E.len x) 1 := by rw [n1E]; exact a2
  have n1b : E.bin .add .i64 (E.len x) 1 ≤ R.length := by rw [n1E]; exact a3
  have a5 : at_ + d.length < R.length := by omega
  have aq : at_ < E.bin .add .i64 (E.bin .sub .i64 (E.len x) (E.len y)) 1 := by rw [nqE]; omega
  cbv
  refine E_nm hE (fun g' hg' => ?_)
  rw [hg']
  clear hg' g'
  cbv
  refine E_callH hE (h_less d [0, 0] R Q g at_ (E.bin .add .i64 (E.len x) 1) ld lbR g0 a4 a0 a5 n1a n1b) ?_
  intro v1 h1 hv1
  obtain ⟨r1, bb, hv1⟩ := hv1
  have lr := hv1.2.2
  rw [hv1.1, hv1.2.1]
  clear hv1 v1 h1
  refine E_br hE (fun hb1 => ?_) (fun hb1 => ?_)
  · have lr1 : LessR R d g at_.toNat r1 true := hb1 ▸ lr
    have l1 := lr1.len
    cbv
    refine E_nm hE (fun g' hg' => ?_)
    cbv
    refine E_callH hE (h_more d [0, 0] r1 Q at_ (E.bin .add .i64 (E.len x) 1) ld lr1.lb (by rw [l1]; exact a4) a0 (by rw [l1]; exact a5) n1a (by rw [l1]; exact n1b)) ?_
    intro v1 h1 hv1
    obtain ⟨r2, hv1⟩ := hv1
    have mr := hv1.2.2
    rw [hv1.1, hv1.2.1]
    clear hv1 v1 h1
    have dn := fun e => div_less inv ld d2 d0 a0 a1 eg lr1 mr (g' := g') e
    have l2 := mr.len.trans l1
    cbv
    repeat' (first
    | (refine E_br hE (fun h => ?_) (fun h => ?_) <;> cbv)
    | (refine E_nm hE (fun v hv => ?_); cbv)
    | (refine E_nilS hE (fun b hb => ?_); cbv)
    | fail)
    all_goals (try refine ⟨(E.bin .add .i64 i 1, r2, E.set Q at_ g'), ?_, ?_, stLe rfl ?_⟩)
    all_goals (try ((repeat' (first | exact t_nil | apply t_cons | exact u2_sli | exact u2_int | exact u2_bool | exact u2_ms | exact u2_ptr | exact (rfl : sle2 .s0 .s0))); done))
    all_goals (subst hE)
    · exact (next _ r2 g' rfl l2 (dn hg')).1
    · exact (next _ r2 g' rfl l2 (dn hg')).2
    all_goals (first | exact absurd a0 (leq_f h) | exact absurd aq (lss_f h))
  · have lr1 : LessR R d g at_.toNat r1 false := hb1 ▸ lr
    have dn := div_same inv ld d2 d0 a0 a1 eg lr1
    have l1 := lr1.len
    cbv
    repeat' (first
    | (refine E_br hE (fun h => ?_) (fun h => ?_) <;> cbv)
    | (refine E_nm hE (fun v hv => ?_); cbv)
    | (refine E_nilS hE (fun b hb => ?_); cbv)
    | fail)
    all_goals (try refine ⟨(E.bin .add .i64 i 1, r1, E.set Q at_ g), ?_, ?_, stLe rfl ?_⟩)
    all_goals (try ((repeat' (first | exact t_nil | apply t_cons | exact u2_sli | exact u2_int | exact u2_bool | exact u2_ms | exact u2_ptr | exact (rfl : sle2 .s0 .s0))); done))
    all_goals (subst hE)
    · exact (next _ r1 g rfl l1 dn).1
    · exact (next _ r1 g rfl l1 dn).2
    all_goals (first | exact absurd a0 (leq_f h) | exact absurd aq (lss_f h))
  all_goals trace_state

end Go.Proofs.YtoghalnnmhpfmaaGreat.Ev

/- Contracts: the product of limbs. Printed by gen.py. -/
namespace Go.Proofs.YtoghalnnmhpfmaaGreat.Ev
open Go Go.Proofs
set_option linter.unusedVariables false
set_option linter.unusedSimpArgs false


attribute [local irreducible] Lb
def mulO (E : Env) (a b : List Int) : Int × List Int → St := fun p => ⟨[(0, .sli .u32 a), (1, .sli .u32 b), (5, .ms 0 1 (.l 0) (.s (E.bin .add .i64 (E.len a) (E.len b)))), (18, .sli .u32 a), (19, .int .i64 (.s (E.len a))), (20, .int .i64 (.s p.1))], [.ints true .u32 p.2]⟩
def mulI (E : Env) (a b : List Int) (i i' x : Int) : Int × Int × List Int → St := fun p => ⟨[(0, .sli .u32 a), (1, .sli .u32 b), (5, .ms 0 1 (.l 0) (.s (E.bin .add .i64 (E.len a) (E.len b)))), (18, .sli .u32 a), (19, .int .i64 (.s (E.len a))), (20, .int .i64 (.s i)),
   (6, .int .i64 (.s i')), (7, .int .u32 (.s x)), (8, .int .u64 (.s p.2.1)), (25, .sli .u32 b), (26, .int .i64 (.s (E.len b))), (27, .int .i64 (.s p.1))], [.ints true .u32 p.2.2]⟩
set_option maxHeartbeats 1000000 in
theorem c_natMul (a b : List Int) (ha : Lb a) (hb : Lb b) (hla : a.length < 134217728) (hlb : b.length < 134217728) : ∃ t : List Int, t = lim (lv a * lv b) ∧ CallsA Tryz.prog 130 [.sli .u32 a, .sli .u32 b] (.sli .u32 t) := by
  refine ⟨_, rfl, ?_⟩
  generalize hr : lim (lv a * lv b) = r
  have h32 : IntKind.i64.wrap ((a.length : Int) + b.length) = a.length + b.length := wi64_id (by omega) (by omega)
  obtain ⟨m, em⟩ : ∃ m : Int × List Int → Nat, ∀ p, m p = (a.length - p.1).toNat := ⟨_, fun _ => rfl⟩
  obtain ⟨ok, eok⟩ : ∃ ok : Int × List Int → Prop, ∀ p, ok p ↔ 0 ≤ p.1 ∧ p.1 ≤ a.length ∧ MulInv a b p.2 p.1.toNat 0 0 := ⟨_, fun _ => Iff.rfl⟩
  obtain ⟨m2, em2⟩ : ∃ m : Int × Int × List Int → Nat, ∀ p, m p = (b.length - p.1).toNat := ⟨_, fun _ => rfl⟩
  obtain ⟨ok2, eok2⟩ : ∃ ok : Int → Int × Int × List Int → Prop, ∀ i p, ok i p ↔ 0 ≤ p.1 ∧ p.1 ≤ b.length ∧ MulInv a b p.2.2 i.toNat p.1.toNat p.2.1 := ⟨_, fun _ _ => Iff.rfl⟩
  refine callsA_of hG hm Tryz.func130 (by kernel_rfl) ?_
  intro E hE lp hl
  cbv
  repeat' (first
    | (refine E_br hE (fun h => ?_) (fun h => ?_) <;> cbv)
    | (refine E_nm hE (fun v hv => ?_); cbv)
    | (refine E_nilS hE (fun b hb => ?_); cbv)
    | fail)
  all_goals (try (exfalso; subst hE; simp only [NatCast.natCast, Int.ofNat_eq_natCast, realE, cmp_eql, cmp_neq, cmp_lss, cmp_leq, cmp_gtr, cmp_geq, intBinR, decide_eq_true_eq, decide_eq_false_iff_not, SI.val, SB.val, Num.eta, Iv.eta] at *; rw [h32] at *; omega))
  refine E_loop hE hG hm hl (mulO E a b) m ok ⟨(0, E.rep (E.bin .add .i64 (E.len a) (E.len b))), (eok _).2 ?_, stLe rfl ?_⟩ ?_
  · refine ⟨by show (0 : Int) ≤ 0; omega, by show (0 : Int) ≤ a.length; omega, ?_⟩
    have := MulInv.start a b
    subst hE; simp only [NatCast.natCast, Int.ofNat_eq_natCast, realE, cmp_eql, cmp_neq, cmp_lss, cmp_leq, cmp_gtr, cmp_geq, intBinR, decide_eq_true_eq, decide_eq_false_iff_not, SI.val, SB.val, Num.eta, Iv.eta] at *; rw [h32]
    exact this
  · (repeat' (first | exact t_nil | apply t_cons | exact u2_sli | exact u2_int | exact u2_bool | exact u2_ms | exact u2_ptr | exact (rfl : sle2 .s0 .s0)))
  rintro ⟨i, out⟩ hok
  obtain ⟨h1, h2, inv⟩ := (eok _).1 hok
  dsimp only at h1 h2 inv
  simp only [NatCast.natCast, Int.ofNat_eq_natCast] at h2 em eok em2 eok2
  have hol := inv.len
  have fin : ¬ i < a.length → Lb out ∧ lim (lv out) = r := by
    intro h
    rw [show i.toNat = a.length by omega] at inv
    exact ⟨inv.lb, by rw [inv.stop, hr]⟩
  clear hr hok
  cbv
  repeat' (first
    | (refine E_br hE (fun h => ?_) (fun h => ?_) <;> cbv)
    | (refine E_nm hE (fun v hv => ?_); cbv)
    | (refine E_nilS hE (fun b hb => ?_); cbv)
    | (apply E_callX hE (c_cut _ ?_ ?_); (case hf => rfl); (case hc => (cbv <;> trivial)); (case hle => exact u_up); all_goals (first | (intro t ht; cbv) | ((subst hE; simp only [NatCast.natCast, Int.ofNat_eq_natCast, realE, cmp_eql, cmp_neq, cmp_lss, cmp_leq, cmp_gtr, cmp_geq, intBinR, decide_eq_true_eq, decide_eq_false_iff_not, SI.val, SB.val, Num.eta, Iv.eta] at *; rw [h32] at *; rw [sub_all (by omega)]; first | exact (fin ‹_›).1 | omega))))
    | fail)
  case hK => subst hE; simp only [NatCast.natCast, Int.ofNat_eq_natCast, realE, cmp_eql, cmp_neq, cmp_lss, cmp_leq, cmp_gtr, cmp_geq, intBinR, decide_eq_true_eq, decide_eq_false_iff_not, SI.val, SB.val, Num.eta, Iv.eta] at *; rw [‹t = _›, h32, sub_all (by omega), (fin ‹_›).2]
  all_goals (try (exfalso; subst hE; simp only [NatCast.natCast, Int.ofNat_eq_natCast, realE, cmp_eql, cmp_neq, cmp_lss, cmp_leq, cmp_gtr, cmp_geq, intBinR, decide_eq_true_eq, decide_eq_false_iff_not, SI.val, SB.val, Num.eta, Iv.eta] at *; clear fin; rw [h32] at *; omega))
  rename_i i' ei
  have ex := hv
  clear hv
  have hilt : i < a.length := by subst hE; exact lss_t ‹_›
  refine E_loop hE hG hm hl (mulI E a b i i' v) m2 (ok2 i) ⟨(0, 0, out), (eok2 _ _).2 ⟨by show (0 : Int) ≤ 0; omega, by show (0 : Int) ≤ b.length; omega, inv⟩, stLe rfl ?_⟩ ?_
  · (repeat' (first | exact t_nil | apply t_cons | exact u2_sli | exact u2_int | exact u2_bool | exact u2_ms | exact u2_ptr | exact (rfl : sle2 .s0 .s0)))
  rintro ⟨k, c, out⟩ hok
  have h3 : 0 ≤ k := ((eok2 _ _).1 hok).1
  have h4 : k ≤ b.length := ((eok2 _ _).1 hok).2.1
  have inv2 : MulInv a b out i.toNat k.toNat c := ((eok2 _ _).1 hok).2.2
  have hol2 := inv2.len
  clear inv hol fin
  cbv
  repeat' (first
    | (refine E_br hE (fun h => ?_) (fun h => ?_) <;> cbv)
    | (refine E_nm hE (fun v hv => ?_); cbv)
    | (refine E_nilS hE (fun b hb => ?_); cbv)
    | fail)
  all_goals (try refine ⟨(E.bin .add .i64 k 1, v, E.set out (E.bin .add .i64 i' _) (E.conv .u32 _)), ?_, ?_, stLe rfl ?_⟩)
  all_goals (try refine ⟨(E.bin .add .i64 i 1, E.set out (E.bin .add .i64 i' (E.len b)) (E.conv .u32 c)), ?_, ?_, stLe rfl ?_⟩)
  all_goals (try ((repeat' (first | exact t_nil | apply t_cons | exact u2_sli | exact u2_int | exact u2_bool | exact u2_ms | exact u2_ptr | exact (rfl : sle2 .s0 .s0))); done))
  all_goals (subst hE)
  all_goals (try (first | (rw [em2, em2]; exact (mul_next ha hb hla hlb h1 hilt h3 (lss_t ‹_›) inv2 ei ‹_› ex ‹_› ‹_› ‹_› rfl).2.2.1) | (rw [eok2]; have q := mul_next ha hb hla hlb h1 hilt h3 (lss_t ‹_›) inv2 ei ‹_› ex ‹_› ‹_› ‹_› rfl; exact ⟨q.1, q.2.1, q.2.2.2⟩) | (rw [em, em]; exact (mul_exit hla hlb h1 hilt h4 (lss_f ‹_›) inv2 ei rfl).2.2.1) | (rw [eok]; have q := mul_exit hla hlb h1 hilt h4 (lss_f ‹_›) inv2 ei rfl; exact ⟨q.1, q.2.1, q.2.2.2⟩)))
  all_goals (clear inv2 hok eok eok2 em em2; simp only [NatCast.natCast, Int.ofNat_eq_natCast, realE, cmp_eql, cmp_neq, cmp_lss, cmp_leq, cmp_gtr, cmp_geq, intBinR, decide_eq_true_eq, decide_eq_false_iff_not, SI.val, SB.val, Num.eta, Iv.eta] at *; (try rw [h32] at *); clear h32; (try simp only [wi64] at *); omega)

end Go.Proofs.YtoghalnnmhpfmaaGreat.Ev

/- The greatest number whose square is not greater, by Newton's steps: sizes. -/
namespace Go.Proofs.YtoghalnnmhpfmaaGreat.Ev
open Go

structure RootOK (a s0 s : Nat) : Prop where
  pos : 0 < s
  up : a < (s + 1) * (s + 1)
  le : s ≤ s0

theorem root_first {x : List Int} (hx : Lb x) (hl : x.length < 524288) (hpos : 0 < lv x) : 1 ≤ (blen (lv x) + 1) / 2 ∧ (blen (lv x) + 1) / 2 ≤ 16777216 ∧ RootOK (lv x) (2 ^ ((blen (lv x) + 1) / 2).toNat) (2 ^ ((blen (lv x) + 1) / 2).toNat) := by
  obtain ⟨n, q1, q2, q3⟩ := blen_pos (x := (lv x : Int)) (by omega)
  have e1 : ((2 ^ n : Nat) : Int) = (2 : Int) ^ n := by push_cast; rfl
  have e2 : ((2 ^ (n + 1) : Nat) : Int) = (2 : Int) ^ (n + 1) := by push_cast; rfl
  rw [← e1] at q2
  rw [← e2] at q3
  have h2 : 2 ^ n ≤ lv x := by omega
  have h3 : lv x < 2 ^ (n + 1) := by omega
  have hn : n < 32 * x.length := by
    rcases Nat.lt_or_ge n (32 * x.length) with h | h
    · exact h
    · exfalso
      have b1 := lv_lt hx
      have b2 : (4294967296 : Nat) ^ x.length = 2 ^ (32 * x.length) := by rw [show (4294967296 : Nat) = 2 ^ 32 by rfl, ← Nat.pow_mul]
      have b3 : 2 ^ (32 * x.length) ≤ 2 ^ n := Nat.pow_le_pow_right (by omega) h
      omega
  rw [q1]
  refine ⟨by omega, by omega, Nat.two_pow_pos _, ?_, Nat.le_refl _⟩
  have e : ((n : Int) + 1 + 1) / 2 = ((n / 2 + 1 : Nat) : Int) := by omega
  rw [e, Int.toNat_natCast]
  have h4 : 2 ^ (n + 1) ≤ 2 ^ (n / 2 + 1) * 2 ^ (n / 2 + 1) := by
    rw [← Nat.pow_add]
    exact Nat.pow_le_pow_right (by omega) (by omega)
  have h5 : 2 ^ (n / 2 + 1) * 2 ^ (n / 2 + 1) ≤ (2 ^ (n / 2 + 1) + 1) * (2 ^ (n / 2 + 1) + 1) := Nat.mul_le_mul (by omega) (by omega)
  omega

theorem lim_len_two {s n M : Nat} (h1 : s ≤ 2 ^ n) (hn : n ≤ 32 * M) : (lim s).length ≤ M + 1 := by
  apply lim_length_le
  have h2 : 2 ^ n ≤ 2 ^ (32 * M) := Nat.pow_le_pow_right (by omega) hn
  have h3 : (2 : Nat) ^ (32 * M) < 2 ^ (32 * (M + 1)) := Nat.pow_lt_pow_right (by omega) (by omega)
  have h4 : (4294967296 : Nat) ^ (M + 1) = 2 ^ (32 * (M + 1)) := by rw [Nat.pow_mul]
  rw [h4]
  omega
theorem RootOK.len {a s0 s : Nat} {n : Nat} (h : RootOK a s0 s) (e : s0 = 2 ^ n) (hn : n ≤ 16777216) : (lim s).length ≤ 524289 :=
  lim_len_two (by rw [← e]; exact h.le) (by omega)

theorem lim_add_len {m n k : Nat} (hm : (lim m).length ≤ k) (hn : (lim n).length ≤ k) : (lim (m + n)).length ≤ k + 1 := by
  have h1 := lv_lt (lim_lb m)
  have h2 := lv_lt (lim_lb n)
  rw [lv_lim] at h1 h2
  have h3 : (4294967296 : Nat) ^ (lim m).length ≤ 4294967296 ^ k := Nat.pow_le_pow_right (by omega) hm
  have h4 : (4294967296 : Nat) ^ (lim n).length ≤ 4294967296 ^ k := Nat.pow_le_pow_right (by omega) hn
  apply lim_length_le
  rw [Nat.pow_succ]
  omega
theorem lim_mono {m n : Nat} (h : m ≤ n) : (lim m).length ≤ (lim n).length := by
  have h1 := lv_lt (lim_lb n)
  rw [lv_lim] at h1
  exact lim_length_le (by omega)
theorem lim_mul_len {m n : Nat} : (lim (m * n)).length ≤ (lim m).length + (lim n).length := by
  have h1 := lv_lt (lim_lb m)
  have h2 := lv_lt (lim_lb n)
  rw [lv_lim] at h1 h2
  apply lim_length_le
  rw [Nat.pow_add]
  exact Nat.mul_lt_mul'' h1 h2

theorem RootOK.next {a s0 s : Nat} (ha : 0 < a) (h : RootOK a s0 s) (hlt : (s + a / s) / 2 < s) : RootOK a s0 ((s + a / s) / 2) :=
  ⟨newton_pos ha h.pos, newton_step h.pos, by have := h.le; omega⟩
theorem RootOK.stop {a s0 s : Nat} (h : RootOK a s0 s) (hlt : ¬ (s + a / s) / 2 < s) : nsqrt a = s :=
  nsqrt_eq (newton_stop h.pos (by omega)) h.up
end Go.Proofs.YtoghalnnmhpfmaaGreat.Ev

/- Contracts: the root of limbs. Printed by gen.py. -/
namespace Go.Proofs.YtoghalnnmhpfmaaGreat.Ev
open Go Go.Proofs
set_option linter.unusedVariables false
set_option linter.unusedSimpArgs false


attribute [local irreducible] Lb
set_option maxHeartbeats 2000000 in
theorem c_natRoot (a : List Int) (ha : Lb a) (hla : a.length < 524288) : ∃ t : List Int × Bool, t = (lim (nsqrt (lv a)), decide (nsqrt (lv a) * nsqrt (lv a) = lv a)) ∧
    CallsA Tryz.prog 92 [.sli .u32 a] (.tup [.sli .u32 t.1, .bool (.s t.2)]) := by
  refine ⟨_, rfl, ?_⟩
  generalize hr : (lim (nsqrt (lv a)), decide (nsqrt (lv a) * nsqrt (lv a) = lv a)) = r
  have hlx := lim_length_le' ha
  have hx := lim_lb (lv a)
  have vx := lv_lim (lv a)
  obtain ⟨x, ex⟩ : ∃ x, lim (lv a) = x := ⟨_, rfl⟩
  rw [ex] at hlx hx vx
  rw [← vx] at hr ex
  have xx : lim (lv x) = x := ex
  have xl : x.length < 524288 := by omega
  obtain ⟨m, em⟩ : ∃ m : Nat → Nat, ∀ s, m s = s := ⟨_, fun _ => rfl⟩
  obtain ⟨ok, eok⟩ : ∃ ok : Nat → Prop, ∀ s, ok s ↔ 0 < lv x ∧ RootOK (lv x) (2 ^ ((blen (lv x) + 1) / 2).toNat) s := ⟨_, fun _ => Iff.rfl⟩
  refine callsA_of hG hm Tryz.func92 (by kernel_rfl) ?_
  intro E hE lp hl
  cbv
  refine E_scope hE hG hm hl 0 rfl (fun s : Nat => (⟨[(0, .sli .u32 x), (5, .sli .u32 (lim s))], [.ints false .u32 [1]]⟩ : St)) m ok ?_ ?_
  · cbv
    (apply E_callX hE (c_cut a ha (by omega)); (case hf => rfl); (case hc => (cbv <;> trivial)); (case hle => exact ⟨u2_sli, trivial⟩); intro x' hx'; cbv)
    have hx2 : x' = x := by rw [hx', ← vx, xx]
    rw [hx2]
    clear hx' hx2 x'
    repeat' (first
    | (refine E_br hE (fun h => ?_) (fun h => ?_) <;> cbv)
    | (refine E_nm hE (fun v hv => ?_); cbv)
    | (refine E_nilS hE (fun b hb => ?_); cbv)
    | fail)
    · have e0 : x = [] := List.length_eq_zero_iff.1 (by subst hE; have := eql_t h; simp only [realE] at this; omega)
      rw [← hr, e0]
      exact ⟨rfl, rfl, trivial⟩
    have apos : 0 < lv x := by
      rcases Nat.eq_zero_or_pos (lv x) with h0 | h0
      · exfalso
        rw [h0] at xx
        have : x.length = 0 := by rw [← xx]; rfl
        subst hE; have := eql_f h; simp only [realE] at this; omega
      · exact h0
    have n1 := (root_first hx xl apos).1
    have n2 := (root_first hx xl apos).2.1
    have o := (root_first hx xl apos).2.2
    have n16 : ((blen (lv x : Int) + 1) / 2).toNat ≤ 16777216 := by omega
    (apply E_callX hE (c_natLen x hx (by omega)); (case hf => rfl); (case hc => (cbv <;> trivial)); (case hle => exact ⟨u2_sli, trivial⟩); intro t ht; cbv)
    simp only [NatCast.natCast, Int.ofNat_eq_natCast] at ht n1 n2
    have en : E.bin .quo .i64 (E.bin .add .i64 t 1) 2 = (blen (lv x : Int) + 1) / 2 := by
      subst hE
      show IntKind.i64.wrap ((IntKind.i64.wrap (t + 1)).tdiv 2) = _
      rw [ht, wi64_id (n := blen (lv x : Int) + 1) (by omega) (by omega), Int.tdiv_eq_ediv_of_nonneg (by omega), wi64_id (by omega) (by omega)]
    have l1 : Lb [1] := Lb.cons (by omega) (by omega) Lb.nil
    have es1 : E.sub [1] 0 (Int.ofNat 1) = [1] := by subst hE; rfl
    (apply E_callX hE (c_natShl (E.sub [1] 0 (Int.ofNat 1)) (E.bin .quo .i64 (E.bin .add .i64 t 1) 2) (by rw [es1]; exact l1) (by rw [es1]; decide)); (case hf => rfl); (case hc => (cbv <;> trivial)); (case hle => exact ⟨u2_sli, u2_int, trivial⟩); intro y hy; cbv)
    obtain ⟨s, es⟩ : ∃ s, s = 2 ^ ((blen (lv x : Int) + 1) / 2).toNat := ⟨_, rfl⟩
    have ey : y = lim s := by
      rw [hy, es1, en, if_neg (by omega), if_neg (by omega), es]
      congr 1
      simp [lv]
    rw [ey]
    clear hy ey y
    have o : RootOK (lv x) (2 ^ ((blen (lv x : Int) + 1) / 2).toNat) s := by rw [es]; exact o
    clear es
    cbv

    (apply E_callX hE (c_natDiv x (lim s) hx (lim_lb s) (by omega) (by have := o.len rfl n16; omega)); (case hf => rfl); (case hc => (cbv <;> trivial)); (case hle => exact ⟨u2_sli, u2_sli, trivial⟩); intro t ht; cbv)
    have e1 : t.1 = lim (lv x / s) := by rw [ht, lv_lim, if_neg (by have := o.pos; omega)]
    have b1 : t.1.length ≤ 524289 := by rw [e1]; have := lim_mono (Nat.div_le_self (lv x) s); rw [xx] at this; omega
    (apply E_callX hE (c_natAdd (lim s) t.1 (lim_lb s) (by rw [e1]; exact lim_lb _) (by have := o.len rfl n16; omega) (by omega)); (case hf => rfl); (case hc => (cbv <;> trivial)); (case hle => exact ⟨u2_sli, u2_sli, trivial⟩); intro u hu; cbv)
    have e2 : u = lim (s + lv x / s) := by rw [hu, e1, lv_lim, lv_lim]
    have b2 : u.length ≤ 524290 := by rw [e2]; exact lim_add_len (o.len rfl n16) (e1 ▸ b1)
    (apply E_callX hE (c_natShr u 1 (by rw [e2]; exact lim_lb _) (by omega)); (case hf => rfl); (case hc => (cbv <;> trivial)); (case hle => exact ⟨u2_sli, u2_int, trivial⟩); intro v hv; cbv)
    have e3 : v = lim ((s + lv x / s) / 2) := by rw [hv, e2, lv_lim]; rfl
    have b3 : v.length ≤ 524290 := by rw [e3]; have := lim_mono (Nat.div_le_self (s + lv x / s) 2); rw [← e2] at this; omega
    (apply E_callX hE (c_natCmp v (lim s) (by rw [e3]; exact lim_lb _) (lim_lb s) (by omega) (by have := o.len rfl n16; omega)); (case hf => rfl); (case hc => (cbv <;> trivial)); (case hle => exact ⟨u2_sli, u2_sli, trivial⟩); intro c hc; cbv)
    have e4 : c < 0 ↔ (s + lv x / s) / 2 < s := by
      rw [hc, e3, lv_lim, lv_lim]
      constructor
      · intro h
        rcases Nat.lt_or_ge ((s + lv x / s) / 2) s with h1 | h1
        · exact h1
        · rw [if_neg (by omega)] at h; split at h <;> omega
      · intro h; rw [if_pos h]; decide
    refine E_br hE (fun h => ?_) (fun h => ?_)
    · have hlt : (s + lv x / s) / 2 < s := e4.1 (by subst hE; exact lss_t h)
      cbv
      exact ⟨(s + lv x / s) / 2, (eok _).2 ⟨apos, o.next apos hlt⟩, by rw [← e3]; exact stLe rfl (by (repeat' (first | exact t_nil | apply t_cons | exact u2_sli | exact u2_int | exact u2_bool | exact u2_ms | exact u2_ptr | exact (rfl : sle2 .s0 .s0))))⟩
    · have hst : nsqrt (lv x) = s := o.stop (fun hlt => by have := e4.2 hlt; subst hE; exact lss_f h this)
      have lm : (lim (s * s)).length ≤ 1048578 := by have := lim_mul_len (m := s) (n := s); have := o.len rfl n16; omega
      cbv
      (apply E_callX hE (c_natMul (lim s) (lim s) (lim_lb s) (lim_lb s) (by have := o.len rfl n16; omega) (by have := o.len rfl n16; omega)); (case hf => rfl); (case hc => (cbv <;> trivial)); (case hle => exact ⟨u2_sli, u2_sli, trivial⟩); intro p hp; cbv)
      have e5 : p = lim (s * s) := by rw [hp, lv_lim]
      (apply E_callX hE (c_natCmp p x (by rw [e5]; exact lim_lb _) hx (by rw [e5]; omega) (by omega)); (case hf => rfl); (case hc => (cbv <;> trivial)); (case hle => exact ⟨u2_sli, u2_sli, trivial⟩); intro c2 hc2; cbv)
      repeat' (first
    | (refine E_br hE (fun h => ?_) (fun h => ?_) <;> cbv)
    | (refine E_nm hE (fun v hv => ?_); cbv)
    | (refine E_nilS hE (fun b hb => ?_); cbv)
    | fail)
      rw [← hr, hst]
      refine ⟨rfl, ?_, trivial⟩
      subst hE
      show decide (c2 = 0) = decide (s * s = lv x)
      rw [hc2, e5, lv_lim]
      apply decide_eq_decide.2
      constructor
      · intro h
        rcases Nat.lt_trichotomy (s * s) (lv x) with h1 | h1 | h1
        · rw [if_pos h1] at h; omega
        · exact h1
        · rw [if_neg (by omega), if_pos h1] at h; omega
      · intro h; rw [if_neg (by omega), if_neg (by omega)]

  · intro s hs
    have apos : 0 < lv x := ((eok s).1 hs).1
    have o := ((eok s).1 hs).2
    have n16 : ((blen (lv x : Int) + 1) / 2).toNat ≤ 16777216 := by have := (root_first hx xl apos).2.1; omega
    cbv

    (apply E_callX hE (c_natDiv x (lim s) hx (lim_lb s) (by omega) (by have := o.len rfl n16; omega)); (case hf => rfl); (case hc => (cbv <;> trivial)); (case hle => exact ⟨u2_sli, u2_sli, trivial⟩); intro t ht; cbv)
    have e1 : t.1 = lim (lv x / s) := by rw [ht, lv_lim, if_neg (by have := o.pos; omega)]
    have b1 : t.1.length ≤ 524289 := by rw [e1]; have := lim_mono (Nat.div_le_self (lv x) s); rw [xx] at this; omega
    (apply E_callX hE (c_natAdd (lim s) t.1 (lim_lb s) (by rw [e1]; exact lim_lb _) (by have := o.len rfl n16; omega) (by omega)); (case hf => rfl); (case hc => (cbv <;> trivial)); (case hle => exact ⟨u2_sli, u2_sli, trivial⟩); intro u hu; cbv)
    have e2 : u = lim (s + lv x / s) := by rw [hu, e1, lv_lim, lv_lim]
    have b2 : u.length ≤ 524290 := by rw [e2]; exact lim_add_len (o.len rfl n16) (e1 ▸ b1)
    (apply E_callX hE (c_natShr u 1 (by rw [e2]; exact lim_lb _) (by omega)); (case hf => rfl); (case hc => (cbv <;> trivial)); (case hle => exact ⟨u2_sli, u2_int, trivial⟩); intro v hv; cbv)
    have e3 : v = lim ((s + lv x / s) / 2) := by rw [hv, e2, lv_lim]; rfl
    have b3 : v.length ≤ 524290 := by rw [e3]; have := lim_mono (Nat.div_le_self (s + lv x / s) 2); rw [← e2] at this; omega
    (apply E_callX hE (c_natCmp v (lim s) (by rw [e3]; exact lim_lb _) (lim_lb s) (by omega) (by have := o.len rfl n16; omega)); (case hf => rfl); (case hc => (cbv <;> trivial)); (case hle => exact ⟨u2_sli, u2_sli, trivial⟩); intro c hc; cbv)
    have e4 : c < 0 ↔ (s + lv x / s) / 2 < s := by
      rw [hc, e3, lv_lim, lv_lim]
      constructor
      · intro h
        rcases Nat.lt_or_ge ((s + lv x / s) / 2) s with h1 | h1
        · exact h1
        · rw [if_neg (by omega)] at h; split at h <;> omega
      · intro h; rw [if_pos h]; decide
    refine E_br hE (fun h => ?_) (fun h => ?_)
    · have hlt : (s + lv x / s) / 2 < s := e4.1 (by subst hE; exact lss_t h)
      cbv
      exact ⟨(s + lv x / s) / 2, by rw [em, em]; exact hlt, (eok _).2 ⟨apos, o.next apos hlt⟩, by rw [← e3]; exact stLe rfl (by (repeat' (first | exact t_nil | apply t_cons | exact u2_sli | exact u2_int | exact u2_bool | exact u2_ms | exact u2_ptr | exact (rfl : sle2 .s0 .s0))))⟩
    · have hst : nsqrt (lv x) = s := o.stop (fun hlt => by have := e4.2 hlt; subst hE; exact lss_f h this)
      have lm : (lim (s * s)).length ≤ 1048578 := by have := lim_mul_len (m := s) (n := s); have := o.len rfl n16; omega
      cbv
      (apply E_callX hE (c_natMul (lim s) (lim s) (lim_lb s) (lim_lb s) (by have := o.len rfl n16; omega) (by have := o.len rfl n16; omega)); (case hf => rfl); (case hc => (cbv <;> trivial)); (case hle => exact ⟨u2_sli, u2_sli, trivial⟩); intro p hp; cbv)
      have e5 : p = lim (s * s) := by rw [hp, lv_lim]
      (apply E_callX hE (c_natCmp p x (by rw [e5]; exact lim_lb _) hx (by rw [e5]; omega) (by omega)); (case hf => rfl); (case hc => (cbv <;> trivial)); (case hle => exact ⟨u2_sli, u2_sli, trivial⟩); intro c2 hc2; cbv)
      repeat' (first
    | (refine E_br hE (fun h => ?_) (fun h => ?_) <;> cbv)
    | (refine E_nm hE (fun v hv => ?_); cbv)
    | (refine E_nilS hE (fun b hb => ?_); cbv)
    | fail)
      rw [← hr, hst]
      refine ⟨rfl, ?_, trivial⟩
      subst hE
      show decide (c2 = 0) = decide (s * s = lv x)
      rw [hc2, e5, lv_lim]
      apply decide_eq_decide.2
      constructor
      · intro h
        rcases Nat.lt_trichotomy (s * s) (lv x) with h1 | h1 | h1
        · rw [if_pos h1] at h; omega
        · exact h1
        · rw [if_neg (by omega), if_pos h1] at h; omega
      · intro h; rw [if_neg (by omega), if_neg (by omega)]


end Go.Proofs.YtoghalnnmhpfmaaGreat.Ev

/- Contracts: words and limbs. Printed by gen.py. -/
namespace Go.Proofs.YtoghalnnmhpfmaaGreat.Ev
open Go Go.Proofs
set_option linter.unusedVariables false
set_option linter.unusedSimpArgs false


attribute [local irreducible] Lb
theorem word_next {a : List Int} {i n : Int} (ha : Lb a) (hl : a.length ≤ 2) (h1 : 0 ≤ i) (h2 : i < a.length) (hn : n = lv (a.take i.toNat)) {i' x v j : Int} (ei : i' = i) (ex : x = a.getD i.toNat 0)
    (ev : v = intBinR .or .u64 n (intBinR .shl .u64 (IntKind.u64.wrap x) (intBinR .mul .i64 32 i'))) (ej : j = intBinR .add .i64 i 1) :
    0 ≤ j ∧ j ≤ a.length ∧ ((a.length : Int) - j).toNat < ((a.length : Int) - i).toNat ∧ v = lv (a.take j.toNat) := by
  subst ei
  have hx := ha.getD i'.toNat
  have ej' : j = i' + 1 := by rw [ej]; show IntKind.i64.wrap (i' + 1) = _; rw [wi64_id (by omega) (by omega)]
  refine ⟨by omega, by omega, by omega, ?_⟩
  rw [ej', show (i' + 1).toNat = i'.toNat + 1 by omega, lv_take_succ (by omega), ← ex]
  rw [← ex] at hx
  rw [wu64_id hx.1 (by omega)] at ev
  rcases (show i' = 0 ∨ i' = 1 by omega) with rfl | rfl
  · have e0 : n = 0 := by rw [hn]; rfl
    have e1 : intBinR .shl .u64 x (intBinR .mul .i64 32 0) = x := by
      show IntKind.u64.wrap (x * 2 ^ min (IntKind.i64.wrap (32 * 0)).toNat IntKind.u64.bits) = _
      rw [show min (IntKind.i64.wrap (32 * 0)).toNat IntKind.u64.bits = 0 by decide, wu64]
      simp only [Int.pow_zero, Int.mul_one]
      omega
    rw [e1, e0] at ev
    have e2 : intBinR .or .u64 0 x = 0 + 2 ^ 0 * x := by
      have := or64 (l := x) (m := 0) hx.1 hx.2 (by omega) (by omega)
      show IntKind.u64.wrap ((BitVec.ofInt 64 0 ||| BitVec.ofInt 64 x).toNat : Int) = _
      rw [BitVec.or_comm]
      simp only [Int.zero_mul] at this
      rw [this]; omega
    rw [ev, e2, show (Int.toNat 0) = 0 by rfl, List.take_zero]
    simp only [lv, Nat.pow_zero]
    omega
  · have hn0 : 0 ≤ n ∧ n < 4294967296 := by
      have := lv_take_lt ha 1 (by omega)
      rw [show (1 : Int).toNat = 1 by rfl] at hn
      omega
    have e1 : intBinR .shl .u64 x (intBinR .mul .i64 32 1) = x * 4294967296 := by
      show IntKind.u64.wrap (x * 2 ^ min (IntKind.i64.wrap (32 * 1)).toNat IntKind.u64.bits) = _
      rw [show min (IntKind.i64.wrap (32 * 1)).toNat IntKind.u64.bits = 32 by decide, wu64]
      have : (2 : Int) ^ 32 = 4294967296 := by decide
      rw [this]; omega
    rw [e1] at ev
    have e2 : intBinR .or .u64 n (x * 4294967296) = n + x * 4294967296 := or64 hn0.1 hn0.2 hx.1 hx.2
    rw [ev, e2, show (Int.toNat 1) = 1 by rfl]
    rw [show (1 : Int).toNat = 1 by rfl] at hn
    rw [hn]
    omega

def wordS (E : Env) (a : List Int) : Int × Int → St := fun p => ⟨[(3, .int .u64 (.s p.2)), (6, .sli .u32 a), (7, .int .i64 (.s (E.len a))), (8, .int .i64 (.s p.1))], []⟩
theorem c_word (a : List Int) (ha : Lb a) (hl : a.length ≤ 2) : ∃ t : Int, t = lv a ∧ CallsA Tryz.prog 95 [.sli .u32 a] (.int .u64 (.s t)) := by
  refine ⟨_, rfl, ?_⟩
  generalize hr : (lv a : Int) = r
  obtain ⟨m, em⟩ : ∃ m : Int × Int → Nat, ∀ p, m p = (a.length - p.1).toNat := ⟨_, fun _ => rfl⟩
  obtain ⟨ok, eok⟩ : ∃ ok : Int × Int → Prop, ∀ p, ok p ↔ 0 ≤ p.1 ∧ p.1 ≤ a.length ∧ p.2 = lv (a.take p.1.toNat) := ⟨_, fun _ => Iff.rfl⟩
  refine callsA_of hG hm Tryz.func95 (by kernel_rfl) ?_
  intro E hE lp hl'
  cbv
  repeat' (first
    | (refine E_br hE (fun h => ?_) (fun h => ?_) <;> cbv)
    | (refine E_nm hE (fun v hv => ?_); cbv)
    | (refine E_nilS hE (fun b hb => ?_); cbv)
    | fail)
  refine E_loop hE hG hm hl' (wordS E a) m ok ⟨(0, 0), (eok _).2 ⟨by show (0 : Int) ≤ 0; omega, by show (0 : Int) ≤ a.length; omega, rfl⟩, stLe rfl ?_⟩ ?_
  · (repeat' (first | exact t_nil | apply t_cons | exact u2_sli | exact u2_int | exact u2_bool | exact u2_ms | exact u2_ptr | exact (rfl : sle2 .s0 .s0)))
  rintro ⟨i, n⟩ hok
  have h1 : 0 ≤ i := ((eok _).1 hok).1
  have h2 : i ≤ a.length := ((eok _).1 hok).2.1
  have hn : n = lv (a.take i.toNat) := ((eok _).1 hok).2.2
  have fin : ¬ i < a.length → n = r := by
    intro h
    rw [hn, show i.toNat = a.length by omega, List.take_length]; exact hr
  clear hok
  cbv
  repeat' (first
    | (refine E_br hE (fun h => ?_) (fun h => ?_) <;> cbv)
    | (refine E_nm hE (fun v hv => ?_); cbv)
    | (refine E_nilS hE (fun b hb => ?_); cbv)
    | fail)
  all_goals (try refine ⟨(E.bin .add .i64 i 1, v), ?_, ?_, stLe rfl ?_⟩)
  all_goals (try ((repeat' (first | exact t_nil | apply t_cons | exact u2_sli | exact u2_int | exact u2_bool | exact u2_ms | exact u2_ptr | exact (rfl : sle2 .s0 .s0))); done))
  all_goals (subst hE)
  all_goals (try (first
    | (rw [em, em]; exact (word_next ha hl h1 (lss_t ‹_›) hn ‹_ = i› ‹_› ‹_› rfl).2.2.1)
    | (rw [eok]; have q := word_next ha hl h1 (lss_t ‹_›) hn ‹_ = i› ‹_› ‹_› rfl; exact ⟨q.1, q.2.1, q.2.2.2⟩)
    | exact fin (lss_f ‹_›)
    | exact ‹_ = n›.trans (fin (lss_f ‹_›))))
  all_goals (clear fin eok em hn; simp only [NatCast.natCast, Int.ofNat_eq_natCast, realE, cmp_eql, cmp_neq, cmp_lss, cmp_leq, cmp_gtr, cmp_geq, intBinR, decide_eq_true_eq, decide_eq_false_iff_not, SI.val, SB.val, Num.eta, Iv.eta] at *; (try simp only [wi64] at *); omega)

theorem c_limbs (m : Int) (h0 : 0 ≤ m) (h1 : m < 18446744073709551616) : ∃ t : List Int, t = [m % 4294967296, m / 4294967296] ∧ CallsA Tryz.prog 94 [.int .u64 (.s m)] (.sli .u32 t) := by
  refine ⟨_, rfl, ?_⟩
  generalize hr : [m % 4294967296, m / 4294967296] = r
  refine callsA_of hG hm Tryz.func94 (by kernel_rfl) ?_
  intro E hE lp hl'
  cbv
  repeat' (first
    | (refine E_br hE (fun h => ?_) (fun h => ?_) <;> cbv)
    | (refine E_nm hE (fun v hv => ?_); cbv)
    | (refine E_nilS hE (fun b hb => ?_); cbv)
    | fail)
  rw [← hr]
  subst hE
  have e1 : intBinR .shr .u64 m 32 = m / 4294967296 := shr32 m
  show [IntKind.u32.wrap m, IntKind.u32.wrap (intBinR .shr .u64 m 32)] = _
  rw [e1, wu32, wu32, Int.emod_eq_of_lt (a := m / 4294967296) (by omega) (by omega)]

theorem limbs_lb {m : Int} (h0 : 0 ≤ m) (h1 : m < 18446744073709551616) : Lb [m % 4294967296, m / 4294967296] :=
  Lb.cons (by omega) (by omega) (Lb.cons (by omega) (by omega) Lb.nil)
theorem limbs_lv {m : Int} (h0 : 0 ≤ m) : lv [m % 4294967296, m / 4294967296] = m.toNat := by
  simp only [lv]; omega

/-- the root of a finite number -/
def Num.rootF (a : Num) (up : Bool) : Num :=
  if a.e % 2 = 0 then Num.grow false (nsqrt (a.m.toNat * 2 ^ 64)) ((a.e - 64) / 2) (!decide (nsqrt (a.m.toNat * 2 ^ 64) * nsqrt (a.m.toNat * 2 ^ 64) = a.m.toNat * 2 ^ 64)) up
  else Num.grow false (nsqrt (a.m.toNat * 2 ^ 63)) ((a.e - 63) / 2) (!decide (nsqrt (a.m.toNat * 2 ^ 63) * nsqrt (a.m.toNat * 2 ^ 63) = a.m.toNat * 2 ^ 63)) up
def Num.root (a : Num) (up : Bool) : Num × Bool :=
  if a.fair.kind ≠ 0 ∧ a.fair.neg = true then (Num.zero, false) else if a.fair.kind ≠ 1 then (a.fair, true) else (Num.rootF a.fair up, true)

theorem root_sh {m n : Int} {l s : List Int} (h0 : 0 ≤ m) (h1 : m < 18446744073709551616) (hl : l = [m % 4294967296, m / 4294967296]) (hn : n = 64 ∨ n = 63)
    (hs : s = if n < 1 then lim (lv l) else if 16777216 < n then [] else lim (lv l * 2 ^ n.toNat)) : Lb s ∧ s.length < 524288 ∧ lv s = m.toNat * 2 ^ n.toNat ∧ Lb (lim (nsqrt (lv s))) ∧ (lim (nsqrt (lv s))).length ≤ 2 := by
  have lvl : lv l = m.toNat := by rw [hl]; exact limbs_lv h0
  rw [if_neg (by omega), if_neg (by omega), lvl] at hs
  have hm : m.toNat < 18446744073709551616 := by omega
  have hp : 2 ^ n.toNat ≤ 18446744073709551616 := by rcases hn with rfl | rfl <;> decide
  have hlt : m.toNat * 2 ^ n.toNat < 4294967296 ^ 4 := by
    have h2 : m.toNat * 2 ^ n.toNat ≤ m.toNat * 18446744073709551616 := Nat.mul_le_mul_left _ hp
    have h3 : (4294967296 : Nat) ^ 4 = 18446744073709551616 * 18446744073709551616 := by decide
    omega
  have hls := lim_length_le hlt
  have lvs : lv s = m.toNat * 2 ^ n.toNat := by rw [hs, lv_lim]
  refine ⟨by rw [hs]; exact lim_lb _, by rw [hs]; omega, lvs, lim_lb _, ?_⟩
  apply lim_length_le
  rw [lvs]
  have q := (nsqrt_spec (m.toNat * 2 ^ n.toNat)).1
  apply sq_lt
  have h3 : (4294967296 : Nat) ^ 4 = 4294967296 ^ 2 * 4294967296 ^ 2 := by decide
  omega
theorem parity (e : Int) : (intBinR .and .i64 e 1 = 0) ↔ e % 2 = 0 := by
  have h : intBinR .and .i64 e 1 = e % 2 := by
    show IntKind.i64.wrap ((BitVec.ofInt 64 e &&& BitVec.ofInt 64 1).toNat : Int) = _
    have h1 : (BitVec.ofInt 64 e &&& BitVec.ofInt 64 1).toNat = (BitVec.ofInt 64 e).toNat % 2 := by
      rw [BitVec.toNat_and, show (BitVec.ofInt 64 1).toNat = 2 ^ 1 - 1 by decide, Nat.and_two_pow_sub_one_eq_mod]
    rw [h1, wi64, BitVec.toNat_ofInt]
    omega
  rw [h]
theorem half_exact {e n : Int} (h0 : -1048576 ≤ e) (h1 : e ≤ 1048576) (hn : n = 64 ∨ n = 63) (hp : (e - n) % 2 = 0) : intBinR .quo .i64 (intBinR .sub .i64 e n) 2 = (e - n) / 2 := by
  have e1 : intBinR .sub .i64 e n = e - n := by show IntKind.i64.wrap (e - n) = _; rw [wi64]; omega
  show IntKind.i64.wrap ((intBinR .sub .i64 e n).tdiv 2) = _
  rw [e1]
  have e2 : (e - n).tdiv 2 = (e - n) / 2 := by
    obtain ⟨k, hk⟩ : ∃ k, e - n = 2 * k := ⟨(e - n) / 2, by omega⟩
    rw [hk, Int.mul_tdiv_cancel_left _ (by decide), Int.mul_ediv_cancel_left _ (by decide)]
  rw [e2, wi64]; omega

set_option maxHeartbeats 2000000 in
theorem c_quRoot (a : Num) (up : Bool) (ha : a.ok) : ∃ t : Num × Bool, t = Num.root a up ∧ CallsA Tryz.prog 53 [a.av, .bool (.s up)] (.tup [(t.1).av, .bool (.s t.2)]) := by
  refine ⟨_, rfl, ?_⟩
  generalize hr : Num.root a up = r
  refine callsA_of hG hm Tryz.func53 (by kernel_rfl) ?_
  intro E hE lp hl
  cbv
  (apply E_callX hE (c_quFair ⟨_, _, _, _⟩); (case hf => rfl); (case hc => (cbv <;> trivial)); (case hle => (repeat' (first | exact u_nil | apply u_cons | apply u2_agg | exact u2_int | exact u1_int | exact u2_bool | exact u1_bool))); intro t ht; cbv)
  replace ht : t = a.fair := ht
  have tok : t.ok := by rw [ht]; exact Num.fair_ok ha
  have neq_t : ∀ x y : Int, E.cmp .neq x y = true → x ≠ y := by subst hE; intro x y h; simpa only [realE, cmp_neq, decide_eq_true_eq] using h
  have neq_f : ∀ x y : Int, E.cmp .neq x y = false → x = y := by subst hE; intro x y h; simpa only [realE, cmp_neq, decide_eq_false_iff_not, ne_eq, Decidable.not_not] using h
  repeat' (first
    | (refine E_br hE (fun h => ?_) (fun h => ?_) <;> cbv)
    | (refine E_nm hE (fun v hv => ?_); cbv)
    | (refine E_nilS hE (fun b hb => ?_); cbv)
    | fail)
  · have h1 := neq_t _ _ ‹E.cmp .neq t.kind 0 = true›
    rw [← hr]; unfold Num.root
    rw [← ht, if_pos ⟨h1, h⟩]
    exact ⟨⟨rfl, rfl, rfl, rfl, trivial⟩, rfl, trivial⟩
  · have h1 := neq_t _ _ h
    rw [← hr]; unfold Num.root
    rw [← ht, if_neg (by rintro ⟨-, k⟩; rw [‹t.neg = false›] at k; cases k), if_pos h1]
    exact ⟨⟨rfl, rfl, rfl, rfl, trivial⟩, rfl, trivial⟩
  ·
    (apply E_callX hE (c_limbs t.m tok.1 tok.2); (case hf => rfl); (case hc => (cbv <;> trivial)); (case hle => exact ⟨u2_int, trivial⟩); intro l hl'; cbv)
    have len : l.length = 2 := by rw [hl']; rfl
    (apply E_callX hE (c_natShl l (63) (by rw [hl']; exact limbs_lb tok.1 tok.2) (by omega)); (case hf => rfl); (case hc => (cbv <;> trivial)); (case hle => exact ⟨u2_sli, u2_int, trivial⟩); intro s hs; cbv)
    have hn : (63 : Int) = 64 ∨ (63 : Int) = 63 := by exact .inr rfl
    have f := root_sh tok.1 tok.2 hl' hn hs
    (apply E_callX hE (c_natRoot s f.1 f.2.1); (case hf => rfl); (case hc => (cbv <;> trivial)); (case hle => exact ⟨u2_sli, trivial⟩); intro q hq; cbv)
    have q1 : q.1 = lim (nsqrt (lv s)) := by rw [hq]
    (apply E_pcallX hE (c_word q.1 (by rw [q1]; exact f.2.2.2.1) (by rw [q1]; exact f.2.2.2.2)); (case hm => rfl); (case hle => exact ⟨u2_sli, trivial⟩); intro w hw; cbv)
    (apply E_pcallX hE (c_Grow _ _ _ _ _); (case hm => rfl); (case hle => exact ⟨u2_bool, u2_int, u2_int, u2_bool, u2_bool, trivial⟩); intro g hg; cbv)
    have k1 : t.kind = 1 := neq_f _ _ ‹E.cmp .neq t.kind 1 = false›
    have fe : -1048576 ≤ t.e ∧ t.e ≤ 1048576 := by
      have := Num.fin_of (n := a) (by rw [← ht, k1]; decide) (by rw [← ht, k1]; decide)
      rw [← ht] at this
      exact this.2.2
    have hp : (t.e - 63) % 2 = 0 := by have p := parity t.e; (have : ¬ t.e % 2 = 0 := fun k => by have q := p.2 k; subst hE; exact neq_t _ _ h q); omega
    have e1 : g = Num.rootF t up := by
      have hg' : g = Num.grow false w (intBinR .quo .i64 (intBinR .sub .i64 t.e 63) 2) (!q.2) up := by subst hE; exact hg
      have wv : w = nsqrt (t.m.toNat * 2 ^ 63) := by rw [hw, q1, lv_lim, f.2.2.1]; rfl
      have q2 : q.2 = decide (nsqrt (t.m.toNat * 2 ^ 63) * nsqrt (t.m.toNat * 2 ^ 63) = t.m.toNat * 2 ^ 63) := by
        rw [hq]; show decide _ = _; rw [f.2.2.1]; rfl
      rw [hg', half_exact fe.1 fe.2 hn hp, wv, q2]
      unfold Num.rootF
      rw [if_neg (by omega)]
    rw [← hr]; unfold Num.root
    rw [← ht, if_neg (by rintro ⟨-, k⟩; rw [‹t.neg = false›] at k; cases k), if_neg (by rw [k1]; decide), e1]
    exact ⟨⟨rfl, rfl, rfl, rfl, trivial⟩, rfl, trivial⟩

  ·
    (apply E_callX hE (c_limbs t.m tok.1 tok.2); (case hf => rfl); (case hc => (cbv <;> trivial)); (case hle => exact ⟨u2_int, trivial⟩); intro l hl'; cbv)
    have len : l.length = 2 := by rw [hl']; rfl
    (apply E_callX hE (c_natShl l (64) (by rw [hl']; exact limbs_lb tok.1 tok.2) (by omega)); (case hf => rfl); (case hc => (cbv <;> trivial)); (case hle => exact ⟨u2_sli, u2_int, trivial⟩); intro s hs; cbv)
    have hn : (64 : Int) = 64 ∨ (64 : Int) = 63 := by exact .inl rfl
    have f := root_sh tok.1 tok.2 hl' hn hs
    (apply E_callX hE (c_natRoot s f.1 f.2.1); (case hf => rfl); (case hc => (cbv <;> trivial)); (case hle => exact ⟨u2_sli, trivial⟩); intro q hq; cbv)
    have q1 : q.1 = lim (nsqrt (lv s)) := by rw [hq]
    (apply E_pcallX hE (c_word q.1 (by rw [q1]; exact f.2.2.2.1) (by rw [q1]; exact f.2.2.2.2)); (case hm => rfl); (case hle => exact ⟨u2_sli, trivial⟩); intro w hw; cbv)
    (apply E_pcallX hE (c_Grow _ _ _ _ _); (case hm => rfl); (case hle => exact ⟨u2_bool, u2_int, u2_int, u2_bool, u2_bool, trivial⟩); intro g hg; cbv)
    have k1 : t.kind = 1 := neq_f _ _ ‹E.cmp .neq t.kind 1 = false›
    have fe : -1048576 ≤ t.e ∧ t.e ≤ 1048576 := by
      have := Num.fin_of (n := a) (by rw [← ht, k1]; decide) (by rw [← ht, k1]; decide)
      rw [← ht] at this
      exact this.2.2
    have hp : (t.e - 64) % 2 = 0 := by (have : t.e % 2 = 0 := (parity t.e).1 (by subst hE; exact neq_f _ _ h)); omega
    have e1 : g = Num.rootF t up := by
      have hg' : g = Num.grow false w (intBinR .quo .i64 (intBinR .sub .i64 t.e 64) 2) (!q.2) up := by subst hE; exact hg
      have wv : w = nsqrt (t.m.toNat * 2 ^ 64) := by rw [hw, q1, lv_lim, f.2.2.1]; rfl
      have q2 : q.2 = decide (nsqrt (t.m.toNat * 2 ^ 64) * nsqrt (t.m.toNat * 2 ^ 64) = t.m.toNat * 2 ^ 64) := by
        rw [hq]; show decide _ = _; rw [f.2.2.1]; rfl
      rw [hg', half_exact fe.1 fe.2 hn hp, wv, q2]
      unfold Num.rootF
      rw [if_pos (by omega)]
    rw [← hr]; unfold Num.root
    rw [← ht, if_neg (by rintro ⟨-, k⟩; rw [‹t.neg = false›] at k; cases k), if_neg (by rw [k1]; decide), e1]
    exact ⟨⟨rfl, rfl, rfl, rfl, trivial⟩, rfl, trivial⟩

  · have k0 := neq_f _ _ ‹E.cmp .neq t.kind 0 = false›
    rw [← hr]; unfold Num.root
    rw [← ht, if_neg (by rintro ⟨k, -⟩; exact k k0), if_pos (by rw [k0]; decide)]
    exact ⟨⟨rfl, rfl, rfl, rfl, trivial⟩, rfl, trivial⟩
  all_goals (exfalso; have k0 := neq_f _ _ ‹E.cmp .neq t.kind 0 = false›; have k1 := neq_f _ _ ‹E.cmp .neq t.kind 1 = false›; omega)

end Go.Proofs.YtoghalnnmhpfmaaGreat.Ev

/- Contracts: the root of an interval. Printed by gen.py out of C23.spec. -/
namespace Go.Proofs.YtoghalnnmhpfmaaGreat.Ev
open Go Go.Proofs
set_option linter.unusedVariables false
set_option linter.unusedSimpArgs false
def Iv.positive : Iv := Iv.make Num.zero (Num.inf false)
theorem Iv.positive_ok : Iv.positive.lo.ok ∧ Iv.positive.hi.ok := Iv.make_ok Num.zero_ok (Num.inf_ok false)
def Iv.root (a : Iv) : Iv := if (Iv.meet [a, Iv.positive]).empty then Iv.meet [a, Iv.positive] else Iv.make (Num.root (Iv.meet [a, Iv.positive]).lo false).1 (Num.root (Iv.meet [a, Iv.positive]).hi true).1
theorem nsqrt_word {m k : Nat} (hm : m < 18446744073709551616) (hk : 2 ^ k ≤ 18446744073709551616) : nsqrt (m * 2 ^ k) < 18446744073709551616 := by
  apply sq_lt
  have h1 := (nsqrt_spec (m * 2 ^ k)).1
  have h2 : m * 2 ^ k ≤ m * 18446744073709551616 := Nat.mul_le_mul_left _ hk
  omega
theorem Num.root_ok {n : Num} (h : n.ok) (up : Bool) : (Num.root n up).1.ok := by
  have ho := Num.fair_ok h
  unfold Num.root
  split
  · exact Num.zero_ok
  · split
    · exact ho
    · show (Num.rootF n.fair up).ok
      have hm : n.fair.m.toNat < 18446744073709551616 := by have := ho.1; have := ho.2; omega
      unfold Num.rootF
      split
      · have := nsqrt_word (k := 64) hm (by decide); exact Num.grow_ok (by omega) (by omega)
      · have := nsqrt_word (k := 63) hm (by decide); exact Num.grow_ok (by omega) (by omega)
theorem Iv.root_ok {a : Iv} (h : a.lo.ok ∧ a.hi.ok) : (Iv.root a).lo.ok ∧ (Iv.root a).hi.ok := by
  have m : (Iv.meet [a, Iv.positive]).lo.ok ∧ (Iv.meet [a, Iv.positive]).hi.ok := Iv.meet_ok (all2 h Iv.positive_ok)
  unfold Iv.root
  split
  · exact m
  · exact Iv.make_ok (Num.root_ok m.1 _) (Num.root_ok m.2 _)
theorem k_quRoot (x : Num) (hx : x.ok) (up : Bool) : ∃ t : Num × Bool, (t = Num.root x up ∧ t.1.ok) ∧ CallsA Tryz.prog 53 [x.av, .bool (.s up)] (.tup [(t.1).av, .bool (.s t.2)]) :=
  withQ (p := fun t : Num × Bool => t.1.ok) (c_quRoot x up hx) (Num.root_ok hx up)

theorem c_positive  : ∃ t, t = Iv.positive ∧ CallsA Tryz.prog 52 [] t.av := by
  refine ⟨_, rfl, ?_⟩
  generalize hr : Iv.positive = r
  refine callsA_of hG hm Tryz.func52 (by kernel_rfl) ?_
  intro E hE lp hl
  cbv
  repeat' (first
    | (apply E_br_t hE; assumption; cbv)
    | (apply E_br_f hE; assumption; cbv)
    | (refine E_br hE (fun h => ?_) (fun h => ?_) <;> cbv)
    | (refine E_nm hE (fun v hv => ?_); cbv)
    | (apply E_callX hE (c_Inf _); (case hf => rfl); (case hc => (cbv <;> trivial)); (case hle => exact u_up); all_goals (first | (intro t ht; cbv) | (assumption)))
    | (apply E_callX hE (c_ivMake ⟨_, _, _, _⟩ ⟨_, _, _, _⟩); (case hf => rfl); (case hc => (cbv <;> trivial)); (case hle => exact u_up); all_goals (first | (intro t ht; cbv) | (assumption)))
    | fail)
  subst_vars
  exact ⟨rfl, rfl, rfl, rfl, rfl, rfl, rfl, rfl, rfl, trivial⟩
theorem k_positive : ∃ t : Iv, (t = Iv.positive ∧ (t.lo.ok ∧ t.hi.ok)) ∧ CallsA Tryz.prog 52 [] t.av :=
  withQ (p := fun t : Iv => t.lo.ok ∧ t.hi.ok) c_positive Iv.positive_ok

set_option maxHeartbeats 2000000 in
theorem c_opRoot (a : Iv) (ha : a.lo.ok ∧ a.hi.ok) : ∃ t, t = Iv.root a ∧ CallsA Tryz.prog 22 [a.av] t.av := by
  refine ⟨_, rfl, ?_⟩
  generalize hr : Iv.root a = r
  refine callsA_of hG hm Tryz.func22 (by kernel_rfl) ?_
  intro E hE lp hl
  cbv
  repeat' (first
    | (apply E_br_t hE; assumption; cbv)
    | (apply E_br_f hE; assumption; cbv)
    | (refine E_br hE (fun h => ?_) (fun h => ?_) <;> cbv)
    | (refine E_nm hE (fun v hv => ?_); cbv)
    | (apply E_pcallX hE (k_positive); (case hm => rfl); (case hle => exact u_up); all_goals (first | (rintro t ⟨ht, ho⟩; cbv) | (assumption)))
    | (apply E_pcallX hE (k_meet2 ⟨_, ⟨_, _, _, _⟩, ⟨_, _, _, _⟩⟩ ?_ ⟨_, ⟨_, _, _, _⟩, ⟨_, _, _, _⟩⟩ ?_); (case hm => rfl); (case hle => exact ⟨slcG2, trivial⟩); all_goals (first | (rintro t ⟨ht, ho⟩; cbv) | (assumption)))
    | (apply E_callX hE (k_quRoot ⟨_, _, _, _⟩ ?_ _); (case hf => rfl); (case hc => (cbv <;> trivial)); (case hle => exact u_up); all_goals (first | (rintro t ⟨ht, ho⟩; cbv) | (first | exact ho.1 | exact ho.2 | exact (show _ ∧ _ by assumption).1 | exact (show _ ∧ _ by assumption).2)))
    | (apply E_callX hE (c_ivMake ⟨_, _, _, _⟩ ⟨_, _, _, _⟩); (case hf => rfl); (case hc => (cbv <;> trivial)); (case hle => exact u_up); all_goals (first | (intro t ht; cbv) | (assumption)))
    | fail)
  · have e : Iv.root a = t := by subst_vars; exact if_pos h
    rw [← hr, e]
    exact ⟨rfl, rfl, rfl, rfl, rfl, rfl, rfl, rfl, rfl, trivial⟩
  · have e : Iv.root a = t := by
      subst_vars
      exact if_neg (by intro k; exact absurd (h.symm.trans k) (by decide))
    rw [← hr, e]
    exact ⟨rfl, rfl, rfl, rfl, rfl, rfl, rfl, rfl, rfl, trivial⟩
theorem k_opRoot (a : Iv) (ha : a.lo.ok ∧ a.hi.ok) : ∃ t : Iv, (t = Iv.root a ∧ (t.lo.ok ∧ t.hi.ok)) ∧ CallsA Tryz.prog 22 [a.av] t.av :=
  withQ (p := fun t : Iv => t.lo.ok ∧ t.hi.ok) (c_opRoot a ha) (Iv.root_ok ha)

end Go.Proofs.YtoghalnnmhpfmaaGreat.Ev

/- The root of a number: plain Lean. -/
namespace Go.Proofs.YtoghalnnmhpfmaaGreat.Ev
open Go

end Go.Proofs.YtoghalnnmhpfmaaGreat.Ev

/- The root of a number to either side: sound, and the best. Plain Lean. -/
namespace Go.Proofs.YtoghalnnmhpfmaaGreat.Ev
open Go

end Go.Proofs.YtoghalnnmhpfmaaGreat.Ev

/- The reference's roots are the program's: plain Lean. -/
namespace Go.Proofs.YtoghalnnmhpfmaaGreat.Ev
open Go

end Go.Proofs.YtoghalnnmhpfmaaGreat.Ev

/- Contracts of the reference: the root of a number. Printed by gen.py. -/
namespace Go.Proofs.YtoghalnnmhpfmaaGreat.Ev
open Go Go.Proofs
set_option linter.unusedVariables false
set_option linter.unusedSimpArgs false

attribute [local irreducible] Lb
theorem neq_t {a b : Int} (h : (realE Tryz.prog).cmp .neq a b = true) : a ≠ b := by simpa only [realE, cmp_neq, decide_eq_true_eq] using h
theorem neq_f {a b : Int} (h : (realE Tryz.prog).cmp .neq a b = false) : ¬ a ≠ b := by simpa only [realE, cmp_neq, decide_eq_false_iff_not] using h
end Go.Proofs.YtoghalnnmhpfmaaGreat.Ev

/- The reference's sums are the program's: plain Lean. -/
namespace Go.Proofs.YtoghalnnmhpfmaaGreat.Ev
open Go

/-- the sum of two whole numbers with signs -/
def wsum (na : Bool) (ka : Nat) (nb : Bool) (kb : Nat) : Bool × Nat :=
  if na = nb then (na && decide (ka + kb ≠ 0), ka + kb) else if ka < kb then (nb && decide (kb - ka ≠ 0), kb - ka) else (na && decide (ka - kb ≠ 0), ka - kb)
def sv (n : Bool) (k : Nat) : Int := if n then -(k : Int) else k
theorem wsum_val (na nb : Bool) (ka kb : Nat) : sv (wsum na ka nb kb).1 (wsum na ka nb kb).2 = sv na ka + sv nb kb := by
  have z : ∀ (n : Bool) (k : Nat), sv (n && decide (k ≠ 0)) k = sv n k := by
    intro n k
    by_cases h : k = 0
    · subst h; cases n <;> simp [sv]
    · rw [decide_eq_true h, Bool.and_true]
  unfold wsum
  split
  · rename_i h
    subst h
    show sv (na && decide (ka + kb ≠ 0)) (ka + kb) = _
    rw [z]; unfold sv; split <;> omega
  · rename_i h
    split
    · show sv (nb && decide (kb - ka ≠ 0)) (kb - ka) = _
      rw [z]; cases na <;> cases nb <;> simp [sv] at h ⊢ <;> omega
    · show sv (na && decide (ka - kb ≠ 0)) (ka - kb) = _
      rw [z]; cases na <;> cases nb <;> simp [sv] at h ⊢ <;> omega
theorem wsum_le (na nb : Bool) (ka kb : Nat) : (wsum na ka nb kb).2 ≤ ka + kb := by
  unfold wsum
  split
  · exact Nat.le_refl _
  · split
    · show kb - ka ≤ _; omega
    · show ka - kb ≤ _; omega
theorem dyv_sv (p : Bool × Nat × Int) : dyv p = sv p.1 p.2.1 * pw p.2.2 := by
  unfold dyv sv
  split
  · rw [Int.neg_mul]
  · rfl
def dyAlign (lo hi : Bool × Nat × Int) : Bool × Nat × Int :=
  dyMake (wsum lo.1 lo.2.1 (hi.1 && decide (hi.2.1 * 2 ^ (hi.2.2 - lo.2.2).toNat ≠ 0)) (hi.2.1 * 2 ^ (hi.2.2 - lo.2.2).toNat)).1 (wsum lo.1 lo.2.1 (hi.1 && decide (hi.2.1 * 2 ^ (hi.2.2 - lo.2.2).toNat ≠ 0)) (hi.2.1 * 2 ^ (hi.2.2 - lo.2.2).toNat)).2 lo.2.2
def dyPlus (p q : Bool × Nat × Int) : Bool × Nat × Int :=
  if (dyNorm p).2.1 = 0 then dyNorm q else if (dyNorm q).2.1 = 0 then dyNorm p else if (dyNorm q).2.2 < (dyNorm p).2.2 then dyAlign (dyNorm q) (dyNorm p) else dyAlign (dyNorm p) (dyNorm q)
def Num.radd (x y : Num) (up : Bool) : Num :=
  if x.fair.kind = 2 ∧ y.fair.kind = 2 ∧ x.fair.neg ≠ y.fair.neg then Num.inf (!up) else if x.fair.kind = 2 then x.fair else if y.fair.kind = 2 then y.fair else dyRound (dyPlus x.fair.exact.1 y.fair.exact.1) up

/-- a number as an odd one times a power of two; or nought -/
structure Dy (p : Bool × Nat × Int) (t : Int) : Prop where
  odd : p = (false, 0, 0) ∨ p.2.1 % 2 = 1
  lo : -1048576 ≤ p.2.2
  hi : p.2.2 ≤ 1048640
  lt : p.2.1 < 18446744073709551616
  val : dyv p = t
theorem Dy.norm {p : Bool × Nat × Int} {t : Int} (h : Dy p t) : dyNorm p = p := by
  rcases h.odd with k | k
  · rw [k]; exact dyMake_zero _ _
  · have := h.lo; have := h.hi
    exact dyNorm_odd k (by omega) (by omega)
theorem exact_dy {x : Num} (ox : x.ok) (k : x.fair.kind ≠ 2) : Dy x.fair.exact.1 x.fair.val := by
  by_cases k0 : x.fair.kind = 0
  · rw [Num.fair_zero ox k0]
    have e : Num.zero.exact.1 = (false, 0, 0) := by unfold Num.exact; rfl
    rw [e]
    exact ⟨.inl rfl, by decide, by decide, by decide, by simp [dyv, Num.val_zero]⟩
  · have F := Num.fair_fin ox k0 k
    obtain ⟨x1, x2, x3, x4, x5, x6, x7, _⟩ := exact_fin F
    refine ⟨.inr x3, x4, x5, x7, ?_⟩
    unfold dyv Num.val
    rw [x2, x6]
theorem round_zero (up : Bool) : dyRound (false, 0, 0) up = Num.zero := by
  unfold dyRound
  rw [show dyNorm (false, 0, 0) = (false, 0, 0) from dyMake_zero _ _]
  unfold rnd; rfl
/-- rounded, if it is odd and not far, or nought -/
theorem round_best {p : Bool × Nat × Int} (up : Bool) (h : p = (false, 0, 0) ∨ p.2.1 % 2 = 1) (lo : -4190000 ≤ p.2.2) (hi : p.2.2 + blen (p.2.1 : Int) ≤ 4194000) : Best (dyRound p up) up (dyv p) 1 := by
  rcases h with h | h
  · rw [h, round_zero]
    exact Best.self Num.zero_may Num.zero_ok (by decide) (by decide) (by simp [dyv, Num.val_zero])
  · have b := blen_nonneg (p.2.1 : Int)
    unfold dyRound
    rw [dyNorm_odd h (by omega) (by omega)]
    exact rnd_best up h lo hi
theorem dyAlign_best {lo hi : Bool × Nat × Int} {t u : Int} (up : Bool) (hl : Dy lo t) (hh : Dy hi u) (hle : lo.2.2 ≤ hi.2.2) : Best (dyRound (dyAlign lo hi) up) up (t + u) 1 := by
  have l1 := hl.lo
  have l2 := hh.hi
  have l3 := hl.lt
  have l4 := hh.lt
  obtain ⟨d, hd⟩ : ∃ d : Nat, (hi.2.2 - lo.2.2).toNat = d := ⟨_, rfl⟩
  have eh := pw_add (e := lo.2.2) (f := d) (by omega) (by omega)
  rw [show lo.2.2 + (d : Int) = hi.2.2 by omega, Int.toNat_natCast] at eh
  have bl : hi.2.1 * 2 ^ d + lo.2.1 < 2 ^ (d + 65) := by
    have p2 : 0 < 2 ^ d := Nat.pow_pos (by decide)
    rw [Nat.pow_add]
    have a1 : (hi.2.1 + 1) * 2 ^ d ≤ 18446744073709551616 * 2 ^ d := Nat.mul_le_mul_right _ (by omega)
    have a2 : 18446744073709551616 * 1 ≤ 18446744073709551616 * 2 ^ d := Nat.mul_le_mul_left _ p2
    have a3 : (2 : Nat) ^ d * 2 ^ 65 = 18446744073709551616 * 2 ^ d + 18446744073709551616 * 2 ^ d := by
      rw [show (2 : Nat) ^ 65 = 18446744073709551616 + 18446744073709551616 by decide, Nat.mul_add, Nat.mul_comm]
    have a4 : (hi.2.1 + 1) * 2 ^ d = hi.2.1 * 2 ^ d + 2 ^ d := by rw [Nat.add_mul, Nat.one_mul]
    omega
  have W := wsum_val lo.1 (hi.1 && decide (hi.2.1 * 2 ^ d ≠ 0)) lo.2.1 (hi.2.1 * 2 ^ d)
  have Wl := wsum_le lo.1 (hi.1 && decide (hi.2.1 * 2 ^ d ≠ 0)) lo.2.1 (hi.2.1 * 2 ^ d)
  have z : sv (hi.1 && decide (hi.2.1 * 2 ^ d ≠ 0)) (hi.2.1 * 2 ^ d) = sv hi.1 (hi.2.1 * 2 ^ d) := by
    by_cases h : hi.2.1 * 2 ^ d = 0
    · rw [h]; cases hi.1 <;> simp [sv]
    · rw [decide_eq_true h, Bool.and_true]
  rw [z] at W
  unfold dyAlign
  rw [hd]
  generalize wsum lo.1 lo.2.1 (hi.1 && decide (hi.2.1 * 2 ^ d ≠ 0)) (hi.2.1 * 2 ^ d) = w at *
  have V : sv w.1 w.2 * pw lo.2.2 = t + u := by
    rw [W, ← hl.val, ← hh.val, dyv_sv, dyv_sv, eh]
    unfold sv
    split <;> split <;> push_cast <;> grind
  rcases Nat.eq_zero_or_pos w.2 with h0 | h0
  · rw [h0, dyMake_zero, round_zero]
    refine Best.self Num.zero_may Num.zero_ok (by decide) (by decide) ?_
    rw [← V, h0, Num.val_zero]
    unfold sv; split <;> simp
  · have v := v2_blen h0
    have bw : blen (w.2 : Int) ≤ d + 65 := by
      have : w.2 < 2 ^ (d + 65) := by omega
      have := blen_le (x := (w.2 : Int)) (d + 65) (by exact_mod_cast this)
      omega
    obtain ⟨d1, d2, d3, d4, d5, d6⟩ := dyMake_val (ng := w.1) (k := w.2) (e := lo.2.2) h0 (by omega) (by omega)
    generalize dyMake w.1 w.2 lo.2.2 = P at *
    have := round_best (p := P) up (.inr d1) (by omega) (by omega)
    rw [← V]
    have eV : dyv P = sv w.1 w.2 * pw lo.2.2 := by
      unfold dyv sv; rw [d2, d5]; split
      · rw [Int.neg_mul]
      · rfl
    rw [← eV]; exact this

/-- THE SUM of the reference is the program's. -/
theorem radd_eq {x y : Num} (ox : x.ok) (oy : y.ok) (up : Bool) : Num.radd x y up = Num.add x y up := by
  by_cases k0 : x.fair.kind = 2 ∧ y.fair.kind = 2 ∧ x.fair.neg ≠ y.fair.neg
  · unfold Num.radd Num.add; rw [if_pos k0, if_pos k0]
  by_cases k1 : x.fair.kind = 2
  · unfold Num.radd Num.add; rw [if_neg k0, if_pos k1, if_neg k0, if_pos (.inl k1)]
  by_cases k2 : y.fair.kind = 2
  · unfold Num.radd Num.add
    rw [if_neg k0, if_neg k1, if_pos k2, if_neg k0, if_neg (by omega), if_pos (.inl k2)]
  have B := add_best ox oy k1 k2 up
  have R : Best (Num.radd x y up) up (x.fair.val + y.fair.val) 1 := by
    have DX := exact_dy ox k1
    have DY := exact_dy oy k2
    unfold Num.radd
    rw [if_neg k0, if_neg k1, if_neg k2]
    generalize x.fair.exact.1 = X at *
    generalize y.fair.exact.1 = Y at *
    have bx : blen (X.2.1 : Int) ≤ 64 := blen_le 64 (by have := DX.lt; show (X.2.1 : Int) < 18446744073709551616; omega)
    have bY : blen (Y.2.1 : Int) ≤ 64 := blen_le 64 (by have := DY.lt; show (Y.2.1 : Int) < 18446744073709551616; omega)
    have := DX.lo; have := DX.hi; have := DY.lo; have := DY.hi
    unfold dyPlus
    rw [DX.norm, DY.norm]
    split
    · rename_i z
      have e : x.fair.val = 0 := by rw [← DX.val]; unfold dyv; rw [z]; split <;> simp
      rw [e, Int.zero_add, ← DY.val]
      exact round_best up DY.odd (by omega) (by omega)
    · split
      · rename_i z
        have e : y.fair.val = 0 := by rw [← DY.val]; unfold dyv; rw [z]; split <;> simp
        rw [e, Int.add_zero, ← DX.val]
        exact round_best up DX.odd (by omega) (by omega)
      · split
        · rw [Int.add_comm]; exact dyAlign_best up DY DX (by omega)
        · exact dyAlign_best up DX DY (by omega)
  exact R.uniq B (by decide) (by decide) rfl
end Go.Proofs.YtoghalnnmhpfmaaGreat.Ev

/- Contracts of the reference: the quotient of two numbers. Printed by gen.py. -/
namespace Go.Proofs.YtoghalnnmhpfmaaGreat.Ev
open Go Go.Proofs
set_option linter.unusedVariables false
set_option linter.unusedSimpArgs false

attribute [local irreducible] Lb
end Go.Proofs.YtoghalnnmhpfmaaGreat.Ev

/- The reference's order of numbers is the program's: plain Lean. -/
namespace Go.Proofs.YtoghalnnmhpfmaaGreat.Ev
open Go

def Num.rcmp (x y : Num) : Int :=
  if x.fair.sign ≠ y.fair.sign then (if x.fair.sign < y.fair.sign then -1 else 1)
  else if x.fair.sign = 0 ∨ x.fair = y.fair then 0
  else if x.fair.kind = 2 ∨ (y.fair.kind ≠ 2 ∧ (y.fair.e < x.fair.e ∨ (x.fair.e = y.fair.e ∧ y.fair.m < x.fair.m))) then x.fair.sign else IntKind.i64.wrap (0 - x.fair.sign)
theorem more_iff {A B : Num} (mA : A.may = true) (mB : B.may = true) (oA : A.ok) (oB : B.ok) (kA : A.kind ≠ 0) (kB : B.kind ≠ 0) (hn : A.neg = B.neg) (hne : A ≠ B) :
    (A.kind = 2 ∨ (B.kind ≠ 2 ∧ (B.e < A.e ∨ (A.e = B.e ∧ B.m < A.m)))) ↔ B.W < A.W := by
  rw [← Num.farther_iff mA mB oA oB]
  unfold Num.farther
  rcases Num.may3 mA oA with h | h | h
  · rw [h] at kA; exact absurd rfl kA
  · have a1 := h.kind
    rcases Num.may3 mB oB with k | k | k
    · rw [k] at kB; exact absurd rfl kB
    · have b1 := k.kind
      rw [if_neg (by rw [a1, b1]; decide)]
      split
      · rw [decide_eq_true_eq]; omega
      · rw [decide_eq_true_eq]; omega
    · have b1 : B.kind = 2 := by rw [k]; rfl
      rw [if_pos (by omega), decide_eq_true_eq]; omega
  · have a1 : A.kind = 2 := by rw [h]; rfl
    rcases Num.may3 mB oB with k | k | k
    · rw [k] at kB; exact absurd rfl kB
    · have b1 := k.kind
      rw [if_pos (by omega), decide_eq_true_eq]; omega
    · exact absurd (by rw [h, k, hn]) hne
theorem rcmp_eq {x y : Num} (ox : x.ok) (oy : y.ok) : Num.rcmp x y = Num.cmp x y := by
  have S := Num.cmp_spec ox oy
  have mA := x.fair_may
  have mB := y.fair_may
  have oA := Num.fair_ok ox
  have oB := Num.fair_ok oy
  unfold Num.rcmp
  generalize Num.cmp x y = c at *
  generalize x.fair = A at *
  generalize y.fair = B at *
  have sA := Num.sign_of mA oA
  have sB := Num.sign_of mB oB
  have w1 : IntKind.i64.wrap (0 - 1) = -1 := by decide
  have w2 : IntKind.i64.wrap (0 - -1) = 1 := by decide
  by_cases h : A.sign = B.sign
  · rw [if_neg (by omega)]
    by_cases h0 : A.sign = 0 ∨ A = B
    · rw [if_pos h0]
      rcases h0 with h0 | h0
      · omega
      · rw [h0] at S; omega
    · rw [if_neg h0]
      have hne : A ≠ B := fun e => h0 (.inr e)
      have vne : A.val ≠ B.val := fun e => hne (Num.val_inj mA mB oA oB e)
      rcases sA with sA | sA | sA
      · omega
      · rcases sB with sB | sB | sB
        · omega
        · have M := more_iff mA mB oA oB sA.2.2.2.2 sB.2.2.2.2 (by rw [sA.2.2.2.1, sB.2.2.2.1]) hne
          rw [sA.1, w1]
          split
          · rename_i q; have := M.1 q; omega
          · rename_i q
            have : ¬ B.W < A.W := fun k => q (M.2 k)
            omega
        · omega
      · rcases sB with sB | sB | sB
        · omega
        · omega
        · have M := more_iff mA mB oA oB sA.2.2.2.2 sB.2.2.2.2 (by rw [sA.2.2.2.1, sB.2.2.2.1]) hne
          rw [sA.1, w2]
          split
          · rename_i q; have := M.1 q; omega
          · rename_i q
            have : ¬ B.W < A.W := fun k => q (M.2 k)
            omega
  · rw [if_pos h]
    split <;> omega
end Go.Proofs.YtoghalnnmhpfmaaGreat.Ev

/- Contracts of the reference: the order of numbers, the least and the greatest. Printed by gen.py. -/
namespace Go.Proofs.YtoghalnnmhpfmaaGreat.Ev
open Go Go.Proofs
set_option linter.unusedVariables false
set_option linter.unusedSimpArgs false
theorem c_r0Cmp (x : Num) (y : Num)  : ∃ t : Int, t = Num.rcmp x y ∧ CallsA Tryz.prog 104 [x.av, y.av] (.int .i64 (.s t)) := by
  refine ⟨_, rfl, ?_⟩
  generalize hr : Num.rcmp x y = r
  refine callsA_of hG hm Tryz.func104 (by kernel_rfl) ?_
  intro E hE lp hl
  cbv
  repeat' (first
    | (apply E_br_t hE; assumption; cbv)
    | (apply E_br_f hE; assumption; cbv)
    | (refine E_br hE (fun h => ?_) (fun h => ?_) <;> cbv)
    | (refine E_nm hE (fun v hv => ?_); cbv)
    | (apply E_callX hE (c_rFair ⟨_, _, _, _⟩); (case hf => rfl); (case hc => (cbv <;> trivial)); (case hle => exact u_up); intro t ht; cbv)
    | (apply E_callX hE (c_rSign ⟨_, _, _, _⟩); (case hf => rfl); (case hc => (cbv <;> trivial)); (case hle => exact u_up); intro t ht; cbv)
    | fail)
  all_goals (subst hE; subst hr)
  all_goals (try simp only [realE, cmp_eql, cmp_neq, cmp_lss, cmp_leq, cmp_gtr, cmp_geq, intBinR, decide_eq_true_eq, decide_eq_false_iff_not, SI.val, SB.val, Num.eta, Iv.eta] at *)
  all_goals (simp only [Num.rcmp])
  all_goals (try subst_vars)
  all_goals (try simp_all [Num.eq_iff])
  all_goals (try (intros; omega))
  all_goals (rw [if_neg (fun k => ‹x.fair.kind = y.fair.kind → x.fair.neg = y.fair.neg → ¬ x.fair.m = y.fair.m› k.1 k.2.1 k.2.2), if_neg (by omega)])

theorem c_r5Cmp (x y : Num) (ox : x.ok) (oy : y.ok) : ∃ t : Int, t = Num.cmp x y ∧ CallsA Tryz.prog 104 [x.av, y.av] (.int .i64 (.s t)) := by
  obtain ⟨t, ht, hC⟩ := c_r0Cmp x y
  exact ⟨t, ht.trans (rcmp_eq ox oy), hC⟩

theorem c_rLeast (l : List Num) (n : Int) (hn : n = l.length) (hb : n < 9223372036854775808) (hl_ : ∀ x ∈ l, x.ok) : ∃ t, t = Num.least l ∧ CallsA Tryz.prog 74 [.slc 4 (.s n) (fun i => Num.cells (l.getD i Num.zero))] (Num.av t) := by
  refine ⟨_, rfl, ?_⟩
  generalize hr : Num.least l = r
  obtain ⟨z, hz⟩ : ∃ z, z = Num.zero := ⟨_, rfl⟩
  rw [← hz]
  have ok0 : ∀ i : Nat, (l.getD i z).ok := by
    intro i
    rw [hz]
    rcases Nat.lt_or_ge i l.length with h | h
    · have e : l.getD i Num.zero = l[i] := by simp [List.getD, List.getElem?_eq_getElem h]
      rw [e]; exact hl_ _ (List.getElem_mem h)
    · have e : l.getD i Num.zero = Num.zero := by simp [List.getD, List.getElem?_eq_none h]
      rw [e]; exact Num.zero_ok
  have okl : ∀ i : Int, (Num.leastTo l i).ok := by
    intro i
    unfold Num.leastTo
    exact (Num.least_spec _ (fun x hx => hl_ x (List.mem_of_mem_take hx))).2.1
  clear hl_
  refine callsA_of hG hm Tryz.func74 (by kernel_rfl) ?_
  intro E hE lp hl
  cbv
  (apply E_callX hE (c_rInf _); (case hf => rfl); (case hc => (cbv <;> trivial)); (case hle => exact u_up); intro t ht; cbv)
  refine E_loopW hE hG hm hl (ι := Int × Num) (fun p => ⟨[(4, .int .i64 (.s p.1)), (0, .slc 4 (.s n) (fun i => Num.cells (l.getD i z))), (3, .ptr 1 4 (.l 0) 0), (2, .ptr 0 4 (.l 0) 0)],
      [.rows true 4 [.int .i64 (.l 0), .bool (.l false), .int .u64 (.l 0), .int .i64 (.l 0)] [[.int .i64 (.l 0), .bool (.l false), .int .u64 (.l 0), .int .i64 (.l 0)]],
       .rows true 4 [.int .i64 (.l 0), .bool (.l false), .int .u64 (.l 0), .int .i64 (.l 0)] [Num.cells p.2]]⟩)
    (fun p => (n - p.1).toNat) (fun p => 0 ≤ p.1 ∧ p.1 ≤ n ∧ p.2 = Num.leastTo l p.1) (fun p => rfl) ⟨(0, t), ⟨Int.le_refl 0, (by show (0 : Int) ≤ n; rw [hn]; exact Int.natCast_nonneg _), ht⟩, stLe rfl ?_⟩ ?_
  · repeat' (first | exact t_nil | apply t_cons | exact u2_int | exact u2_ptr | exact u2_slc')
  rintro ⟨i, o⟩ ⟨h1, h2, h3⟩
  dsimp only at h1 h2 h3
  have oo : o.ok := by rw [h3]; exact okl i
  cbv
  repeat' (first
    | (refine E_br hE (fun h => ?_) (fun h => ?_) <;> cbv)
    | (refine E_nm hE (fun v hv => ?_); cbv)
    | (refine E_row hE (cell := Num.cells) (fun t ht => ?_); have ot : t.ok := (by rw [ht]; exact ok0 _); cbv)
    | (apply E_pcallX hE (c_r5Cmp ⟨_, _, _, _⟩ ⟨_, _, _, _⟩ ?_ ?_); (case hm => rfl); (case hle => exact u_up); all_goals (first | (intro t ht; cbv) | assumption))
    | (apply E_callX hE (c_rFair ⟨_, _, _, _⟩); (case hf => rfl); (case hc => (cbv <;> trivial)); (case hle => exact u_up); intro t ht; cbv)
    | fail)
  all_goals (clear okl ok0)
  all_goals (try (first
    | refine ⟨(v, t), ?_, ⟨?_, ?_, ?_⟩, stLeW rfl ⟨rfl, rfl, trivial⟩ ?_⟩
    | refine ⟨(v, o), ?_, ⟨?_, ?_, ?_⟩, stLeW rfl ⟨rfl, rfl, trivial⟩ ?_⟩))
  all_goals (try (refine w_cons ?_ rfl ?_; (repeat' (first | exact w_nil | refine w_cons ?_ rfl ?_ | exact u2_int | exact u2_ptr | exact u2_slc')); done))
  all_goals (subst hE; simp only [realE, cmp_lss, cmp_leq, cmp_gtr, intBinR, decide_eq_true_eq, decide_eq_false_iff_not, SI.val, SB.val, Num.eta] at *)
  all_goals (try subst hv)
  all_goals (try rw [wi64_succ h1 ‹i < n› hb])
  all_goals (try omega)
  all_goals (replace hn : n = (l.length : Int) := hn)
  all_goals (first
    | (rw [Num.leastTo_succ l h1 (by omega), ← h3, ← hz]; clear hn hr h3 oo; (try subst_vars); unfold Num.lesser; first | rw [if_pos (by assumption)] | rw [if_neg (by omega)])
    | (refine Num.fin (t := o) ?_
       have hi : i = n := by omega
       rw [← hr, h3, hi, hn, Num.leastTo_all]))

theorem c_rMost (l : List Num) (n : Int) (hn : n = l.length) (hb : n < 9223372036854775808) (hl_ : ∀ x ∈ l, x.ok) : ∃ t, t = Num.most l ∧ CallsA Tryz.prog 62 [.slc 4 (.s n) (fun i => Num.cells (l.getD i Num.zero))] (Num.av t) := by
  refine ⟨_, rfl, ?_⟩
  generalize hr : Num.most l = r
  obtain ⟨z, hz⟩ : ∃ z, z = Num.zero := ⟨_, rfl⟩
  rw [← hz]
  have ok0 : ∀ i : Nat, (l.getD i z).ok := by
    intro i
    rw [hz]
    rcases Nat.lt_or_ge i l.length with h | h
    · have e : l.getD i Num.zero = l[i] := by simp [List.getD, List.getElem?_eq_getElem h]
      rw [e]; exact hl_ _ (List.getElem_mem h)
    · have e : l.getD i Num.zero = Num.zero := by simp [List.getD, List.getElem?_eq_none h]
      rw [e]; exact Num.zero_ok
  have okl : ∀ i : Int, (Num.mostTo l i).ok := by
    intro i
    unfold Num.mostTo
    exact (Num.most_spec _ (fun x hx => hl_ x (List.mem_of_mem_take hx))).2.1
  clear hl_
  refine callsA_of hG hm Tryz.func62 (by kernel_rfl) ?_
  intro E hE lp hl
  cbv
  (apply E_callX hE (c_rInf _); (case hf => rfl); (case hc => (cbv <;> trivial)); (case hle => exact u_up); intro t ht; cbv)
  refine E_loopW hE hG hm hl (ι := Int × Num) (fun p => ⟨[(4, .int .i64 (.s p.1)), (0, .slc 4 (.s n) (fun i => Num.cells (l.getD i z))), (3, .ptr 1 4 (.l 0) 0), (2, .ptr 0 4 (.l 0) 0)],
      [.rows true 4 [.int .i64 (.l 0), .bool (.l false), .int .u64 (.l 0), .int .i64 (.l 0)] [[.int .i64 (.l 0), .bool (.l false), .int .u64 (.l 0), .int .i64 (.l 0)]],
       .rows true 4 [.int .i64 (.l 0), .bool (.l false), .int .u64 (.l 0), .int .i64 (.l 0)] [Num.cells p.2]]⟩)
    (fun p => (n - p.1).toNat) (fun p => 0 ≤ p.1 ∧ p.1 ≤ n ∧ p.2 = Num.mostTo l p.1) (fun p => rfl) ⟨(0, t), ⟨Int.le_refl 0, (by show (0 : Int) ≤ n; rw [hn]; exact Int.natCast_nonneg _), ht⟩, stLe rfl ?_⟩ ?_
  · repeat' (first | exact t_nil | apply t_cons | exact u2_int | exact u2_ptr | exact u2_slc')
  rintro ⟨i, o⟩ ⟨h1, h2, h3⟩
  dsimp only at h1 h2 h3
  have oo : o.ok := by rw [h3]; exact okl i
  cbv
  repeat' (first
    | (refine E_br hE (fun h => ?_) (fun h => ?_) <;> cbv)
    | (refine E_nm hE (fun v hv => ?_); cbv)
    | (refine E_row hE (cell := Num.cells) (fun t ht => ?_); have ot : t.ok := (by rw [ht]; exact ok0 _); cbv)
    | (apply E_pcallX hE (c_r5Cmp ⟨_, _, _, _⟩ ⟨_, _, _, _⟩ ?_ ?_); (case hm => rfl); (case hle => exact u_up); all_goals (first | (intro t ht; cbv) | assumption))
    | (apply E_callX hE (c_rFair ⟨_, _, _, _⟩); (case hf => rfl); (case hc => (cbv <;> trivial)); (case hle => exact u_up); intro t ht; cbv)
    | fail)
  all_goals (clear okl ok0)
  all_goals (try (first
    | refine ⟨(v, t), ?_, ⟨?_, ?_, ?_⟩, stLeW rfl ⟨rfl, rfl, trivial⟩ ?_⟩
    | refine ⟨(v, o), ?_, ⟨?_, ?_, ?_⟩, stLeW rfl ⟨rfl, rfl, trivial⟩ ?_⟩))
  all_goals (try (refine w_cons ?_ rfl ?_; (repeat' (first | exact w_nil | refine w_cons ?_ rfl ?_ | exact u2_int | exact u2_ptr | exact u2_slc')); done))
  all_goals (subst hE; simp only [realE, cmp_lss, cmp_leq, cmp_gtr, intBinR, decide_eq_true_eq, decide_eq_false_iff_not, SI.val, SB.val, Num.eta] at *)
  all_goals (try subst hv)
  all_goals (try rw [wi64_succ h1 ‹i < n› hb])
  all_goals (try omega)
  all_goals (replace hn : n = (l.length : Int) := hn)
  all_goals (first
    | (rw [Num.mostTo_succ l h1 (by omega), ← h3, ← hz]; clear hn hr h3 oo; (try subst_vars); unfold Num.greater; first | rw [if_pos (by assumption)] | rw [if_neg (by omega)])
    | (refine Num.fin (t := o) ?_
       have hi : i = n := by omega
       rw [← hr, h3, hi, hn, Num.mostTo_all]))

end Go.Proofs.YtoghalnnmhpfmaaGreat.Ev

/- The reference's intervals are the program's: plain Lean. -/
namespace Go.Proofs.YtoghalnnmhpfmaaGreat.Ev
open Go

theorem Iv.fair_emp (x : Iv) : x.fair.empty = x.bad := by
  unfold Iv.fair Iv.bad
  cases h : x.may
  · simp [Iv.none]
  · simp
theorem Iv.fair_good {x : Iv} (h : x.fair.empty = false) : x.fair = x := by
  rw [Iv.fair_emp] at h
  unfold Iv.bad at h
  simp only [Bool.or_eq_false_iff, Bool.not_eq_false'] at h
  unfold Iv.fair; rw [if_pos h.2]
theorem Iv.fair_oks {x : Iv} (o1 : x.lo.ok) (o2 : x.hi.ok) : x.fair.lo.ok ∧ x.fair.hi.ok := by
  unfold Iv.fair
  split
  · exact ⟨o1, o2⟩
  · exact ⟨Num.zero_ok, Num.zero_ok⟩
theorem Iv.anyBad_two (a b : Iv) : Iv.anyBad [a, b] = (a.fair.empty || b.fair.empty) := by
  rw [Iv.fair_emp, Iv.fair_emp]; simp [Iv.anyBad]

def Iv.rneg (a : Iv) : Iv := if a.fair.empty = true then a.fair else Iv.make a.fair.hi.opp a.fair.lo.opp
theorem Iv.none_of {a : Iv} (h : a.fair.empty = true) : a.fair = Iv.none := by
  unfold Iv.fair at h ⊢
  split
  · rename_i m
    rw [if_pos m] at h
    exact Iv.empty_may m h
  · rfl
theorem Iv.anyBad_one (a : Iv) : Iv.anyBad [a] = a.fair.empty := by rw [Iv.fair_emp]; simp [Iv.anyBad]
theorem Iv.rneg_eq (a : Iv) : Iv.rneg a = Iv.neg a := by
  unfold Iv.rneg Iv.neg
  rw [Iv.anyBad_one]
  split
  · rename_i h; exact Iv.none_of h
  · rename_i h
    rw [Iv.fair_good (by simpa using h)]
end Go.Proofs.YtoghalnnmhpfmaaGreat.Ev

/- Contracts of the reference: intervals. Printed by gen.py. -/
namespace Go.Proofs.YtoghalnnmhpfmaaGreat.Ev
open Go Go.Proofs
set_option linter.unusedVariables false
set_option linter.unusedSimpArgs false

theorem c_r8None   : ∃ t : Iv, t = Iv.none ∧ CallsA Tryz.prog 69 [] (t.av) := by
  refine ⟨_, rfl, ?_⟩
  generalize hr : Iv.none = r
  refine callsA_of hG hm Tryz.func69 (by kernel_rfl) ?_
  intro E hE lp hl
  cbv
  repeat' (first
    | (refine E_br hE (fun h => ?_) (fun h => ?_) <;> cbv)
    | (refine E_nm hE (fun v hv => ?_); cbv)
    | fail)
  all_goals (subst hE; subst hr)
  all_goals (try simp only [realE, cmp_eql, cmp_neq, cmp_lss, cmp_leq, cmp_gtr, cmp_geq, intBinR, decide_eq_true_eq, decide_eq_false_iff_not, SI.val, SB.val, Num.eta, Iv.eta] at *)
  all_goals (try simp_all [Iv.none, Num.zero])
  all_goals (try omega)
  all_goals (try simp only [Bool.and_assoc])
  all_goals (try rfl)
  all_goals ((repeat' split) <;> (try simp_all) <;> (try omega))

theorem c_r8May (x : Iv) (o1 : x.lo.ok) (o2 : x.hi.ok) : ∃ t : Bool, t = x.may ∧ CallsA Tryz.prog 102 [x.av] (.bool (.s t)) := by
  refine ⟨_, rfl, ?_⟩
  generalize hr : x.may = r
  refine callsA_of hG hm Tryz.func102 (by kernel_rfl) ?_
  intro E hE lp hl
  cbv
  repeat' (first
    | (refine E_br hE (fun h => ?_) (fun h => ?_) <;> cbv)
    | (refine E_nm hE (fun v hv => ?_); cbv)
    | (apply E_pcallX hE (c_r8None ); (case hm => rfl); (case hle => exact u_up); intro t ht; cbv)
    | (apply E_callX hE (c_rMay ⟨_, _, _, _⟩); (case hf => rfl); (case hc => (cbv <;> trivial)); (case hle => exact u_up); intro t ht; cbv)
    | (apply E_pcallX hE (c_r5Cmp ⟨_, _, _, _⟩ ⟨_, _, _, _⟩ ?_ ?_); (case hm => rfl); (case hle => exact u_up); all_goals (first | (intro t ht; cbv) | (subst hE; (try simp only [realE, cmp_eql, cmp_neq, cmp_lss, cmp_leq, cmp_gtr, cmp_geq, intBinR, decide_eq_true_eq, decide_eq_false_iff_not, SI.val, SB.val, Num.eta, Iv.eta] at *); first | assumption | omega)))
    | (apply E_pcallX hE (c_rInf _); (case hm => rfl); (case hle => exact u_up); intro t ht; cbv)
    | fail)
  all_goals (subst hE; subst hr)
  all_goals (try simp only [realE, cmp_eql, cmp_neq, cmp_lss, cmp_leq, cmp_gtr, cmp_geq, intBinR, decide_eq_true_eq, decide_eq_false_iff_not, SI.val, SB.val, Num.eta, Iv.eta] at *)
  all_goals (try simp_all [Iv.may, Iv.none, Num.zero, Iv.eq_iff, Num.eq_iff, Num.inf])
  all_goals (try omega)
  all_goals (try simp only [Bool.and_assoc])
  all_goals (try rfl)
  all_goals ((repeat' split) <;> (try simp_all) <;> (try omega))

theorem c_r8Fair (x : Iv) (o1 : x.lo.ok) (o2 : x.hi.ok) : ∃ t : Iv, t = x.fair ∧ CallsA Tryz.prog 60 [x.av] (t.av) := by
  refine ⟨_, rfl, ?_⟩
  generalize hr : x.fair = r
  refine callsA_of hG hm Tryz.func60 (by kernel_rfl) ?_
  intro E hE lp hl
  cbv
  repeat' (first
    | (refine E_br hE (fun h => ?_) (fun h => ?_) <;> cbv)
    | (refine E_nm hE (fun v hv => ?_); cbv)
    | (apply E_callX hE (c_r8May ⟨_, ⟨_, _, _, _⟩, ⟨_, _, _, _⟩⟩ ?_ ?_); (case hf => rfl); (case hc => (cbv <;> trivial)); (case hle => exact u_up); all_goals (first | (intro t ht; cbv) | (subst hE; (try simp only [realE, cmp_eql, cmp_neq, cmp_lss, cmp_leq, cmp_gtr, cmp_geq, intBinR, decide_eq_true_eq, decide_eq_false_iff_not, SI.val, SB.val, Num.eta, Iv.eta] at *); first | assumption | omega)))
    | (apply E_callX hE (c_r8None ); (case hf => rfl); (case hc => (cbv <;> trivial)); (case hle => exact u_up); intro t ht; cbv)
    | fail)
  all_goals (subst hE; subst hr)
  all_goals (try simp only [realE, cmp_eql, cmp_neq, cmp_lss, cmp_leq, cmp_gtr, cmp_geq, intBinR, decide_eq_true_eq, decide_eq_false_iff_not, SI.val, SB.val, Num.eta, Iv.eta] at *)
  all_goals (try simp_all [Iv.fair])
  all_goals (try omega)
  all_goals (try simp only [Bool.and_assoc])
  all_goals (try rfl)
  all_goals ((repeat' split) <;> (try simp_all) <;> (try omega))

theorem c_r8Make (lo hi : Num) (o1 : lo.ok) (o2 : hi.ok) : ∃ t : Iv, t = Iv.make lo hi ∧ CallsA Tryz.prog 50 [lo.av, hi.av] t.av := by
  refine ⟨_, rfl, ?_⟩
  rw [Iv.make_eq]
  generalize hr : Iv.fair ⟨false, lo.fair, hi.fair⟩ = r
  have f1 := Num.fair_ok o1
  have f2 := Num.fair_ok o2
  refine callsA_of hG hm Tryz.func50 (by kernel_rfl) ?_
  intro E hE lp hl'
  cbv
  (apply E_pcallX hE (c_r6Fair ⟨_, _, _, _⟩); (case hm => rfl); (case hle => exact u_up); all_goals (first | (intro a ha; cbv) | (assumption)))
  (apply E_pcallX hE (c_r6Fair ⟨_, _, _, _⟩); (case hm => rfl); (case hle => exact u_up); all_goals (first | (intro b hb; cbv) | (assumption)))
  (apply E_pcallX hE (c_r8Fair ⟨_, ⟨_, _, _, _⟩, ⟨_, _, _, _⟩⟩ ?_ ?_); (case hm => rfl); (case hle => exact u_up); all_goals (first | (intro t ht; cbv) | (first | (show a.ok; rw [show a = lo.fair from ha]; exact f1) | (show b.ok; rw [show b = hi.fair from hb]; exact f2))))
  have T : t = r := by
    rw [← hr, ← show a = lo.fair from ha, ← show b = hi.fair from hb]; exact ht
  rw [T]; exact ⟨rfl, rfl, rfl, rfl, rfl, rfl, rfl, rfl, rfl, trivial⟩
end Go.Proofs.YtoghalnnmhpfmaaGreat.Ev

/- Contracts of the reference: the sum of two numbers. Printed by gen.py. -/
namespace Go.Proofs.YtoghalnnmhpfmaaGreat.Ev
open Go Go.Proofs
set_option linter.unusedVariables false
set_option linter.unusedSimpArgs false

attribute [local irreducible] Lb
theorem sum_len {a b : List Int} (ha : Lb a) (hb : Lb b) : (lim (lv a + lv b)).length ≤ a.length + b.length + 1 := by
  have l1 := lv_lt ha
  have l2 := lv_lt hb
  have p1 : (4294967296 : Nat) ^ a.length ≤ 4294967296 ^ (a.length + b.length) := Nat.pow_le_pow_right (by decide) (by omega)
  have p2 : (4294967296 : Nat) ^ b.length ≤ 4294967296 ^ (a.length + b.length) := Nat.pow_le_pow_right (by decide) (by omega)
  refine lim_length_le ?_
  rw [Nat.pow_succ]; omega
theorem wsum_len {na nb : Bool} {a b : List Int} (ha : Lb a) (hb : Lb b) : (lim (wsum na (lv a) nb (lv b)).2).length ≤ a.length + b.length + 1 := by
  have l := wsum_le na nb (lv a) (lv b)
  have s := sum_len ha hb
  have q := lim_lt (lv a + lv b)
  exact Nat.le_trans (lim_length_le (Nat.lt_of_le_of_lt l q)) s
theorem c_r2Add (na : Bool) (a : List Int) (nb : Bool) (b : List Int) (ha : Lb a) (hb : Lb b) (hla : a.length ≤ 100000) (hlb : b.length ≤ 100000) :
    ∃ t : Bool × List Int, t = ((wsum na (lv a) nb (lv b)).1, lim (wsum na (lv a) nb (lv b)).2) ∧ CallsA Tryz.prog 143 [.agg [.bool (.s na), .sli .u32 a], .agg [.bool (.s nb), .sli .u32 b]] (.agg [.bool (.s t.1), .sli .u32 t.2]) := by
  refine ⟨_, rfl, ?_⟩
  generalize hr : (((wsum na (lv a) nb (lv b)).1, lim (wsum na (lv a) nb (lv b)).2) : Bool × List Int) = r
  have same : na = nb → ∀ s : List Int, s = lim (lv a + lv b) → Lb s ∧ s.length ≤ 268435456 ∧ ∀ t : Bool × List Int, t = (na && decide (lv s ≠ 0), lim (lv s)) → t = r := by
    intro h s hs
    refine ⟨by rw [hs]; exact lim_lb _, by rw [hs]; have := sum_len ha hb; omega, fun t ht => ?_⟩
    rw [ht, ← hr, hs, lv_lim]; unfold wsum; rw [if_pos h]
  have less : na ≠ nb → lv a < lv b → ∀ s : List Int, s = lim (lv b - lv a) → Lb s ∧ s.length ≤ 268435456 ∧ ∀ t : Bool × List Int, t = (nb && decide (lv s ≠ 0), lim (lv s)) → t = r := by
    intro h g s hs
    refine ⟨by rw [hs]; exact lim_lb _, by rw [hs]; have := lim_len_of hb (Nat.sub_le (lv b) (lv a)); omega, fun t ht => ?_⟩
    rw [ht, ← hr, hs, lv_lim]; unfold wsum; rw [if_neg h, if_pos g]
  have more : na ≠ nb → ¬ lv a < lv b → ∀ s : List Int, s = lim (lv a - lv b) → Lb s ∧ s.length ≤ 268435456 ∧ ∀ t : Bool × List Int, t = (na && decide (lv s ≠ 0), lim (lv s)) → t = r := by
    intro h g s hs
    refine ⟨by rw [hs]; exact lim_lb _, by rw [hs]; have := lim_len_of ha (Nat.sub_le (lv a) (lv b)); omega, fun t ht => ?_⟩
    rw [ht, ← hr, hs, lv_lim]; unfold wsum; rw [if_neg h, if_neg g]
  have subs : ∀ (x y : List Int) (s : List Int × Bool), s = (if lv x < lv y then ([], false) else (lim (lv x - lv y), true)) → (s.2 = false → lv x < lv y) ∧ (s.2 = true → ¬ lv x < lv y ∧ s.1 = lim (lv x - lv y)) := by
    intro x y s hs
    subst hs
    by_cases k : lv x < lv y
    · rw [if_pos k]; exact ⟨fun _ => k, fun h => by cases h⟩
    · rw [if_neg k]; exact ⟨fun h => by (cases h), fun _ => ⟨k, rfl⟩⟩
  have subs2 : ∀ (x y : List Int) (s : List Int × Bool), lv y < lv x → s = (if lv x < lv y then ([], false) else (lim (lv x - lv y), true)) → s.1 = lim (lv x - lv y) := by
    intro x y s h hs
    rw [hs, if_neg (by omega)]
  clear hr
  refine callsA_of hG hm Tryz.func143 (by kernel_rfl) ?_
  intro E hE lp hl'
  cbv
  refine E_br hE (fun g => ?_) (fun g => ?_) <;> cbv
  · have gn : na = nb := by subst hE; have k : (na == nb) = true := g; simpa using k
    (apply E_pcallX hE (c_rAdd _ _ ha hb ?_ ?_); (case hm => rfl); (case hle => exact u_up); all_goals (first | (intro s hs; cbv) | (first | exact Nat.lt_of_le_of_lt hla (by decide) | exact Nat.lt_of_le_of_lt hlb (by decide))))
    have S := same gn s hs
    (apply E_pcallX hE (c_r2Make _ _ S.1 S.2.1); (case hm => rfl); (case hle => exact u_up); all_goals (first | (intro t ht; cbv) | (assumption)))
    rw [← S.2.2 t ht]; exact ⟨rfl, rfl, trivial⟩
  · have gn : na ≠ nb := by subst hE; have k : (na == nb) = false := g; simpa using k
    (apply E_callX hE (c_rSub _ _ ha hb ?_ ?_); (case hf => rfl); (case hc => (cbv <;> trivial)); (case hle => exact u_up); all_goals (first | (intro s hs; cbv) | (first | exact Nat.lt_of_le_of_lt hla (by decide) | exact Nat.lt_of_le_of_lt hlb (by decide))))
    have D := subs a b s hs
    clear hs
    refine E_br hE (fun g2 => ?_) (fun g2 => ?_) <;> cbv
    · have S := more gn (D.2 g2).1 s.1 (D.2 g2).2
      (apply E_callX hE (c_r2Make _ _ S.1 S.2.1); (case hf => rfl); (case hc => (cbv <;> trivial)); (case hle => exact u_up); all_goals (first | (intro t ht; cbv) | (assumption)))
      rw [← S.2.2 t ht]; exact ⟨rfl, rfl, trivial⟩
    · have lt := D.1 g2
      (apply E_callX hE (c_rSub _ _ hb ha ?_ ?_); (case hf => rfl); (case hc => (cbv <;> trivial)); (case hle => exact u_up); all_goals (first | (intro u hu; cbv) | (first | exact Nat.lt_of_le_of_lt hla (by decide) | exact Nat.lt_of_le_of_lt hlb (by decide))))
      have S := less gn lt u.1 (subs2 b a u lt hu)
      (apply E_callX hE (c_r2Make _ _ S.1 S.2.1); (case hf => rfl); (case hc => (cbv <;> trivial)); (case hle => exact u_up); all_goals (first | (intro t ht; cbv) | (assumption)))
      rw [← S.2.2 t ht]; exact ⟨rfl, rfl, trivial⟩

/-! ### the sum of two exact numbers -/
/-- not too far, nor too long -/
structure DyN (P : Bool × Nat × Int) : Prop where
  len : (lim P.2.1).length ≤ 1000
  lo : -200000 ≤ P.2.2
  hi : P.2.2 ≤ 200000
theorem dyNorm_n {p : Bool × Nat × Int} (h : (lim p.2.1).length ≤ 1000) (lo : -100000 ≤ p.2.2) (hi : p.2.2 ≤ 100000) : DyN (dyNorm p) := by
  have r := dyMake_rng p.1 p.2.1 p.2.2
  have l := lim_length_le (Nat.lt_of_le_of_lt r.2.2 (lim_lt p.2.1))
  refine ⟨by show (lim (dyMake p.1 p.2.1 p.2.2).2.1).length ≤ 1000; omega, ?_, ?_⟩
  · show -200000 ≤ (dyMake p.1 p.2.1 p.2.2).2.2
    unfold dyMake
    split
    · show (-200000 : Int) ≤ 0; decide
    · split
      · show (-200000 : Int) ≤ 0; decide
      · show -200000 ≤ p.2.2 + _; omega
  · show (dyMake p.1 p.2.1 p.2.2).2.2 ≤ 200000
    unfold dyMake
    split
    · show (0 : Int) ≤ 200000; decide
    · split
      · show (0 : Int) ≤ 200000; decide
      · rename_i h0 _
        show p.2.2 + _ ≤ 200000
        have v := v2_blen (k := p.2.1) (by omega)
        have b := lv_blen (lim_lb p.2.1)
        rw [lv_lim] at b
        omega
/-- limbs of a value -/
structure Of (u : Bool × List Int × Int) (P : Bool × Nat × Int) : Prop where
  eq : u = dyL P
  lb : Lb u.2.1
  len : u.2.1.length ≤ 1000
  val : lv u.2.1 = P.2.1
  neg : u.1 = P.1
  e : u.2.2 = P.2.2
  lo : -200000 ≤ P.2.2
  hi : P.2.2 ≤ 200000
  nil : u.2.1.length = 0 ↔ P.2.1 = 0
theorem of_of {u : Bool × List Int × Int} {P : Bool × Nat × Int} (hP : DyN P) (h : u = dyL P) : Of u P := by
  refine ⟨h, by rw [h]; exact lim_lb _, by rw [h]; exact hP.len, by rw [h]; exact lv_lim _, by rw [h]; rfl, by rw [h]; rfl, hP.lo, hP.hi, ?_⟩
  rw [h]
  have := lim_len_pos P.2.1
  show (lim P.2.1).length = 0 ↔ _
  omega
theorem align_shl {u v : Bool × List Int × Int} {H L : Bool × Nat × Int} {s : List Int} {d : Int} (hH : Of u H) (hL : Of v L) (hle : L.2.2 ≤ H.2.2) (hd : d = IntKind.i64.wrap (u.2.2 - v.2.2))
    (hs : s = if d < 1 then lim (lv u.2.1) else if 16777216 < d then [] else lim (lv u.2.1 * 2 ^ d.toNat)) : Lb s ∧ s.length ≤ 50000 ∧ lv s = H.2.1 * 2 ^ (H.2.2 - L.2.2).toNat := by
  have h1 := hH.lo; have h2 := hH.hi; have h3 := hL.lo; have h4 := hL.hi
  have ed : d = H.2.2 - L.2.2 := by rw [hd, hH.e, hL.e, wi64]; omega
  rw [hH.val, ed] at hs
  have e : s = lim (H.2.1 * 2 ^ (H.2.2 - L.2.2).toNat) := by
    rw [hs]
    split
    · rw [show (H.2.2 - L.2.2).toNat = 0 by omega]; simp
    · rw [if_neg (by omega)]
  rw [e]
  refine ⟨lim_lb _, ?_, lv_lim _⟩
  have l := lv_lt hH.lb
  rw [hH.val] at l
  obtain ⟨y, hy⟩ : ∃ y : Nat, (H.2.2 - L.2.2).toNat = y := ⟨_, rfl⟩
  rw [hy]
  have p : (2 : Nat) ^ y ≤ 2 ^ (32 * (y / 32 + 1)) := Nat.pow_le_pow_right (by decide) (by omega)
  rw [Nat.pow_mul] at p
  have lt : H.2.1 * 2 ^ y < 4294967296 ^ (u.2.1.length + (y / 32 + 1)) := by
    rw [Nat.pow_add]
    exact Nat.mul_lt_mul_of_lt_of_le l p (Nat.pow_pos (by decide))
  have := lim_length_le lt
  have := hH.len
  omega
theorem align_m {u : Bool × List Int × Int} {H L : Bool × Nat × Int} {s : List Int} {m : Bool × List Int} (hH : Of u H) (S : Lb s ∧ s.length ≤ 50000 ∧ lv s = H.2.1 * 2 ^ (H.2.2 - L.2.2).toNat)
    (hm' : m = (u.1 && decide (lv s ≠ 0), lim (lv s))) : Lb m.2 ∧ m.2.length ≤ 50000 ∧ m.1 = (H.1 && decide (H.2.1 * 2 ^ (H.2.2 - L.2.2).toNat ≠ 0)) ∧ lv m.2 = H.2.1 * 2 ^ (H.2.2 - L.2.2).toNat := by
  have l := lim_len_of S.1 (Nat.le_refl (lv s))
  rw [hm']
  refine ⟨lim_lb _, by have := S.2.1; show (lim (lv s)).length ≤ 50000; omega, ?_, ?_⟩
  · show (u.1 && decide (lv s ≠ 0)) = _
    rw [S.2.2, hH.neg]
  · show lv (lim (lv s)) = _
    rw [lv_lim, S.2.2]
theorem align_w {v : Bool × List Int × Int} {H L : Bool × Nat × Int} {m w : Bool × List Int} (hL : Of v L) (M : Lb m.2 ∧ m.2.length ≤ 50000 ∧ m.1 = (H.1 && decide (H.2.1 * 2 ^ (H.2.2 - L.2.2).toNat ≠ 0)) ∧ lv m.2 = H.2.1 * 2 ^ (H.2.2 - L.2.2).toNat)
    (hw : w = ((wsum v.1 (lv v.2.1) m.1 (lv m.2)).1, lim (wsum v.1 (lv v.2.1) m.1 (lv m.2)).2)) : Lb w.2 ∧ w.2.length ≤ 51001 ∧ (-9223372036854775808 ≤ v.2.2 ∧ v.2.2 < 9223372036854775808) ∧ dyMake w.1 (lv w.2) v.2.2 = dyAlign L H := by
  have := hL.lo; have := hL.hi; have := hL.e
  refine ⟨by rw [hw]; exact lim_lb _, ?_, by omega, ?_⟩
  · have q := wsum_len (na := v.1) (nb := m.1) hL.lb M.1
    have := hL.len
    have := M.2.1
    rw [hw]
    show (lim _).length ≤ 51001
    omega
  · rw [hw]
    show dyMake _ (lv (lim _)) _ = _
    rw [lv_lim, hL.e, hL.neg, hL.val, M.2.2.1, M.2.2.2]
    rfl
/-- the sum's cases -/
structure PlusC (P Q : Bool × Nat × Int) (r : Bool × List Int × Int) : Prop where
  z1 : P.2.1 = 0 → r = dyL Q
  z2 : ¬ P.2.1 = 0 → Q.2.1 = 0 → r = dyL P
  a1 : ¬ P.2.1 = 0 → ¬ Q.2.1 = 0 → Q.2.2 < P.2.2 → r = dyL (dyAlign Q P)
  a2 : ¬ P.2.1 = 0 → ¬ Q.2.1 = 0 → ¬ Q.2.2 < P.2.2 → r = dyL (dyAlign P Q)
theorem plus_c {p q : Bool × Nat × Int} {r : Bool × List Int × Int} (h : dyL (dyPlus p q) = r) : PlusC (dyNorm p) (dyNorm q) r := by
  constructor
  · intro k; rw [← h]; unfold dyPlus; rw [if_pos k]
  · intro k g; rw [← h]; unfold dyPlus; rw [if_neg k, if_pos g]
  · intro k g l; rw [← h]; unfold dyPlus; rw [if_neg k, if_neg g, if_pos l]
  · intro k g l; rw [← h]; unfold dyPlus; rw [if_neg k, if_neg g, if_neg l]

theorem c_r3Two (p q : Bool × Nat × Int) (hp : (lim p.2.1).length ≤ 1000) (hq : (lim q.2.1).length ≤ 1000) (ep : -100000 ≤ p.2.2 ∧ p.2.2 ≤ 100000) (eq : -100000 ≤ q.2.2 ∧ q.2.2 ≤ 100000)
    (x y : Bool × List Int × Int) (hx : x = dyL p) (hy : y = dyL q) : ∃ t : Bool × List Int × Int, t = dyL (dyPlus p q) ∧
    CallsA Tryz.prog 110 [.agg [.bool (.s x.1), .sli .u32 x.2.1, .int .i64 (.s x.2.2)], .agg [.bool (.s y.1), .sli .u32 y.2.1, .int .i64 (.s y.2.2)]] (.agg [.bool (.s t.1), .sli .u32 t.2.1, .int .i64 (.s t.2.2)]) := by
  refine ⟨_, rfl, ?_⟩
  generalize hr : dyL (dyPlus p q) = r
  have C := plus_c hr
  clear hr
  have xa : Lb x.2.1 ∧ x.2.1.length ≤ 125000 ∧ (-9223372036854775808 ≤ x.2.2 ∧ x.2.2 < 9223372036854775808) ∧ dyMake x.1 (lv x.2.1) x.2.2 = dyNorm p := by
    rw [hx]; exact ⟨lim_lb _, Nat.le_trans hp (by decide), ⟨Int.le_trans (by decide) ep.1, Int.lt_of_le_of_lt ep.2 (by decide)⟩, by show dyMake p.1 (lv (lim p.2.1)) p.2.2 = _; rw [lv_lim]; rfl⟩
  have ya : Lb y.2.1 ∧ y.2.1.length ≤ 125000 ∧ (-9223372036854775808 ≤ y.2.2 ∧ y.2.2 < 9223372036854775808) ∧ dyMake y.1 (lv y.2.1) y.2.2 = dyNorm q := by
    rw [hy]; exact ⟨lim_lb _, Nat.le_trans hq (by decide), ⟨Int.le_trans (by decide) eq.1, Int.lt_of_le_of_lt eq.2 (by decide)⟩, by show dyMake q.1 (lv (lim q.2.1)) q.2.2 = _; rw [lv_lim]; rfl⟩
  have na := dyNorm_n hp ep.1 ep.2
  have nb := dyNorm_n hq eq.1 eq.2
  generalize dyNorm p = P at *
  generalize dyNorm q = Q at *
  clear hx hy hp hq ep eq
  refine callsA_of hG hm Tryz.func110 (by kernel_rfl) ?_
  intro E hE lp hl'
  cbv
  (apply E_callX hE (k_r3Make _ _ _ xa.1 xa.2.1 xa.2.2.1); (case hf => rfl); (case hc => (cbv <;> trivial)); (case hle => exact u_up); all_goals (first | (intro u hu; cbv) | (assumption)))
  have Ou := of_of na (by rw [← xa.2.2.2]; exact hu : u = dyL P)
  clear hu
  (apply E_callX hE (k_r3Make _ _ _ ya.1 ya.2.1 ya.2.2.1); (case hf => rfl); (case hc => (cbv <;> trivial)); (case hle => exact u_up); all_goals (first | (intro v hv; cbv) | (assumption)))
  have Ov := of_of nb (by rw [← ya.2.2.2]; exact hv : v = dyL Q)
  clear hv xa ya na nb
  refine E_br hE (fun g1 => ?_) (fun g1 => ?_) <;> cbv
  · have k : P.2.1 = 0 := Ou.nil.1 (by subst hE; have k : (u.2.1.length : Int) = 0 := eql_t g1; omega)
    rw [← show v = r from Ov.eq.trans (C.z1 k).symm]; exact ⟨rfl, rfl, rfl, trivial⟩
  have k1 : ¬ P.2.1 = 0 := fun k => (by subst hE; exact eql_f g1 : ¬ (u.2.1.length : Int) = 0) (by have := Ou.nil.2 k; omega)
  refine E_br hE (fun g2 => ?_) (fun g2 => ?_) <;> cbv
  · have k : Q.2.1 = 0 := Ov.nil.1 (by subst hE; have k : (v.2.1.length : Int) = 0 := eql_t g2; omega)
    rw [← show u = r from Ou.eq.trans (C.z2 k1 k).symm]; exact ⟨rfl, rfl, rfl, trivial⟩
  have k2 : ¬ Q.2.1 = 0 := fun k => (by subst hE; exact eql_f g2 : ¬ (v.2.1.length : Int) = 0) (by have := Ov.nil.2 k; omega)
  refine E_br hE (fun g3 => ?_) (fun g3 => ?_) <;> cbv
  · have lt : Q.2.2 < P.2.2 := by rw [← Ou.e, ← Ov.e]; subst hE; exact gtr_t g3
    have hle := Int.le_of_lt lt
    (apply E_pcallX hE (c_rShl _ _ Ou.lb ?_); (case hm => rfl); (case hle => exact u_up); all_goals (first | (intro s hs; cbv) | (exact Nat.lt_of_le_of_lt Ou.len (by decide))))
    have S := align_shl (d := E.bin .sub .i64 u.2.2 v.2.2) Ou Ov hle (by subst hE; rfl) hs
    clear hs
    (apply E_pcallX hE (c_r2Make _ _ S.1 ?_); (case hm => rfl); (case hle => exact u_up); all_goals (first | (intro m hm_; cbv) | (exact Nat.le_trans S.2.1 (by decide))))
    have M := align_m (L := Q) Ou S hm_
    clear hm_ S
    (apply E_pcallX hE (c_r2Add _ _ _ _ Ov.lb M.1 ?_ ?_); (case hm => rfl); (case hle => exact u_up); all_goals (first | (intro w hw; cbv) | (first | exact Nat.le_trans Ov.len (by decide) | exact Nat.le_trans M.2.1 (by decide))))
    have W := align_w Ov M hw
    clear hw M
    (apply E_pcallX hE (k_r3Make _ _ _ W.1 ?_ W.2.2.1); (case hm => rfl); (case hle => exact u_up); all_goals (first | (intro t ht; cbv) | (exact Nat.le_trans W.2.1 (by decide))))
    have T : t = r := by rw [C.a1 k1 k2 lt]; rw [← W.2.2.2]; exact ht
    rw [T]; exact ⟨rfl, rfl, rfl, trivial⟩
  · have nlt : ¬ Q.2.2 < P.2.2 := by rw [← Ou.e, ← Ov.e]; subst hE; exact gtr_f g3
    have hle := Int.not_lt.1 nlt
    (apply E_pcallX hE (c_rShl _ _ Ov.lb ?_); (case hm => rfl); (case hle => exact u_up); all_goals (first | (intro s hs; cbv) | (exact Nat.lt_of_le_of_lt Ov.len (by decide))))
    have S := align_shl (d := E.bin .sub .i64 v.2.2 u.2.2) Ov Ou hle (by subst hE; rfl) hs
    clear hs
    (apply E_pcallX hE (c_r2Make _ _ S.1 ?_); (case hm => rfl); (case hle => exact u_up); all_goals (first | (intro m hm_; cbv) | (exact Nat.le_trans S.2.1 (by decide))))
    have M := align_m (L := P) Ov S hm_
    clear hm_ S
    (apply E_pcallX hE (c_r2Add _ _ _ _ Ou.lb M.1 ?_ ?_); (case hm => rfl); (case hle => exact u_up); all_goals (first | (intro w hw; cbv) | (first | exact Nat.le_trans Ou.len (by decide) | exact Nat.le_trans M.2.1 (by decide))))
    have W := align_w Ou M hw
    clear hw M
    (apply E_pcallX hE (k_r3Make _ _ _ W.1 ?_ W.2.2.1); (case hm => rfl); (case hle => exact u_up); all_goals (first | (intro t ht; cbv) | (exact Nat.le_trans W.2.1 (by decide))))
    have T : t = r := by rw [C.a2 k1 k2 nlt]; rw [← W.2.2.2]; exact ht
    rw [T]; exact ⟨rfl, rfl, rfl, trivial⟩


/-- of an exponent that is not too far from nought, if any -/
def Num.near (n : Num) : Prop := n.kind = 1 → -50000 ≤ n.e ∧ n.e ≤ 50000
theorem Num.near_fair {n : Num} (h : n.near) : n.fair.near := by
  unfold Num.fair
  split
  · exact h
  · intro k; exact absurd k (by decide)
theorem exact_near {n : Num} (o : n.ok) (h : n.near) : (lim n.exact.1.2.1).length ≤ 1000 ∧ (-100000 ≤ n.exact.1.2.2 ∧ n.exact.1.2.2 ≤ 100000) := by
  have l := (exact_len o).1
  refine ⟨by omega, ?_⟩
  by_cases k : n.may = true ∧ n.kind = 1
  · have F : n.Fin := by
      rcases Num.may3 k.1 o with q | q | q
      · rw [q] at k; exact absurd k.2 (by decide)
      · exact q
      · have := k.2; rw [q] at this; exact absurd this (by show ¬ (2 : Int) = 1; decide)
    have hn := h k.2
    have lo := F.lo
    have hi := F.hi
    have v := v2_lt (n := n.m.toNat) (k := 64) (by omega) (by show n.m.toNat < 18446744073709551616; omega)
    have d := dyMake_val (ng := n.neg) (k := n.m.toNat) (e := n.e) (by omega) (by omega) (by omega)
    have u : n.exact.1 = dyMake n.neg n.m.toNat n.e := by
      unfold Num.exact
      rw [if_neg (by rw [k.1, k.2]; decide), if_neg (by rw [k.2]; decide)]
    rw [u, d.2.2.1]
    omega
  · have u : n.exact.1.2.2 = 0 := by
      unfold Num.exact
      split
      · rfl
      · rename_i q
        split
        · rfl
        · rename_i q2
          exfalso
          apply k
          have mm : n.may = true := by cases z : n.may; exact absurd (.inl z) q; rfl
          rcases Num.may3 mm o with s | s | s
          · rw [s] at q2; exact absurd rfl q2
          · exact ⟨mm, s.kind⟩
          · exact absurd (.inr (by rw [s]; rfl)) q
    rw [u]; decide
structure AddC (a b : Num) (up : Bool) (r : Num) : Prop where
  ii : a.kind = 2 → b.kind = 2 → a.neg ≠ b.neg → r = Num.inf (!up)
  ai : ¬ (a.kind = 2 ∧ b.kind = 2 ∧ a.neg ≠ b.neg) → a.kind = 2 → r = a
  bi : ¬ (a.kind = 2 ∧ b.kind = 2 ∧ a.neg ≠ b.neg) → ¬ a.kind = 2 → b.kind = 2 → r = b
  fin : ¬ (a.kind = 2 ∧ b.kind = 2 ∧ a.neg ≠ b.neg) → ¬ a.kind = 2 → ¬ b.kind = 2 → r = dyRound (dyPlus a.exact.1 b.exact.1) up
theorem radd_c {x y : Num} {up : Bool} {r : Num} (h : Num.radd x y up = r) : AddC x.fair y.fair up r := by
  constructor
  · intro k1 k2 k3; rw [← h]; unfold Num.radd; rw [if_pos ⟨k1, k2, k3⟩]
  · intro k1 k2; rw [← h]; unfold Num.radd; rw [if_neg k1, if_pos k2]
  · intro k1 k2 k3; rw [← h]; unfold Num.radd; rw [if_neg k1, if_neg k2, if_pos k3]
  · intro k1 k2 k3; rw [← h]; unfold Num.radd; rw [if_neg k1, if_neg k2, if_neg k3]
theorem dyPlus_len {p q : Bool × Nat × Int} (hp : (lim p.2.1).length ≤ 1000) (hq : (lim q.2.1).length ≤ 1000) (ep : -100000 ≤ p.2.2 ∧ p.2.2 ≤ 100000) (eq : -100000 ≤ q.2.2 ∧ q.2.2 ≤ 100000) :
    (lim (dyPlus p q).2.1).length ≤ 62500 ∧ -9223372036854775808 ≤ (dyPlus p q).2.2 ∧ (dyPlus p q).2.2 < 9223372036854775808 := by
  have nP := dyNorm_n hp ep.1 ep.2
  have nQ := dyNorm_n hq eq.1 eq.2
  have al : ∀ {L H : Bool × Nat × Int}, DyN L → DyN H → L.2.2 ≤ H.2.2 → (lim (dyAlign L H).2.1).length ≤ 62500 ∧ -9223372036854775808 ≤ (dyAlign L H).2.2 ∧ (dyAlign L H).2.2 < 9223372036854775808 := by
    intro L H hL hH hle
    have Oh := of_of hH rfl
    have Ol := of_of hL rfl
    obtain ⟨s, hs⟩ : ∃ s, s = (if IntKind.i64.wrap ((dyL H).2.2 - (dyL L).2.2) < 1 then lim (lv (dyL H).2.1) else if 16777216 < IntKind.i64.wrap ((dyL H).2.2 - (dyL L).2.2) then [] else lim (lv (dyL H).2.1 * 2 ^ (IntKind.i64.wrap ((dyL H).2.2 - (dyL L).2.2)).toNat)) := ⟨_, rfl⟩
    have S := align_shl Oh Ol hle rfl hs
    obtain ⟨m, hm'⟩ : ∃ m, m = ((dyL H).1 && decide (lv s ≠ 0), lim (lv s)) := ⟨_, rfl⟩
    have M := align_m (L := L) Oh S hm'
    obtain ⟨w, hw⟩ : ∃ w, w = ((wsum (dyL L).1 (lv (dyL L).2.1) m.1 (lv m.2)).1, lim (wsum (dyL L).1 (lv (dyL L).2.1) m.1 (lv m.2)).2) := ⟨_, rfl⟩
    have W := align_w Ol M hw
    have r := dyMake_rng w.1 (lv w.2) (dyL L).2.2
    rw [W.2.2.2] at r
    exact ⟨Nat.le_trans (lim_len_of W.1 r.2.2) (Nat.le_trans W.2.1 (by decide)), Int.le_trans (by decide) r.1, Int.lt_of_le_of_lt r.2.1 (by decide)⟩
  have one : ∀ {P : Bool × Nat × Int}, DyN P → (lim P.2.1).length ≤ 62500 ∧ -9223372036854775808 ≤ P.2.2 ∧ P.2.2 < 9223372036854775808 := fun h => ⟨Nat.le_trans h.len (by decide), Int.le_trans (by decide) h.lo, Int.lt_of_le_of_lt h.hi (by decide)⟩
  unfold dyPlus
  split
  · exact one nQ
  · split
    · exact one nP
    · split
      · exact al nQ nP (by omega)
      · exact al nP nQ (by omega)
theorem c_r6Add (x y : Num) (up : Bool) (ox : x.ok) (oy : y.ok) (nx : x.near) (ny : y.near) : ∃ t : Num, t = Num.add x y up ∧ CallsA Tryz.prog 76 [x.av, y.av, .bool (.s up)] t.av := by
  rw [← radd_eq ox oy]
  refine ⟨_, rfl, ?_⟩
  generalize hr : Num.radd x y up = r
  have C := radd_c hr
  have oa := Num.fair_ok ox
  have ob := Num.fair_ok oy
  have ea := exact_near oa (Num.near_fair nx)
  have eb := exact_near ob (Num.near_fair ny)
  have pl := dyPlus_len ea.1 eb.1 ea.2 eb.2
  clear hr
  refine callsA_of hG hm Tryz.func76 (by kernel_rfl) ?_
  intro E hE lp hl'
  cbv
  (apply E_callX hE (c_r6Fair ⟨_, _, _, _⟩); (case hf => rfl); (case hc => (cbv <;> trivial)); (case hle => exact u_up); all_goals (first | (intro a ha; cbv) | (assumption)))
  (apply E_callX hE (c_r6Fair ⟨_, _, _, _⟩); (case hf => rfl); (case hc => (cbv <;> trivial)); (case hle => exact u_up); all_goals (first | (intro b hb; cbv) | (assumption)))
  replace ha : a = x.fair := ha
  replace hb : b = y.fair := hb
  rw [← ha] at C oa ea pl
  rw [← hb] at C ob eb pl
  clear ha hb
  have eb' : E.bnot (E.beq a.neg b.neg) = (a.neg != b.neg) := by subst hE; rfl
  refine E_br hE (fun g1 => ?_) (fun g1 => ?_) <;> cbv
  · have a2 : a.kind = 2 := by subst hE; exact eql_t g1
    refine E_br hE (fun g2 => ?_) (fun g2 => ?_) <;> cbv
    · have b2 : b.kind = 2 := by subst hE; exact eql_t g2
      refine E_br hE (fun g3 => ?_) (fun g3 => ?_) <;> cbv
      · have ne : a.neg ≠ b.neg := by have k : (a.neg != b.neg) = true := eb'.symm.trans g3; simpa using k
        (apply E_callX hE (c_rInf _); (case hf => rfl); (case hc => (cbv <;> trivial)); (case hle => exact u_up); all_goals (first | (intro t ht; cbv) | (assumption)))
        have T : t = r := by
          have k : t = Num.inf (E.bnot up) := ht
          rw [k, C.ii a2 b2 ne]; subst hE; rfl
        rw [T]; exact ⟨rfl, rfl, rfl, rfl, trivial⟩
      · have ne : ¬ (a.kind = 2 ∧ b.kind = 2 ∧ a.neg ≠ b.neg) := fun k => k.2.2 (by have q : (a.neg != b.neg) = false := eb'.symm.trans g3; simpa using q)
        refine E_br_t hE g1 ?_
        cbv
        rw [C.ai ne a2]; exact ⟨rfl, rfl, rfl, rfl, trivial⟩
    · have b2 : ¬ b.kind = 2 := by subst hE; exact eql_f g2
      refine E_br_t hE g1 ?_
      cbv
      rw [C.ai (fun k => b2 k.2.1) a2]; exact ⟨rfl, rfl, rfl, rfl, trivial⟩
  have a2 : ¬ a.kind = 2 := by subst hE; exact eql_f g1
  refine E_br_f hE g1 ?_
  cbv
  refine E_br hE (fun g2 => ?_) (fun g2 => ?_) <;> cbv
  · have b2 : b.kind = 2 := by subst hE; exact eql_t g2
    rw [C.bi (fun k => a2 k.1) a2 b2]; exact ⟨rfl, rfl, rfl, rfl, trivial⟩
  have b2 : ¬ b.kind = 2 := by subst hE; exact eql_f g2
  have R := C.fin (fun k => a2 k.1) a2 b2
  clear C eb'
  (apply E_callX hE (c_rExact ⟨_, _, _, _⟩ ?_); (case hf => rfl); (case hc => (cbv <;> trivial)); (case hle => exact u_up); all_goals (first | (intro p hp; cbv) | (exact oa)))
  (apply E_callX hE (c_rExact ⟨_, _, _, _⟩ ?_); (case hf => rfl); (case hc => (cbv <;> trivial)); (case hle => exact u_up); all_goals (first | (intro q hq; cbv) | (exact ob)))
  have P : p.1 = dyL a.exact.1 := by rw [show p = (dyL a.exact.1, a.exact.2) from hp]
  have Q : q.1 = dyL b.exact.1 := by rw [show q = (dyL b.exact.1, b.exact.2) from hq]
  clear hp hq
  (apply E_callX hE (c_r3Two a.exact.1 b.exact.1 ea.1 eb.1 ea.2 eb.2 ⟨_, _, _⟩ ⟨_, _, _⟩ ?_ ?_); (case hf => rfl); (case hc => (cbv <;> trivial)); (case hle => exact u_up); all_goals (first | (intro s hs; cbv) | (first | exact P | exact Q)))
  (apply E_callX hE (k_rRound (dyPlus a.exact.1 b.exact.1) up pl.1 pl.2 ⟨_, _, _⟩ ?_); (case hf => rfl); (case hc => (cbv <;> trivial)); (case hle => exact u_up); all_goals (first | (intro t ht; cbv) | (exact hs)))
  have T : t = r := ht.trans R.symm
  rw [T]; exact ⟨rfl, rfl, rfl, rfl, trivial⟩

end Go.Proofs.YtoghalnnmhpfmaaGreat.Ev

/- The reference's sums, roots and what two intervals have are the program's: plain Lean. -/
namespace Go.Proofs.YtoghalnnmhpfmaaGreat.Ev
open Go

/-- what two have -/
def Iv.rmeet (x y : Iv) : Iv := if (x.fair.empty || y.fair.empty) = true then Iv.none else Iv.make (Num.most [x.fair.lo, y.fair.lo]) (Num.least [x.fair.hi, y.fair.hi])
theorem Iv.rmeet_eq (x y : Iv) : Iv.rmeet x y = Iv.meet [x, y] := by
  unfold Iv.rmeet Iv.meet
  cases hx : x.fair.empty <;> cases hy : y.fair.empty <;> simp [Iv.allGood, Iv.los, Iv.his, Iv.goods, hx, hy]
/-- the sum of two -/
def Iv.radds (x y : Iv) : Iv := if (x.fair.empty || y.fair.empty) = true then Iv.none else Iv.make (Num.add x.fair.lo y.fair.lo false) (Num.add x.fair.hi y.fair.hi true)
theorem Iv.radds_eq (x y : Iv) : Iv.radds x y = Iv.add [x, y] := by
  unfold Iv.radds Iv.add
  rw [Iv.anyBad_two]
  split
  · rfl
  · rename_i h
    simp only [Bool.or_eq_true, not_or, Bool.not_eq_true] at h
    rw [Iv.fair_good h.1, Iv.fair_good h.2]
    rfl
end Go.Proofs.YtoghalnnmhpfmaaGreat.Ev

/- Contracts of the reference: products and quotients of intervals. Printed by gen.py. -/
namespace Go.Proofs.YtoghalnnmhpfmaaGreat.Ev
open Go Go.Proofs
set_option linter.unusedVariables false
set_option linter.unusedSimpArgs false

theorem ivEq_of {E : Env} (hE : E = realE Tryz.prog) (b p : Iv) : E.band (E.beq b.empty p.empty) (E.band (E.cmp .eql b.lo.kind p.lo.kind) (E.band (E.beq b.lo.neg p.lo.neg) (E.band (E.cmp .eql b.lo.m p.lo.m) (E.band (E.cmp .eql b.lo.e p.lo.e) (E.band (E.cmp .eql b.hi.kind p.hi.kind) (E.band (E.beq b.hi.neg p.hi.neg) (E.band (E.cmp .eql b.hi.m p.hi.m) (E.cmp .eql b.hi.e p.hi.e)))))))) = decide (b = p) := by
  subst hE
  rw [Bool.eq_iff_iff]
  simp only [realE, cmp_eql, Bool.and_eq_true, decide_eq_true_eq, Iv.eq_iff, Num.eq_iff, beq_iff_eq]
  constructor
  · rintro ⟨h0, h1, h2, h3, h4, h5, h6, h7, h8⟩; exact ⟨h0, ⟨h1, h2, h3, h4⟩, h5, h6, h7, h8⟩
  · rintro ⟨h0, ⟨h1, h2, h3, h4⟩, h5, h6, h7, h8⟩; exact ⟨h0, h1, h2, h3, h4, h5, h6, h7, h8⟩
end Go.Proofs.YtoghalnnmhpfmaaGreat.Ev

/- Contracts of the reference: the sum, the opposite and the difference of two intervals. Printed by gen.py. -/
namespace Go.Proofs.YtoghalnnmhpfmaaGreat.Ev
open Go Go.Proofs
set_option linter.unusedVariables false
set_option linter.unusedSimpArgs false

/-- ends that are not too far from nought, if any -/
def Iv.near (x : Iv) : Prop := x.lo.near ∧ x.hi.near
theorem Num.near_zero : Num.zero.near := fun k => absurd k (by decide)
theorem Num.near_opp {n : Num} (h : n.near) : n.opp.near := fun k => Num.near_fair h k
theorem Iv.near_fair {x : Iv} (h : x.near) : x.fair.near := by
  unfold Iv.fair
  split
  · exact h
  · exact ⟨Num.near_zero, Num.near_zero⟩
theorem Iv.near_make {lo hi : Num} (h : lo.near) (k : hi.near) : (Iv.make lo hi).near := by
  rw [Iv.make_eq]
  exact Iv.near_fair (x := ⟨false, lo.fair, hi.fair⟩) ⟨Num.near_fair h, Num.near_fair k⟩
theorem Iv.near_none : Iv.none.near := ⟨Num.near_zero, Num.near_zero⟩
theorem Iv.near_neg {x : Iv} (h : x.near) : (Iv.neg x).near := by
  unfold Iv.neg
  split
  · exact Iv.near_none
  · exact Iv.near_make (Num.near_opp h.2) (Num.near_opp h.1)
theorem c_r9Neg (x : Iv) (fx : x.lo.ok ∧ x.hi.ok) : ∃ t : Iv, t = Iv.neg x ∧ CallsA Tryz.prog 42 [x.av] t.av := by
  rw [← Iv.rneg_eq]
  refine ⟨_, rfl, ?_⟩
  generalize hr : Iv.rneg x = r
  have emp : x.fair.empty = true → r = x.fair := by intro h; rw [← hr]; unfold Iv.rneg; rw [if_pos h]
  have mak : ¬ x.fair.empty = true → r = Iv.make x.fair.hi.opp x.fair.lo.opp := by intro h; rw [← hr]; unfold Iv.rneg; rw [if_neg h]
  have fa := Iv.fair_oks fx.1 fx.2
  clear hr
  refine callsA_of hG hm Tryz.func42 (by kernel_rfl) ?_
  intro E hE lp hl'
  cbv
  (apply E_callX hE (c_r8Fair ⟨_, ⟨_, _, _, _⟩, ⟨_, _, _, _⟩⟩ ?_ ?_); (case hf => rfl); (case hc => (cbv <;> trivial)); (case hle => exact u_up); all_goals (first | (intro a ha; cbv) | (first | exact fx.1 | exact fx.2)))
  replace ha : a = x.fair := ha
  rw [← ha] at emp mak fa
  clear ha
  refine E_br hE (fun g1 => ?_) (fun g1 => ?_) <;> cbv
  · rw [emp g1]; exact ⟨rfl, rfl, rfl, rfl, rfl, rfl, rfl, rfl, rfl, trivial⟩
  have M := mak (by rw [g1]; decide)
  (apply E_pcallX hE (c_rNeg ⟨_, _, _, _⟩); (case hm => rfl); (case hle => exact u_up); all_goals (first | (intro p hp; cbv) | (assumption)))
  (apply E_pcallX hE (c_rNeg ⟨_, _, _, _⟩); (case hm => rfl); (case hle => exact u_up); all_goals (first | (intro q hq; cbv) | (assumption)))
  replace hp : p = a.hi.opp := hp
  replace hq : q = a.lo.opp := hq
  have po : p.ok := by rw [hp]; exact Num.opp_ok fa.2
  have qo : q.ok := by rw [hq]; exact Num.opp_ok fa.1
  (apply E_pcallX hE (c_r8Make ⟨_, _, _, _⟩ ⟨_, _, _, _⟩ ?_ ?_); (case hm => rfl); (case hle => exact u_up); all_goals (first | (intro t ht; cbv) | (first | exact po | exact qo)))
  have T : t = r := by rw [M, ← hp, ← hq]; exact ht
  rw [T]; exact ⟨rfl, rfl, rfl, rfl, rfl, rfl, rfl, rfl, rfl, trivial⟩
theorem c_r9Two (x y : Iv) (fx : x.lo.ok ∧ x.hi.ok) (fy : y.lo.ok ∧ y.hi.ok) (nx : x.near) (ny : y.near) : ∃ t : Iv, t = Iv.add [x, y] ∧ CallsA Tryz.prog 38 [x.av, y.av] t.av := by
  rw [← Iv.radds_eq]
  refine ⟨_, rfl, ?_⟩
  generalize hr : Iv.radds x y = r
  have emp : (x.fair.empty || y.fair.empty) = true → r = Iv.none := by intro h; rw [← hr]; unfold Iv.radds; rw [if_pos h]
  have mak : ¬ (x.fair.empty || y.fair.empty) = true → r = Iv.make (Num.add x.fair.lo y.fair.lo false) (Num.add x.fair.hi y.fair.hi true) := by intro h; rw [← hr]; unfold Iv.radds; rw [if_neg h]
  have fa := Iv.fair_oks fx.1 fx.2
  have fb := Iv.fair_oks fy.1 fy.2
  have na := Iv.near_fair nx
  have nb := Iv.near_fair ny
  clear hr
  refine callsA_of hG hm Tryz.func38 (by kernel_rfl) ?_
  intro E hE lp hl'
  cbv
  (apply E_callX hE (c_r8Fair ⟨_, ⟨_, _, _, _⟩, ⟨_, _, _, _⟩⟩ ?_ ?_); (case hf => rfl); (case hc => (cbv <;> trivial)); (case hle => exact u_up); all_goals (first | (intro a ha; cbv) | (first | exact fx.1 | exact fx.2)))
  (apply E_callX hE (c_r8Fair ⟨_, ⟨_, _, _, _⟩, ⟨_, _, _, _⟩⟩ ?_ ?_); (case hf => rfl); (case hc => (cbv <;> trivial)); (case hle => exact u_up); all_goals (first | (intro b hb; cbv) | (first | exact fy.1 | exact fy.2)))
  replace ha : a = x.fair := ha
  replace hb : b = y.fair := hb
  rw [← ha] at emp mak fa na
  rw [← hb] at emp mak fb nb
  clear ha hb
  refine E_br hE (fun g1 => ?_) (fun g1 => ?_) <;> cbv
  · (apply E_callX hE (c_r8None); (case hf => rfl); (case hc => (cbv <;> trivial)); (case hle => exact u_up); all_goals (first | (intro t ht; cbv) | (assumption)))
    have T : t = r := by rw [emp (by rw [g1]; rfl)]; exact ht
    rw [T]; exact ⟨rfl, rfl, rfl, rfl, rfl, rfl, rfl, rfl, rfl, trivial⟩
  refine E_br hE (fun g2 => ?_) (fun g2 => ?_) <;> cbv
  · (apply E_callX hE (c_r8None); (case hf => rfl); (case hc => (cbv <;> trivial)); (case hle => exact u_up); all_goals (first | (intro t ht; cbv) | (assumption)))
    have T : t = r := by rw [emp (by rw [g1, g2]; rfl)]; exact ht
    rw [T]; exact ⟨rfl, rfl, rfl, rfl, rfl, rfl, rfl, rfl, rfl, trivial⟩
  have M := mak (by rw [g1, g2]; decide)
  clear emp mak
  (apply E_pcallX hE (c_r6Add ⟨_, _, _, _⟩ ⟨_, _, _, _⟩ false ?_ ?_ ?_ ?_); (case hm => rfl); (case hle => exact u_up); all_goals (first | (intro p hp; cbv) | (first | exact fa.1 | exact fb.1 | exact na.1 | exact nb.1)))
  (apply E_pcallX hE (c_r6Add ⟨_, _, _, _⟩ ⟨_, _, _, _⟩ true ?_ ?_ ?_ ?_); (case hm => rfl); (case hle => exact u_up); all_goals (first | (intro q hq; cbv) | (first | exact fa.2 | exact fb.2 | exact na.2 | exact nb.2)))
  replace hp : p = Num.add a.lo b.lo false := hp
  replace hq : q = Num.add a.hi b.hi true := hq
  have po : p.ok := by rw [hp]; exact Num.add_ok fa.1 fb.1 _
  have qo : q.ok := by rw [hq]; exact Num.add_ok fa.2 fb.2 _
  (apply E_pcallX hE (c_r8Make ⟨_, _, _, _⟩ ⟨_, _, _, _⟩ ?_ ?_); (case hm => rfl); (case hle => exact u_up); all_goals (first | (intro t ht; cbv) | (first | exact po | exact qo)))
  have T : t = r := by rw [M, ← hp, ← hq]; exact ht
  rw [T]; exact ⟨rfl, rfl, rfl, rfl, rfl, rfl, rfl, rfl, rfl, trivial⟩
theorem c_r9Sub (x y : Iv) (fx : x.lo.ok ∧ x.hi.ok) (fy : y.lo.ok ∧ y.hi.ok) (nx : x.near) (ny : y.near) : ∃ t : Iv, t = Iv.sub x y ∧ CallsA Tryz.prog 36 [x.av, y.av] t.av := by
  refine ⟨_, rfl, ?_⟩
  unfold Iv.sub
  generalize hr : Iv.add [x, Iv.neg y] = r
  have fn := Iv.neg_ok fy.1 fy.2
  have nn := Iv.near_neg ny
  refine callsA_of hG hm Tryz.func36 (by kernel_rfl) ?_
  intro E hE lp hl'
  cbv
  (apply E_pcallX hE (c_r9Neg ⟨_, ⟨_, _, _, _⟩, ⟨_, _, _, _⟩⟩ ?_); (case hm => rfl); (case hle => exact u_up); all_goals (first | (intro a ha; cbv) | (exact fy)))
  replace ha : a = Iv.neg y := ha
  rw [← ha] at fn nn hr
  (apply E_pcallX hE (c_r9Two ⟨_, ⟨_, _, _, _⟩, ⟨_, _, _, _⟩⟩ ⟨_, ⟨_, _, _, _⟩, ⟨_, _, _, _⟩⟩ ?_ ?_ ?_ ?_); (case hm => rfl); (case hle => exact u_up); all_goals (first | (intro t ht; cbv) | (first | exact fx | exact fn | exact nx | exact nn)))
  have T : t = r := by rw [← hr]; exact ht
  rw [T]; exact ⟨rfl, rfl, rfl, rfl, rfl, rfl, rfl, rfl, rfl, trivial⟩

end Go.Proofs.YtoghalnnmhpfmaaGreat.Ev

/- Contracts of the reference: what two intervals have, their hull; how far from nought, squares, roots. Printed by gen.py. -/
namespace Go.Proofs.YtoghalnnmhpfmaaGreat.Ev
open Go Go.Proofs
set_option linter.unusedVariables false
set_option linter.unusedSimpArgs false

theorem slcN2 {a b : Num} {z : Num} : sle2 (.slc 4 (.l 2) (fun i => getRow [a.cells, b.cells] (Int.ofNat i))) (.slc 4 (.s 2) (fun i => Num.cells ([a, b].getD i z))) := by
  have r : ∀ {x : Num}, sleL sle0 x.cells x.cells := ⟨⟨rfl, rfl⟩, rfl, ⟨rfl, rfl⟩, ⟨rfl, rfl⟩, trivial⟩
  refine ⟨rfl, rfl, fun i hi => ?_⟩
  match i, hi with
  | 0, _ => exact r
  | 1, _ => exact r
  | i + 2, hi => exact absurd hi (by simp [SI.val])
theorem all_ok2 {a b : Num} (h : a.ok) (k : b.ok) : ∀ x ∈ [a, b], x.ok := by
  intro n hn
  simp only [List.mem_cons, List.not_mem_nil, or_false] at hn
  rcases hn with rfl | rfl
  · exact h
  · exact k
theorem c_r8Two (x y : Iv) (fx : x.lo.ok ∧ x.hi.ok) (fy : y.lo.ok ∧ y.hi.ok) : ∃ t : Iv, t = Iv.meet [x, y] ∧ CallsA Tryz.prog 35 [x.av, y.av] t.av := by
  rw [← Iv.rmeet_eq]
  refine ⟨_, rfl, ?_⟩
  generalize hr : Iv.rmeet x y = r
  have emp : (x.fair.empty || y.fair.empty) = true → r = Iv.none := by intro h; rw [← hr]; unfold Iv.rmeet; rw [if_pos h]
  have mak : ¬ (x.fair.empty || y.fair.empty) = true → r = Iv.make (Num.most [x.fair.lo, y.fair.lo]) (Num.least [x.fair.hi, y.fair.hi]) := by intro h; rw [← hr]; unfold Iv.rmeet; rw [if_neg h]
  have fa := Iv.fair_oks fx.1 fx.2
  have fb := Iv.fair_oks fy.1 fy.2
  clear hr
  refine callsA_of hG hm Tryz.func35 (by kernel_rfl) ?_
  intro E hE lp hl'
  cbv
  (apply E_callX hE (c_r8Fair ⟨_, ⟨_, _, _, _⟩, ⟨_, _, _, _⟩⟩ ?_ ?_); (case hf => rfl); (case hc => (cbv <;> trivial)); (case hle => exact u_up); all_goals (first | (intro a ha; cbv) | (first | exact fx.1 | exact fx.2)))
  (apply E_callX hE (c_r8Fair ⟨_, ⟨_, _, _, _⟩, ⟨_, _, _, _⟩⟩ ?_ ?_); (case hf => rfl); (case hc => (cbv <;> trivial)); (case hle => exact u_up); all_goals (first | (intro b hb; cbv) | (first | exact fy.1 | exact fy.2)))
  replace ha : a = x.fair := ha
  replace hb : b = y.fair := hb
  rw [← ha] at emp mak fa
  rw [← hb] at emp mak fb
  clear ha hb
  refine E_br hE (fun g1 => ?_) (fun g1 => ?_) <;> cbv
  · (apply E_callX hE (c_r8None); (case hf => rfl); (case hc => (cbv <;> trivial)); (case hle => exact u_up); all_goals (first | (intro t ht; cbv) | (assumption)))
    have T : t = r := by rw [emp (by rw [g1]; rfl)]; exact ht
    rw [T]; exact ⟨rfl, rfl, rfl, rfl, rfl, rfl, rfl, rfl, rfl, trivial⟩
  refine E_br hE (fun g2 => ?_) (fun g2 => ?_) <;> cbv
  · (apply E_callX hE (c_r8None); (case hf => rfl); (case hc => (cbv <;> trivial)); (case hle => exact u_up); all_goals (first | (intro t ht; cbv) | (assumption)))
    have T : t = r := by rw [emp (by rw [g1, g2]; rfl)]; exact ht
    rw [T]; exact ⟨rfl, rfl, rfl, rfl, rfl, rfl, rfl, rfl, rfl, trivial⟩
  have M := mak (by rw [g1, g2]; decide)
  clear emp mak
  have ol := all_ok2 fa.1 fb.1
  have oh := all_ok2 fa.2 fb.2
  (apply E_pcallX hE (c_rMost [a.lo, b.lo] 2 rfl (by decide) ol); (case hm => rfl); (case hle => exact ⟨slcN2, trivial⟩); all_goals (first | (intro p hp; cbv) | (assumption)))
  (apply E_pcallX hE (c_rLeast [a.hi, b.hi] 2 rfl (by decide) oh); (case hm => rfl); (case hle => exact ⟨slcN2, trivial⟩); all_goals (first | (intro q hq; cbv) | (assumption)))
  have po : p.ok := by rw [hp]; exact (Num.most_spec [a.lo, b.lo] ol).2.1
  have qo : q.ok := by rw [hq]; exact (Num.least_spec [a.hi, b.hi] oh).2.1
  (apply E_pcallX hE (c_r8Make ⟨_, _, _, _⟩ ⟨_, _, _, _⟩ ?_ ?_); (case hm => rfl); (case hle => exact u_up); all_goals (first | (intro t ht; cbv) | (first | exact po | exact qo)))
  have T : t = r := by rw [M, ← hp, ← hq]; exact ht
  rw [T]; exact ⟨rfl, rfl, rfl, rfl, rfl, rfl, rfl, rfl, rfl, trivial⟩

end Go.Proofs.YtoghalnnmhpfmaaGreat.Ev

/- Contracts: the law of roots. Printed by gen.py. -/
namespace Go.Proofs.YtoghalnnmhpfmaaGreat.Ev
open Go Go.Proofs
set_option linter.unusedVariables false
set_option linter.unusedSimpArgs false

end Go.Proofs.YtoghalnnmhpfmaaGreat.Ev

/- How far from nought an interval is lies within the root of its square: plain Lean. -/
namespace Go.Proofs.YtoghalnnmhpfmaaGreat.Ev
open Go

end Go.Proofs.YtoghalnnmhpfmaaGreat.Ev

/- Sums grow with their operands: plain Lean. -/
namespace Go.Proofs.YtoghalnnmhpfmaaGreat.Ev
open Go

theorem Num.add_may {a b : Num} (oa : a.ok) (ob : b.ok) (up : Bool) : (Num.add a b up).may = true := by
  by_cases ka : a.fair.kind = 2
  · rw [Num.add_inf up ka]; split
    · exact Num.inf_may _
    · exact a.fair_may
  · by_cases kb : b.fair.kind = 2
    · rw [Num.add_inf2 oa ob up kb]; split
      · exact Num.inf_may _
      · exact b.fair_may
    · exact (add_best oa ob ka kb up).may
/-- a number is finite, or one of the two others -/
theorem Num.three {a : Num} (oa : a.ok) : (a.fair.kind ≠ 2 ∧ -pw 1048640 < a.fair.val ∧ a.fair.val < pw 1048640) ∨ (a.fair = Num.inf false) ∨ (a.fair = Num.inf true) := by
  by_cases k : a.fair.kind = 2
  · have e := Num.fair_inf oa k
    cases h : a.fair.neg with
    | false => rw [h] at e; exact .inr (.inl e)
    | true => rw [h] at e; exact .inr (.inr e)
  · exact .inl ⟨k, (Num.fin_val a.fair_may (Num.fair_ok oa)).1 k⟩
end Go.Proofs.YtoghalnnmhpfmaaGreat.Ev

/- Sums and products grow with their operands: what they rest on. -/

/- Products grow with their operands: plain Lean. -/
namespace Go.Proofs.YtoghalnnmhpfmaaGreat.Ev
open Go

end Go.Proofs.YtoghalnnmhpfmaaGreat.Ev

/- Quotients grow with what is divided, and shrink with the divisor: plain Lean. -/
namespace Go.Proofs.YtoghalnnmhpfmaaGreat.Ev
open Go

theorem Num.div_inf_r {a b : Num} (up : Bool) (h : b.fair.kind = 2) : Num.div a b up = Num.zero := by
  unfold Num.div
  rw [if_neg (by rw [h]; decide), if_pos (.inr h)]
theorem Num.div_inf_l {a b : Num} (up : Bool) (ha : a.fair.kind = 2) (h0 : b.fair.kind ≠ 0) (h2 : b.fair.kind ≠ 2) : Num.div a b up = Num.inf (a.fair.neg != b.fair.neg) := by
  unfold Num.div
  rw [if_neg h0, if_neg (by rintro (k | k); (rw [ha] at k; exact absurd k (by decide)); exact h2 k), if_pos ha]
theorem Num.kind1 {a : Num} (oa : a.ok) (h0 : a.fair.kind ≠ 0) (h2 : a.fair.kind ≠ 2) : a.fair.kind = 1 := (Num.fair_fin oa h0 h2).kind

theorem Num.div_may {a b : Num} (oa : a.ok) (ob : b.ok) (up : Bool) : (Num.div a b up).may = true := by
  by_cases h0 : b.fair.kind = 0
  · unfold Num.div; rw [if_pos h0]; exact Num.inf_may _
  · by_cases h2 : b.fair.kind = 2
    · rw [Num.div_inf_r up h2]; exact Num.zero_may
    · by_cases ha : a.fair.kind = 2
      · rw [Num.div_inf_l up ha h0 h2]; exact Num.inf_may _
      · exact (div_best oa ob ha (Num.kind1 ob h0 h2) up).may

end Go.Proofs.YtoghalnnmhpfmaaGreat.Ev

/- Sums and products of parts are parts: plain Lean. -/
namespace Go.Proofs.YtoghalnnmhpfmaaGreat.Ev
open Go

/-- a is a part of c -/
structure Iv.Part (a c : Iv) : Prop where
  ra : a.Real
  rc : c.Real
  lo : c.lo.val ≤ a.lo.val
  hi : a.hi.val ≤ c.hi.val
theorem Iv.fair_empty (a : Iv) : a.fair.empty = a.bad := by
  unfold Iv.fair Iv.bad
  cases h : a.may <;> simp [Iv.none]
theorem Iv.within_part {a c : Iv} (ha : a.lo.ok ∧ a.hi.ok) (hc : c.lo.ok ∧ c.hi.ok) (h : a.within c = true) : a.bad = true ∨ Iv.Part a c := by
  cases hb : a.bad with
  | true => exact .inl rfl
  | false =>
    right
    have ra := Iv.real_of_good hb ha.1 ha.2
    unfold Iv.within at h
    rw [Iv.fair_empty, Iv.fair_empty, hb] at h
    simp only [Bool.false_or, Bool.and_eq_true, decide_eq_true_eq, Bool.not_eq_true'] at h
    obtain ⟨⟨h1, h2⟩, h3⟩ := h
    have rc := Iv.real_of_good h1 hc.1 hc.2
    rw [ra.fair, rc.fair] at h2 h3
    have e1 := (Num.cmp_le hc.1 ha.1).1 h2
    have e2 := (Num.cmp_le ha.2 hc.2).1 h3
    rw [Num.may_fair rc.lom, Num.may_fair ra.lom] at e1
    rw [Num.may_fair ra.him, Num.may_fair rc.him] at e2
    exact ⟨ra, rc, e1, e2⟩
theorem Iv.Part.lo' {a c : Iv} (P : Iv.Part a c) : c.lo.fair.val ≤ a.lo.fair.val := by rw [Num.may_fair P.rc.lom, Num.may_fair P.ra.lom]; exact P.lo
theorem Iv.Part.hi' {a c : Iv} (P : Iv.Part a c) : a.hi.fair.val ≤ c.hi.fair.val := by rw [Num.may_fair P.rc.him, Num.may_fair P.ra.him]; exact P.hi
theorem Iv.Part.within {a c : Iv} (P : Iv.Part a c) : a.within c = true := Iv.real_within P.ra P.rc P.lo P.hi

theorem Iv.Part.neg {a c : Iv} (P : Iv.Part a c) : Iv.Part (Iv.neg a) (Iv.neg c) := by
  rw [Iv.neg_real P.ra, Iv.neg_real P.rc]
  refine ⟨P.ra.neg, P.rc.neg, ?_, ?_⟩
  · show c.hi.opp.val ≤ a.hi.opp.val
    rw [Num.opp_val, Num.opp_val]; have := P.hi'; omega
  · show a.lo.opp.val ≤ c.lo.opp.val
    rw [Num.opp_val, Num.opp_val]; have := P.lo'; omega
/-- the ends of a part lie between the ends of the whole -/
theorem Iv.Part.ends {a c : Iv} (P : Iv.Part a c) {x : Num} (h : x = a.lo ∨ x = a.hi) : x.ok ∧ x.may = true ∧ c.lo.fair.val ≤ x.fair.val ∧ x.fair.val ≤ c.hi.fair.val := by
  have h1 := P.lo
  have h2 := P.hi
  have h3 := P.ra.le
  rw [Num.may_fair P.rc.lom, Num.may_fair P.rc.him]
  rcases h with rfl | rfl
  · refine ⟨P.ra.loo, P.ra.lom, ?_, ?_⟩ <;> rw [Num.may_fair P.ra.lom] <;> omega
  · refine ⟨P.ra.hio, P.ra.him, ?_, ?_⟩ <;> rw [Num.may_fair P.ra.him] <;> omega

end Go.Proofs.YtoghalnnmhpfmaaGreat.Ev

/- Squares and roots of parts are parts: plain Lean. -/
namespace Go.Proofs.YtoghalnnmhpfmaaGreat.Ev
open Go

end Go.Proofs.YtoghalnnmhpfmaaGreat.Ev

/- Quotients of parts are parts: plain Lean. -/
namespace Go.Proofs.YtoghalnnmhpfmaaGreat.Ev
open Go

theorem Iv.bad_or_real {a : Iv} (h : a.lo.ok ∧ a.hi.ok) : a.bad = true ∨ a.Real := by
  cases e : a.bad with
  | true => exact .inl rfl
  | false => exact .inr (Iv.real_of_good e h.1 h.2)

end Go.Proofs.YtoghalnnmhpfmaaGreat.Ev

/- What two intervals have together, and their hull, by values: plain Lean. -/
namespace Go.Proofs.YtoghalnnmhpfmaaGreat.Ev
open Go

/-- empty, or a part -/
def Iv.In (a c : Iv) : Prop := a.bad = true ∨ Iv.Part a c
theorem Iv.In.within {a c : Iv} (h : Iv.In a c) : a.within c = true := by
  rcases h with h | h
  · unfold Iv.within; rw [Iv.fair_empty, h]; rfl
  · exact h.within
theorem Iv.In.trans {a b c : Iv} (h : Iv.In a b) (g : Iv.In b c) : Iv.In a c := by
  rcases h with h | h
  · exact .inl h
  · rcases g with g | g
    · rw [h.rc.good] at g; cases g
    · have := h.lo
      have := h.hi
      have := g.lo
      have := g.hi
      exact .inr ⟨h.ra, g.rc, by omega, by omega⟩
theorem Iv.In.none {c : Iv} : Iv.In Iv.none c := .inl Iv.none_bad
theorem Iv.Real.self {a : Iv} (r : a.Real) : Iv.Part a a := ⟨r, r, Int.le_refl _, Int.le_refl _⟩
theorem Iv.goods_two {x y : Iv} (rx : x.Real) (ry : y.Real) : Iv.goods [x, y] = [x, y] := by
  simp only [Iv.goods, rx.fair, ry.fair, rx.some, ry.some]
  rw [if_neg (by decide), if_neg (by decide)]
theorem Iv.most_two {a b : Num} (ma : a.may = true) (mb : b.may = true) (oa : a.ok) (ob : b.ok) : (Num.most [a, b]).may = true ∧ (Num.most [a, b]).ok ∧ a.val ≤ (Num.most [a, b]).val ∧ b.val ≤ (Num.most [a, b]).val ∧ (Num.most [a, b] = a ∨ Num.most [a, b] = b) := by
  have s := Num.most_spec [a, b] (by simp; exact ⟨oa, ob⟩)
  have k1 := s.2.2.1 a (by simp)
  have k2 := s.2.2.1 b (by simp)
  rw [Num.may_fair ma] at k1
  rw [Num.may_fair mb] at k2
  refine ⟨s.1, s.2.1, k1, k2, ?_⟩
  rcases s.2.2.2 with e | ⟨x, hx, e⟩
  · left
    refine Num.val_inj s.1 ma s.2.1 oa ?_
    have := (Num.val_le ma oa).1
    rw [e, Num.val_inf] at k1 ⊢; simp at k1 ⊢; omega
  · simp only [List.mem_cons, List.not_mem_nil, or_false] at hx
    rcases hx with rfl | rfl
    · left; rw [e, Num.may_fair ma]
    · right; rw [e, Num.may_fair mb]
theorem Iv.least_two {a b : Num} (ma : a.may = true) (mb : b.may = true) (oa : a.ok) (ob : b.ok) : (Num.least [a, b]).may = true ∧ (Num.least [a, b]).ok ∧ (Num.least [a, b]).val ≤ a.val ∧ (Num.least [a, b]).val ≤ b.val ∧ (Num.least [a, b] = a ∨ Num.least [a, b] = b) := by
  have s := Num.least_spec [a, b] (by simp; exact ⟨oa, ob⟩)
  have k1 := s.2.2.1 a (by simp)
  have k2 := s.2.2.1 b (by simp)
  rw [Num.may_fair ma] at k1
  rw [Num.may_fair mb] at k2
  refine ⟨s.1, s.2.1, k1, k2, ?_⟩
  rcases s.2.2.2 with e | ⟨x, hx, e⟩
  · left
    refine Num.val_inj s.1 ma s.2.1 oa ?_
    have := (Num.val_le ma oa).2
    rw [e, Num.val_inf] at k1 ⊢; simp at k1 ⊢; omega
  · simp only [List.mem_cons, List.not_mem_nil, or_false] at hx
    rcases hx with rfl | rfl
    · left; rw [e, Num.may_fair ma]
    · right; rw [e, Num.may_fair mb]
theorem Iv.meet_real {x y : Iv} (rx : x.Real) (ry : y.Real) : Iv.meet [x, y] = Iv.make (Num.most [x.lo, y.lo]) (Num.least [x.hi, y.hi]) := by
  have ag : Iv.allGood [x, y] = true := by
    simp only [Iv.allGood, List.all_cons, List.all_nil, Iv.fair_empty, rx.good, ry.good]; decide
  unfold Iv.meet Iv.los Iv.his
  rw [if_pos ag, Iv.goods_two rx ry]; rfl
theorem Iv.meet_one {x : Iv} (h : x.lo.ok ∧ x.hi.ok) : Iv.meet [x] = x.fair := by
  rcases Iv.bad_or_real h with b | r
  · have ag : Iv.allGood [x] = false := by
      simp only [Iv.allGood, List.all_cons, List.all_nil, Iv.fair_empty, b]; decide
    unfold Iv.meet
    rw [if_neg (by rw [ag]; decide)]
    unfold Iv.bad at b
    unfold Iv.fair
    cases hm : x.may with
    | false => rfl
    | true =>
      rw [hm] at b
      simp at b
      rw [if_pos rfl]; exact (Iv.empty_may hm b).symm
  · have ag : Iv.allGood [x] = true := by
      simp only [Iv.allGood, List.all_cons, List.all_nil, Iv.fair_empty, r.good]; decide
    have g : Iv.goods [x] = [x] := by simp only [Iv.goods, r.fair, r.some]; rw [if_neg (by decide)]
    have e1 : Num.most [x.lo] = x.lo := by
      have s := Num.most_spec [x.lo] (by simp; exact r.loo)
      have k1 := s.2.2.1 x.lo (by simp)
      rw [Num.may_fair r.lom] at k1
      refine Num.val_inj s.1 r.lom s.2.1 r.loo ?_
      rcases s.2.2.2 with e | ⟨z, hz, e⟩
      · have := (Num.val_le r.lom r.loo).1
        rw [e, Num.val_inf] at k1 ⊢; simp at k1 ⊢; omega
      · simp at hz; subst hz; rw [e, Num.may_fair r.lom]
    have e2 : Num.least [x.hi] = x.hi := by
      have s := Num.least_spec [x.hi] (by simp; exact r.hio)
      have k1 := s.2.2.1 x.hi (by simp)
      rw [Num.may_fair r.him] at k1
      refine Num.val_inj s.1 r.him s.2.1 r.hio ?_
      rcases s.2.2.2 with e | ⟨z, hz, e⟩
      · have := (Num.val_le r.him r.hio).2
        rw [e, Num.val_inf] at k1 ⊢; simp at k1 ⊢; omega
      · simp at hz; subst hz; rw [e, Num.may_fair r.him]
    have : Iv.meet [x] = Iv.make (Num.most [x.lo]) (Num.least [x.hi]) := by
      unfold Iv.meet Iv.los Iv.his
      rw [if_pos ag, g]; rfl
    rw [this, e1, e2, r.fair, Iv.make_real (by rw [Num.may_fair r.lom, Num.may_fair r.him]; exact ⟨rfl, r.lom, r.him, r.loo, r.hio, r.le, r.lt, r.gt⟩), Num.may_fair r.lom, Num.may_fair r.him]
    have := r.some
    cases x; simp_all
theorem Iv.meet_one_real {x : Iv} (r : x.Real) : Iv.meet [x] = x := by rw [Iv.meet_one ⟨r.loo, r.hio⟩, r.fair]
end Go.Proofs.YtoghalnnmhpfmaaGreat.Ev

/- What is left of operands, as functions of values; what is left is within what was there, and of an empty result nothing is left: plain Lean. -/
namespace Go.Proofs.YtoghalnnmhpfmaaGreat.Ev
open Go

/-- an interval, and whether it has nought -/
structure Opd where
  iv : Iv
  nought : Bool
def Opd.of (x : Iv) : Opd := ⟨Iv.meet [x], Iv.has x Num.zero⟩
def Opd.part (x z y : Opd) : Opd := if (z.nought && y.nought) = true then x else Opd.of (Iv.meet [x.iv, Iv.div z.iv y.iv])
def bkPlus (z x y : Iv) : Iv × Iv := (Iv.meet [x, Iv.sub z y], Iv.meet [y, Iv.sub z (Iv.meet [x, Iv.sub z y])])
def bkMinus (z x y : Iv) : Iv × Iv := (Iv.meet [x, Iv.add [z, y]], Iv.meet [y, Iv.sub (Iv.meet [x, Iv.add [z, y]]) z])
/-- the divisor, but for the point nought -/
def Opd.by (y : Iv) : Opd := if (Opd.of y).iv = Iv.point Num.zero then Opd.of Iv.none else Opd.of y
def Opd.top (z x y : Iv) : Opd := Opd.of (Iv.meet [x, Iv.mul (Opd.of z).iv (Opd.by y).iv])
def bkSqr (z x : Iv) : Iv := Iv.hull [Iv.meet [x, Iv.root z], Iv.meet [x, Iv.neg (Iv.root z)]]
abbrev Iv.fit (x : Iv) : Prop := x.lo.ok ∧ x.hi.ok
theorem Iv.meet2_ok {x y : Iv} (hx : x.fit) (hy : y.fit) : (Iv.meet [x, y]).fit := Iv.meet_ok (all2 hx hy)
theorem Iv.add2_ok {x y : Iv} (hx : x.fit) (hy : y.fit) : (Iv.add [x, y]).fit := Iv.add_ok (all2 hx hy)
theorem Iv.sub_fit {x y : Iv} (hx : x.fit) (hy : y.fit) : (Iv.sub x y).fit := Iv.sub_ok hx hy
theorem Iv.none_fit : Iv.none.fit := ⟨Num.zero_ok, Num.zero_ok⟩
end Go.Proofs.YtoghalnnmhpfmaaGreat.Ev

/- The reference's ways back are the program's: plain Lean. -/
namespace Go.Proofs.YtoghalnnmhpfmaaGreat.Ev
open Go

end Go.Proofs.YtoghalnnmhpfmaaGreat.Ev

/- Contracts of the reference: what is left of operands, but for sums. Printed by gen.py. -/
namespace Go.Proofs.YtoghalnnmhpfmaaGreat.Ev
open Go Go.Proofs
set_option linter.unusedVariables false
set_option linter.unusedSimpArgs false

end Go.Proofs.YtoghalnnmhpfmaaGreat.Ev

/- What the laws of rules and of parts ask for; two intervals cell by cell. -/
namespace Go.Proofs.YtoghalnnmhpfmaaGreat.Ev
open Go Go.Proofs
set_option linter.unusedVariables false
set_option linter.unusedSimpArgs false
end Go.Proofs.YtoghalnnmhpfmaaGreat.Ev

/- Contracts: what is left of operands. Printed by gen.py out of C25.spec. -/
namespace Go.Proofs.YtoghalnnmhpfmaaGreat.Ev
open Go Go.Proofs
set_option linter.unusedVariables false
set_option linter.unusedSimpArgs false
def Opd.av (x : Opd) : AV := .agg [.bool (.s x.iv.empty), .int .i64 (.s x.iv.lo.kind), .bool (.s x.iv.lo.neg), .int .u64 (.s x.iv.lo.m), .int .i64 (.s x.iv.lo.e),
  .int .i64 (.s x.iv.hi.kind), .bool (.s x.iv.hi.neg), .int .u64 (.s x.iv.hi.m), .int .i64 (.s x.iv.hi.e), .bool (.s x.nought)]
set_option maxHeartbeats 4000000
set_option maxRecDepth 10000

theorem c_bkSqr (z : Iv) (hz : z.lo.ok ∧ z.hi.ok) (x : Iv) (hx : x.lo.ok ∧ x.hi.ok) : ∃ t : Iv, t = bkSqr z x ∧ CallsA Tryz.prog 13 [z.av, x.av] t.av := by
  refine ⟨_, rfl, ?_⟩
  generalize hr : bkSqr z x = r
  refine callsA_of hG hm Tryz.func13 (by kernel_rfl) ?_
  intro E hE lp hl
  cbv
  repeat' (first
    | (apply E_br_t hE; assumption; cbv)
    | (apply E_br_f hE; assumption; cbv)
    | (refine E_br hE (fun h => ?_) (fun h => ?_) <;> cbv)
    | (refine E_nm hE (fun v hv => ?_); cbv)
    | (apply E_callX hE (k_opRoot ⟨_, ⟨_, _, _, _⟩, ⟨_, _, _, _⟩⟩ ?_); (case hf => rfl); (case hc => (cbv <;> trivial)); (case hle => exact u_up); all_goals (first | (rintro t ⟨ht, ho⟩; cbv) | (first | assumption | exact Num.zero_ok | exact Iv.none_fit | exact Iv.positive_ok)))
    | (apply E_pcallX hE (k_opNeg ⟨_, ⟨_, _, _, _⟩, ⟨_, _, _, _⟩⟩ ?_); (case hm => rfl); (case hle => exact u_up); all_goals (first | (rintro t ⟨ht, ho⟩; cbv) | (first | assumption | exact Num.zero_ok | exact Iv.none_fit | exact Iv.positive_ok)))
    | (apply E_pcallX hE (k_meet2 ⟨_, ⟨_, _, _, _⟩, ⟨_, _, _, _⟩⟩ ?_ ⟨_, ⟨_, _, _, _⟩, ⟨_, _, _, _⟩⟩ ?_); (case hm => rfl); (case hle => exact ⟨slcG2, trivial⟩); all_goals (first | (rintro t ⟨ht, ho⟩; cbv) | (first | assumption | exact Num.zero_ok | exact Iv.none_fit | exact Iv.positive_ok)))
    | (apply E_pcallX hE (k_hull2 ⟨_, ⟨_, _, _, _⟩, ⟨_, _, _, _⟩⟩ ?_ ⟨_, ⟨_, _, _, _⟩, ⟨_, _, _, _⟩⟩ ?_); (case hm => rfl); (case hle => exact ⟨slcG2, trivial⟩); all_goals (first | (rintro t ⟨ht, ho⟩; cbv) | (first | assumption | exact Num.zero_ok | exact Iv.none_fit | exact Iv.positive_ok)))
    | fail)
  subst_vars
  exact ⟨rfl, rfl, rfl, rfl, rfl, rfl, rfl, rfl, rfl, trivial⟩

theorem k_bkSqr (z : Iv) (hz : z.lo.ok ∧ z.hi.ok) (x : Iv) (hx : x.lo.ok ∧ x.hi.ok) : ∃ t : Iv, (t = bkSqr z x ∧ (t.lo.ok ∧ t.hi.ok)) ∧ CallsA Tryz.prog 13 [z.av, x.av] t.av :=
  withQ (p := fun t : Iv => t.lo.ok ∧ t.hi.ok) (c_bkSqr z hz x hx) (Iv.hull_ok (all2 (Iv.meet2_ok hx (Iv.root_ok hz)) (Iv.meet2_ok hx (Iv.neg_ok (Iv.root_ok hz).1 (Iv.root_ok hz).2))))

theorem c_bkPlus (z : Iv) (hz : z.lo.ok ∧ z.hi.ok) (x : Iv) (hx : x.lo.ok ∧ x.hi.ok) (y : Iv) (hy : y.lo.ok ∧ y.hi.ok) : ∃ t : Iv × Iv, t = bkPlus z x y ∧ CallsA Tryz.prog 9 [z.av, x.av, y.av] (.tup [t.1.av, t.2.av]) := by
  refine ⟨_, rfl, ?_⟩
  generalize hr : bkPlus z x y = r
  refine callsA_of hG hm Tryz.func9 (by kernel_rfl) ?_
  intro E hE lp hl
  cbv
  repeat' (first
    | (apply E_br_t hE; assumption; cbv)
    | (apply E_br_f hE; assumption; cbv)
    | (refine E_br hE (fun h => ?_) (fun h => ?_) <;> cbv)
    | (refine E_nm hE (fun v hv => ?_); cbv)
    | (apply E_pcallX hE (k_opSub ⟨_, ⟨_, _, _, _⟩, ⟨_, _, _, _⟩⟩ ?_ ⟨_, ⟨_, _, _, _⟩, ⟨_, _, _, _⟩⟩ ?_); (case hm => rfl); (case hle => exact u_up); all_goals (first | (rintro t ⟨ht, ho⟩; cbv) | (first | assumption | exact Num.zero_ok | exact Iv.none_fit | exact Iv.positive_ok)))
    | (apply E_pcallX hE (k_meet2 ⟨_, ⟨_, _, _, _⟩, ⟨_, _, _, _⟩⟩ ?_ ⟨_, ⟨_, _, _, _⟩, ⟨_, _, _, _⟩⟩ ?_); (case hm => rfl); (case hle => exact ⟨slcG2, trivial⟩); all_goals (first | (rintro t ⟨ht, ho⟩; cbv) | (first | assumption | exact Num.zero_ok | exact Iv.none_fit | exact Iv.positive_ok)))
    | fail)
  all_goals simp only [Num.eta, Iv.eta] at *
  subst_vars
  exact ⟨⟨rfl, rfl, rfl, rfl, rfl, rfl, rfl, rfl, rfl, trivial⟩, ⟨rfl, rfl, rfl, rfl, rfl, rfl, rfl, rfl, rfl, trivial⟩, trivial⟩

theorem k_bkPlus (z : Iv) (hz : z.lo.ok ∧ z.hi.ok) (x : Iv) (hx : x.lo.ok ∧ x.hi.ok) (y : Iv) (hy : y.lo.ok ∧ y.hi.ok) : ∃ t : Iv × Iv, (t = bkPlus z x y ∧ ((t.1.lo.ok ∧ t.1.hi.ok) ∧ (t.2.lo.ok ∧ t.2.hi.ok))) ∧ CallsA Tryz.prog 9 [z.av, x.av, y.av] (.tup [t.1.av, t.2.av]) :=
  withQ (p := fun t : Iv × Iv => (t.1.lo.ok ∧ t.1.hi.ok) ∧ (t.2.lo.ok ∧ t.2.hi.ok)) (c_bkPlus z hz x hx y hy) (⟨Iv.meet2_ok hx (Iv.sub_fit hz hy), Iv.meet2_ok hy (Iv.sub_fit hz (Iv.meet2_ok hx (Iv.sub_fit hz hy)))⟩)

theorem c_bkMinus (z : Iv) (hz : z.lo.ok ∧ z.hi.ok) (x : Iv) (hx : x.lo.ok ∧ x.hi.ok) (y : Iv) (hy : y.lo.ok ∧ y.hi.ok) : ∃ t : Iv × Iv, t = bkMinus z x y ∧ CallsA Tryz.prog 11 [z.av, x.av, y.av] (.tup [t.1.av, t.2.av]) := by
  refine ⟨_, rfl, ?_⟩
  generalize hr : bkMinus z x y = r
  refine callsA_of hG hm Tryz.func11 (by kernel_rfl) ?_
  intro E hE lp hl
  cbv
  repeat' (first
    | (apply E_br_t hE; assumption; cbv)
    | (apply E_br_f hE; assumption; cbv)
    | (refine E_br hE (fun h => ?_) (fun h => ?_) <;> cbv)
    | (refine E_nm hE (fun v hv => ?_); cbv)
    | (apply E_pcallX hE (k_opAdd2 ⟨_, ⟨_, _, _, _⟩, ⟨_, _, _, _⟩⟩ ?_ ⟨_, ⟨_, _, _, _⟩, ⟨_, _, _, _⟩⟩ ?_); (case hm => rfl); (case hle => exact ⟨slcG2, trivial⟩); all_goals (first | (rintro t ⟨ht, ho⟩; cbv) | (first | assumption | exact Num.zero_ok | exact Iv.none_fit | exact Iv.positive_ok)))
    | (apply E_pcallX hE (k_opSub ⟨_, ⟨_, _, _, _⟩, ⟨_, _, _, _⟩⟩ ?_ ⟨_, ⟨_, _, _, _⟩, ⟨_, _, _, _⟩⟩ ?_); (case hm => rfl); (case hle => exact u_up); all_goals (first | (rintro t ⟨ht, ho⟩; cbv) | (first | assumption | exact Num.zero_ok | exact Iv.none_fit | exact Iv.positive_ok)))
    | (apply E_pcallX hE (k_meet2 ⟨_, ⟨_, _, _, _⟩, ⟨_, _, _, _⟩⟩ ?_ ⟨_, ⟨_, _, _, _⟩, ⟨_, _, _, _⟩⟩ ?_); (case hm => rfl); (case hle => exact ⟨slcG2, trivial⟩); all_goals (first | (rintro t ⟨ht, ho⟩; cbv) | (first | assumption | exact Num.zero_ok | exact Iv.none_fit | exact Iv.positive_ok)))
    | fail)
  all_goals simp only [Num.eta, Iv.eta] at *
  subst_vars
  exact ⟨⟨rfl, rfl, rfl, rfl, rfl, rfl, rfl, rfl, rfl, trivial⟩, ⟨rfl, rfl, rfl, rfl, rfl, rfl, rfl, rfl, rfl, trivial⟩, trivial⟩

theorem k_bkMinus (z : Iv) (hz : z.lo.ok ∧ z.hi.ok) (x : Iv) (hx : x.lo.ok ∧ x.hi.ok) (y : Iv) (hy : y.lo.ok ∧ y.hi.ok) : ∃ t : Iv × Iv, (t = bkMinus z x y ∧ ((t.1.lo.ok ∧ t.1.hi.ok) ∧ (t.2.lo.ok ∧ t.2.hi.ok))) ∧ CallsA Tryz.prog 11 [z.av, x.av, y.av] (.tup [t.1.av, t.2.av]) :=
  withQ (p := fun t : Iv × Iv => (t.1.lo.ok ∧ t.1.hi.ok) ∧ (t.2.lo.ok ∧ t.2.hi.ok)) (c_bkMinus z hz x hx y hy) (⟨Iv.meet2_ok hx (Iv.add2_ok hz hy), Iv.meet2_ok hy (Iv.sub_fit (Iv.meet2_ok hx (Iv.add2_ok hz hy)) hz)⟩)

end Go.Proofs.YtoghalnnmhpfmaaGreat.Ev

/- What an operation makes just of a number of a result is left: plain Lean. -/
namespace Go.Proofs.YtoghalnnmhpfmaaGreat.Ev
open Go

/-- an interval holds a value -/
structure Holds (x : Iv) (v : Int) : Prop where
  r : x.Real
  lo : x.lo.val ≤ v
  hi : v ≤ x.hi.val
/-- ... of any size, scaled -/
structure Spans (x : Iv) (t : Int) : Prop where
  r : x.Real
  lo : x.lo.below t
  hi : x.hi.above t
abbrev Small (v : Int) : Prop := -pw 1048640 < v ∧ v < pw 1048640
theorem Num.below_of {n : Num} {t : Int} (m : n.may = true) (o : n.ok) (h : n.val < pw 1048640) (g : n.val * pw 0 ≤ t) : n.below t := by
  by_cases k : n.kind = 2
  · rcases Num.inf_val m o k with j | j
    · exact .inl (by rw [Num.inf_of m o k, j.1])
    · omega
  · exact .inr ⟨k, g⟩
theorem Num.above_of {n : Num} {t : Int} (m : n.may = true) (o : n.ok) (h : -pw 1048640 < n.val) (g : t ≤ n.val * pw 0) : n.above t := by
  by_cases k : n.kind = 2
  · rcases Num.inf_val m o k with j | j
    · omega
    · exact .inl (by rw [Num.inf_of m o k, j.1])
  · exact .inr ⟨k, g⟩
theorem Holds.spans {x : Iv} {v : Int} (h : Holds x v) : Spans x (v * pw 0) :=
  ⟨h.r, Num.below_of h.r.lom h.r.loo h.r.lt (Int.mul_le_mul_of_nonneg_right h.lo (Int.le_of_lt (pw_pos 0))), Num.above_of h.r.him h.r.hio h.r.gt (Int.mul_le_mul_of_nonneg_right h.hi (Int.le_of_lt (pw_pos 0)))⟩
theorem Spans.part {a c : Iv} {t : Int} (h : Spans a t) (P : Iv.Part a c) : Spans c t := by
  have p0 := pw_pos 0
  have l := P.lo
  have g := P.hi
  refine ⟨P.rc, ?_, ?_⟩
  · rcases h.lo with e | ⟨-, e⟩
    · left
      refine Num.val_inj P.rc.lom (Num.inf_may _) P.rc.loo (Num.inf_ok _) ?_
      have := (Num.val_le P.rc.lom P.rc.loo).1
      rw [e, Num.val_inf] at l
      rw [Num.val_inf]; simp at l ⊢; omega
    · have := Int.mul_le_mul_of_nonneg_right l (Int.le_of_lt p0)
      exact Num.below_of P.rc.lom P.rc.loo P.rc.lt (by omega)
  · rcases h.hi with e | ⟨-, e⟩
    · left
      refine Num.val_inj P.rc.him (Num.inf_may _) P.rc.hio (Num.inf_ok _) ?_
      have := (Num.val_le P.rc.him P.rc.hio).2
      rw [e, Num.val_inf] at g
      rw [Num.val_inf]; simp at g ⊢; omega
    · have := Int.mul_le_mul_of_nonneg_right g (Int.le_of_lt p0)
      exact Num.above_of P.rc.him P.rc.hio P.rc.gt (by omega)
theorem Spans.within {a c : Iv} {t : Int} (h : Spans a t) (hc : c.fit) (w : a.within c = true) : Spans c t := by
  rcases Iv.within_part ⟨h.r.loo, h.r.hio⟩ hc w with b | P
  · rw [h.r.good] at b; cases b
  · exact h.part P
theorem Spans.neg {x : Iv} {t : Int} (h : Spans x t) : Spans (Iv.neg x) (-t) := by
  rw [Iv.neg_real h.r]
  have r := h.r.neg
  have vh : x.hi.opp.val = -x.hi.val := by rw [Num.opp_val, Num.may_fair h.r.him]
  have vl : x.lo.opp.val = -x.lo.val := by rw [Num.opp_val, Num.may_fair h.r.lom]
  refine ⟨r, ?_, ?_⟩
  · show x.hi.opp.below (-t)
    rcases h.hi with e | ⟨-, e⟩
    · left; rw [e]; exact Num.opp_inf _
    · exact Num.below_of r.lom r.loo r.lt (by show x.hi.opp.val * pw 0 ≤ _; rw [vh, Int.neg_mul]; omega)
  · show x.lo.opp.above (-t)
    rcases h.lo with e | ⟨-, e⟩
    · left; rw [e]; exact Num.opp_inf _
    · exact Num.above_of r.him r.hio r.gt (by show _ ≤ x.lo.opp.val * pw 0; rw [vl, Int.neg_mul]; omega)
theorem Holds.neg {x : Iv} {v : Int} (h : Holds x v) : Holds (Iv.neg x) (-v) := by
  rw [Iv.neg_real h.r]
  have l := h.lo
  have g := h.hi
  exact ⟨h.r.neg, by show x.hi.opp.val ≤ -v; rw [Num.opp_val, Num.may_fair h.r.him]; omega, by show -v ≤ x.lo.opp.val; rw [Num.opp_val, Num.may_fair h.r.lom]; omega⟩
theorem make_holds {l u : Num} {v : Int} (ml : l.may = true) (mu : u.may = true) (ol : l.ok) (ou : u.ok) (h1 : l.val ≤ v) (h2 : v ≤ u.val) (s : Small v) : Holds (Iv.make l u) v := by
  have R : (Iv.mk false l u).Real := ⟨rfl, ml, mu, ol, ou, by show l.val ≤ u.val; omega, by show l.val < _; have := s.2; omega, by show _ < u.val; have := s.1; omega⟩
  rw [Iv.make_real (by rw [Num.may_fair ml, Num.may_fair mu]; exact R), Num.may_fair ml, Num.may_fair mu]
  exact ⟨R, h1, h2⟩
theorem Num.add_lo {a b : Num} {t : Int} (ma : a.may = true) (mb : b.may = true) (oa : a.ok) (ob : b.ok) (na : a.val < pw 1048640) (nb : b.val < pw 1048640) (ht : -pw 1048640 < t) (h : a = Num.inf true ∨ a.val + b.val ≤ t) : (Num.add a b false).val ≤ t := by
  by_cases ka : a.kind = 2
  · have e : a = Num.inf true := by
      rcases Num.inf_val ma oa ka with j | j
      · rw [Num.inf_of ma oa ka, j.1]
      · omega
    rw [Num.add_inf false (by rw [Num.may_fair ma]; exact ka), Num.may_fair ma, Num.may_fair mb]
    have n : ¬ (b.kind = 2 ∧ a.neg ≠ b.neg) := by
      rintro ⟨k, d⟩
      rcases Num.inf_val mb ob k with j | j
      · rw [e, j.1] at d; exact d rfl
      · omega
    rw [if_neg n, e, Num.val_inf]; simp; omega
  · by_cases kb : b.kind = 2
    · have e : b = Num.inf true := by
        rcases Num.inf_val mb ob kb with j | j
        · rw [Num.inf_of mb ob kb, j.1]
        · omega
      rw [Num.add_inf2 oa ob false (by rw [Num.may_fair mb]; exact kb), Num.may_fair ma, Num.may_fair mb, if_neg (fun k => ka k.1), e, Num.val_inf]; simp; omega
    · have B := add_best oa ob (by rw [Num.may_fair ma]; exact ka) (by rw [Num.may_fair mb]; exact kb) false
      rw [Num.may_fair ma, Num.may_fair mb] at B
      rcases (B.down rfl).2 with e | e
      · rw [e, Num.val_inf]; simp; omega
      · rcases h with h | h
        · rw [h] at ka; exact absurd rfl ka
        · omega
theorem Num.add_hi {a b : Num} {t : Int} (ma : a.may = true) (mb : b.may = true) (oa : a.ok) (ob : b.ok) (na : -pw 1048640 < a.val) (nb : -pw 1048640 < b.val) (ht : t < pw 1048640) (h : a = Num.inf false ∨ t ≤ a.val + b.val) : t ≤ (Num.add a b true).val := by
  have va : a.opp.val = -a.val := by rw [Num.opp_val, Num.may_fair ma]
  have vb : b.opp.val = -b.val := by rw [Num.opp_val, Num.may_fair mb]
  have k := Num.add_lo (t := -t) (Num.opp_may a) (Num.opp_may b) (Num.opp_ok oa) (Num.opp_ok ob) (by omega) (by omega) (by omega) (h.imp (fun e => by rw [e]; exact Num.opp_inf _) (fun e => by omega))
  have e := Num.add_opp oa ob true
  rw [show (!true) = false from rfl] at e
  rw [e, Num.opp_val, Num.may_fair (Num.add_may oa ob true)] at k
  omega
/-- What spans one and what holds another one: their sum holds both together. -/
theorem Spans.add {x y : Iv} {s v w : Int} (h : Spans x (s * pw 0)) (g : Holds y w) (e : v = s + w) (k : Small v) : Holds (Iv.add [x, y]) v := by
  have p0 := pw_pos 0
  rw [Iv.add2_eq, h.r.good, g.r.good]
  simp only [Bool.or_self, Bool.false_eq_true, if_false]
  have l := g.lo
  have u := g.hi
  refine make_holds (Num.add_may h.r.loo g.r.loo _) (Num.add_may h.r.hio g.r.hio _) (Num.add_ok h.r.loo g.r.loo _) (Num.add_ok h.r.hio g.r.hio _) ?_ ?_ k
  · refine Num.add_lo h.r.lom g.r.lom h.r.loo g.r.loo h.r.lt g.r.lt k.1 ?_
    rcases h.lo with q | ⟨-, q⟩
    · exact .inl q
    · right
      have := Int.le_of_mul_le_mul_right q p0
      omega
  · refine Num.add_hi h.r.him g.r.him h.r.hio g.r.hio h.r.gt g.r.gt k.2 ?_
    rcases h.hi with q | ⟨-, q⟩
    · exact .inl q
    · right
      have := Int.le_of_mul_le_mul_right q p0
      omega
theorem Spans.sub {x y : Iv} {s v w : Int} (h : Spans x (s * pw 0)) (g : Holds y w) (e : v = s - w) (k : Small v) : Holds (Iv.sub x y) v := h.add g.neg (by omega) k
/-- ... and the other way round -/
theorem Spans.from {x y : Iv} {s v w : Int} (h : Spans x (s * pw 0)) (g : Holds y w) (e : v = w - s) (k : Small v) : Holds (Iv.sub y x) v := by
  have n := h.neg
  rw [← Int.neg_mul] at n
  have a := n.add g (by omega) k
  unfold Iv.sub
  rwa [Iv.add2_comm ⟨g.r.loo, g.r.hio⟩ (Iv.neg_ok h.r.loo h.r.hio)]
theorem Holds.meet {x y : Iv} {v : Int} (h : Holds x v) (g : Holds y v) (k : Small v) : Holds (Iv.meet [x, y]) v := by
  obtain ⟨m1, m2, -, -, m5⟩ := Iv.most_two h.r.lom g.r.lom h.r.loo g.r.loo
  obtain ⟨l1, l2, -, -, l5⟩ := Iv.least_two h.r.him g.r.him h.r.hio g.r.hio
  rw [Iv.meet_real h.r g.r]
  refine make_holds m1 l1 m2 l2 ?_ ?_ k
  · rcases m5 with e | e <;> rw [e]
    · exact h.lo
    · exact g.lo
  · rcases l5 with e | e <;> rw [e]
    · exact h.hi
    · exact g.hi

theorem Holds.of {x : Iv} {v : Int} (h : Holds x v) : Holds (Opd.of x).iv v := by
  show Holds (Iv.meet [x]) v
  rw [Iv.meet_one_real h.r]; exact h
theorem Spans.of {x : Iv} {t : Int} (h : Spans x t) : Spans (Opd.of x).iv t := by
  show Spans (Iv.meet [x]) t
  rw [Iv.meet_one_real h.r]; exact h
end Go.Proofs.YtoghalnnmhpfmaaGreat.Ev

/- Contracts: the chapter's examples of what is left of operands. Printed by gen.py out of C26a.spec. -/
namespace Go.Proofs.YtoghalnnmhpfmaaGreat.Ev
open Go Go.Proofs
set_option linter.unusedVariables false
set_option linter.unusedSimpArgs false
theorem awk1 : bkPlus (Iv.ofInts 3 3) (Iv.ofInts 0 5) (Iv.ofInts 1 1) = (Iv.ofInts 2 2, Iv.ofInts 1 1) := by decide +kernel
theorem rt4 : (Num.root ⟨1, false, 9223372036854775808, -61⟩ false).1 = ⟨1, false, 9223372036854775808, -62⟩ := by
  have n : nsqrt (9223372036854775808 * 2 ^ 63) = 9223372036854775808 := nsqrt_eq (by decide +kernel) (by decide +kernel)
  have f : (⟨1, false, 9223372036854775808, -61⟩ : Num).fair = ⟨1, false, 9223372036854775808, -61⟩ := by decide
  unfold Num.root
  rw [f]
  simp only [ne_eq, not_true, Bool.false_eq_true, and_false, if_false]
  unfold Num.rootF
  simp only [show ¬ ((-61 : Int) % 2 = 0) by decide, if_false, show (9223372036854775808 : Int).toNat = 9223372036854775808 from rfl, n]
  decide +kernel
theorem rt9 : (Num.root ⟨1, false, 10376293541461622784, -60⟩ true).1 = ⟨1, false, 13835058055282163712, -62⟩ := by
  have n : nsqrt (10376293541461622784 * 2 ^ 64) = 13835058055282163712 := nsqrt_eq (by decide +kernel) (by decide +kernel)
  have f : (⟨1, false, 10376293541461622784, -60⟩ : Num).fair = ⟨1, false, 10376293541461622784, -60⟩ := by decide
  unfold Num.root
  rw [f]
  simp only [ne_eq, not_true, Bool.false_eq_true, and_false, if_false]
  unfold Num.rootF
  simp only [show ((-60 : Int) % 2 = 0) by decide, if_true, show (10376293541461622784 : Int).toNat = 10376293541461622784 from rfl, n]
  decide +kernel
theorem rt49 : Iv.root (Iv.ofInts 4 9) = Iv.ofInts 2 3 := by
  have e : Iv.meet [Iv.ofInts 4 9, Iv.positive] = ⟨false, ⟨1, false, 9223372036854775808, -61⟩, ⟨1, false, 10376293541461622784, -60⟩⟩ := by decide +kernel
  unfold Iv.root
  rw [e]
  simp only [Bool.false_eq_true, if_false, rt4, rt9]; decide +kernel
theorem awk2 : bkSqr (Iv.ofInts 4 9) (Iv.ofInts (-5) 0) = Iv.ofInts (-3) (-2) := by
  unfold bkSqr; rw [rt49]; decide +kernel
theorem awk3 : (Iv.ofInts (-3) (-2)).empty = false ∧ (Iv.ofInts (-3) (-2)).lo = Num.ofInt (-3) ∧ (Num.ofInt (-3)).kind = 1 := by decide +kernel

set_option maxRecDepth 10000 in
set_option maxHeartbeats 16000000 in
theorem c_awakeB  : ∃ t, t = true ∧ CallsA Tryz.prog 7 [] (.bool (.s t)) := by
  refine ⟨_, rfl, ?_⟩
  generalize hr : true = r
  refine callsA_of hG hm Tryz.func7 (by kernel_rfl) ?_
  intro E hE lp hl
  cbv
  repeat' (first
    | (apply E_br_t hE; assumption; cbv)
    | (apply E_br_f hE; assumption; cbv)
    | (refine E_br hE (fun h => ?_) (fun h => ?_) <;> cbv)
    | (refine E_nm hE (fun v hv => ?_); cbv)
    | (apply E_callX hE (k_ivOf _ ?_ ?_ _ ?_ ?_); (case hf => rfl); (case hc => (cbv <;> trivial)); (case hle => exact u_up); all_goals (first | (rintro t ⟨ht, ho⟩; cbv) | (decide)))
    | (apply E_pcallX hE (k_ivOf _ ?_ ?_ _ ?_ ?_); (case hm => rfl); (case hle => exact u_up); all_goals (first | (rintro t ⟨ht, ho⟩; cbv) | (decide)))
    | (apply E_callX hE (k_bkPlus ⟨_, ⟨_, _, _, _⟩, ⟨_, _, _, _⟩⟩ ?_ ⟨_, ⟨_, _, _, _⟩, ⟨_, _, _, _⟩⟩ ?_ ⟨_, ⟨_, _, _, _⟩, ⟨_, _, _, _⟩⟩ ?_); (case hf => rfl); (case hc => (cbv <;> trivial)); (case hle => exact u_up); all_goals (first | (rintro t ⟨ht, ⟨hp, hq⟩⟩; cbv) | (first | assumption | exact Iv.none_fit | (exact And.left (by assumption)) | (exact And.right (by assumption)))))
    | (apply E_callX hE (k_bkSqr ⟨_, ⟨_, _, _, _⟩, ⟨_, _, _, _⟩⟩ ?_ ⟨_, ⟨_, _, _, _⟩, ⟨_, _, _, _⟩⟩ ?_); (case hf => rfl); (case hc => (cbv <;> trivial)); (case hle => exact u_up); all_goals (first | (rintro t ⟨ht, ho⟩; cbv) | (first | assumption | exact Iv.none_fit | (exact And.left (by assumption)) | (exact And.right (by assumption)))))
    | (apply E_pcallX hE (k_Of _ ?_ ?_); (case hm => rfl); (case hle => exact u_up); all_goals (first | (rintro t ⟨ht, ho⟩; cbv) | (first | decide | assumption | omega)))
    | fail)
  all_goals subst hE
  all_goals (try simp only [NatCast.natCast, Int.ofNat_eq_natCast, realE, cmp_eql, cmp_neq, cmp_lss, cmp_leq, cmp_gtr, cmp_geq, intBinR, SI.val, SB.val, Num.eta, Iv.eta] at *)
  all_goals subst hr
  all_goals (simp_all only [awk1, awk2, awk3, decide_true, Bool.not_false, beq_self_eq_true, Bool.and_self, Bool.true_and, Bool.and_true, reduceCtorEq])

end Go.Proofs.YtoghalnnmhpfmaaGreat.Ev

/- Contracts: the laws of what is left of the operands of squares, roots and opposites, and of products and quotients. Printed by gen.py. -/
namespace Go.Proofs.YtoghalnnmhpfmaaGreat.Ev
open Go Go.Proofs
set_option linter.unusedVariables false
set_option linter.unusedSimpArgs false

end Go.Proofs.YtoghalnnmhpfmaaGreat.Ev

/- How far from nought the exponents of sums are: plain Lean. -/
namespace Go.Proofs.YtoghalnnmhpfmaaGreat.Ev
open Go

/-- of an exponent that is not farther than that from nought, if any -/
def Num.nearB (B : Int) (n : Num) : Prop := n.kind = 1 → -B ≤ n.e ∧ n.e ≤ B
theorem Num.nearB.mono {B C : Int} {n : Num} (h : n.nearB B) (hc : B ≤ C) : n.nearB C := fun k => by have := h k; omega
theorem Num.nearB_zero (B : Int) : Num.zero.nearB B := fun k => absurd k (by decide)
theorem Num.nearB_inf (B : Int) (b : Bool) : (Num.inf b).nearB B := fun k => absurd k (by show ¬ (2 : Int) = 1; decide)
theorem Num.nearB_fair {B : Int} {n : Num} (h : n.nearB B) : n.fair.nearB B := by
  unfold Num.fair
  split
  · exact h
  · exact Num.nearB_zero B
theorem Num.nearB_opp {B : Int} {n : Num} (h : n.nearB B) : n.opp.nearB B := fun k => Num.nearB_fair h k
theorem bound_near {neg away : Bool} {m e B : Int} (h1 : -B ≤ e) (h2 : e ≤ B) (hB : B ≤ 1000000) : (Num.bound neg m e away).nearB B := by
  unfold Num.bound
  rw [if_neg (by omega), if_neg (by omega)]
  exact fun _ => ⟨h1, h2⟩
theorem grow_near {neg cut away : Bool} {m e B : Int} (h1 : -B ≤ e) (h2 : e + 1 ≤ B) (hB : B ≤ 1000000) : (Num.grow neg m e cut away).nearB B := by
  have w : IntKind.i64.wrap (e + 1) = e + 1 := by rw [wi64]; omega
  unfold Num.grow
  split
  · split
    · rw [w]; exact bound_near (by omega) h2 hB
    · exact bound_near h1 (by omega) hB
  · exact bound_near h1 (by omega) hB
theorem round_near {p : Bool × Nat × Int} {B : Int} (up : Bool) (h : p = (false, 0, 0) ∨ p.2.1 % 2 = 1) (lo : -B ≤ p.2.2 + blen (p.2.1 : Int) - 64) (hi : p.2.2 + blen (p.2.1 : Int) - 63 ≤ B) (he : -4190000 ≤ p.2.2) (he' : p.2.2 ≤ 4190000) (hB : B ≤ 1000000) : (dyRound p up).nearB B := by
  rcases h with h | h
  · rw [h, round_zero]; exact Num.nearB_zero B
  · unfold dyRound
    rw [dyNorm_odd h (by omega) (by omega)]
    obtain ⟨m, e', cut, r1, r2, r3, r4, _⟩ := rnd_form (ng := p.1) (e := p.2.2) up h he
    rw [r1]
    exact grow_near (by omega) (by omega) hB
theorem exact_nearB {x : Num} {B : Int} (ox : x.ok) (k : x.fair.kind ≠ 2) (hB : 0 ≤ B) (n : x.fair.nearB B) : -B ≤ x.fair.exact.1.2.2 ∧ x.fair.exact.1.2.2 ≤ B + 64 := by
  by_cases k0 : x.fair.kind = 0
  · rw [Num.fair_zero ox k0]
    have e : Num.zero.exact.1 = (false, 0, 0) := by unfold Num.exact; rfl
    rw [e]
    exact ⟨by show -B ≤ 0; omega, by show 0 ≤ B + 64; omega⟩
  · have F := Num.fair_fin ox k0 k
    have lo := F.lo
    have hi := F.hi
    have elo := F.elo
    have ehi := F.ehi
    have hn := n F.kind
    have v := v2_lt (n := x.fair.m.toNat) (k := 64) (by omega) (by show x.fair.m.toNat < 18446744073709551616; omega)
    have d := dyMake_val (ng := x.fair.neg) (k := x.fair.m.toNat) (e := x.fair.e) (by omega) (by omega) (by omega)
    have u : x.fair.exact.1 = dyMake x.fair.neg x.fair.m.toNat x.fair.e := by
      unfold Num.exact
      rw [if_neg (by rw [F.may, F.kind]; decide), if_neg (by rw [F.kind]; decide)]
    rw [u, d.2.2.1]
    omega
theorem align_near {lo hi : Bool × Nat × Int} {t u B : Int} (up : Bool) (hl : Dy lo t) (hh : Dy hi u) (hle : lo.2.2 ≤ hi.2.2) (h1 : -B ≤ lo.2.2) (h2 : hi.2.2 ≤ B + 64) (hB : B ≤ 900000) : (dyRound (dyAlign lo hi) up).nearB (B + 130) := by
  have l1 := hl.lo
  have l2 := hh.hi
  have l3 := hl.lt
  have l4 := hh.lt
  obtain ⟨d, hd⟩ : ∃ d : Nat, (hi.2.2 - lo.2.2).toNat = d := ⟨_, rfl⟩
  have bl : hi.2.1 * 2 ^ d + lo.2.1 < 2 ^ (d + 65) := by
    have p2 : 0 < 2 ^ d := Nat.pow_pos (by decide)
    rw [Nat.pow_add]
    have a1 : (hi.2.1 + 1) * 2 ^ d ≤ 18446744073709551616 * 2 ^ d := Nat.mul_le_mul_right _ (by omega)
    have a2 : 18446744073709551616 * 1 ≤ 18446744073709551616 * 2 ^ d := Nat.mul_le_mul_left _ p2
    have a3 : (2 : Nat) ^ d * 2 ^ 65 = 18446744073709551616 * 2 ^ d + 18446744073709551616 * 2 ^ d := by
      rw [show (2 : Nat) ^ 65 = 18446744073709551616 + 18446744073709551616 by decide, Nat.mul_add, Nat.mul_comm]
    have a4 : (hi.2.1 + 1) * 2 ^ d = hi.2.1 * 2 ^ d + 2 ^ d := by rw [Nat.add_mul, Nat.one_mul]
    omega
  have Wl := wsum_le lo.1 (hi.1 && decide (hi.2.1 * 2 ^ d ≠ 0)) lo.2.1 (hi.2.1 * 2 ^ d)
  unfold dyAlign
  rw [hd]
  generalize wsum lo.1 lo.2.1 (hi.1 && decide (hi.2.1 * 2 ^ d ≠ 0)) (hi.2.1 * 2 ^ d) = w at *
  rcases Nat.eq_zero_or_pos w.2 with h0 | h0
  · rw [h0, dyMake_zero, round_zero]; exact Num.nearB_zero _
  · have v := v2_blen h0
    have bw : blen (w.2 : Int) ≤ d + 65 := by
      have : w.2 < 2 ^ (d + 65) := by omega
      have := blen_le (x := (w.2 : Int)) (d + 65) (by exact_mod_cast this)
      omega
    obtain ⟨d1, d2, d3, d4, d5, d6⟩ := dyMake_val (ng := w.1) (k := w.2) (e := lo.2.2) h0 (by omega) (by omega)
    generalize dyMake w.1 w.2 lo.2.2 = P at *
    have b1 := v2_blen (k := P.2.1) (by omega)
    exact round_near (p := P) up (.inr d1) (by omega) (by omega) (by omega) (by omega) (by omega)
theorem add_nearB {x y : Num} {B : Int} (ox : x.ok) (oy : y.ok) (nx : x.nearB B) (ny : y.nearB B) (h0 : 0 ≤ B) (hB : B ≤ 900000) (up : Bool) : (Num.add x y up).nearB (B + 130) := by
  rw [← radd_eq ox oy]
  have fx := Num.nearB_fair nx
  have fy := Num.nearB_fair ny
  unfold Num.radd
  split
  · exact Num.nearB_inf _ _
  · split
    · exact fx.mono (by omega)
    · split
      · exact fy.mono (by omega)
      · rename_i _ k1 k2
        have DX := exact_dy ox k1
        have DY := exact_dy oy k2
        have ex := exact_nearB ox k1 h0 fx
        have ey := exact_nearB oy k2 h0 fy
        generalize x.fair.exact.1 = X at *
        generalize y.fair.exact.1 = Y at *
        have bx : blen (X.2.1 : Int) ≤ 64 := blen_le 64 (by have := DX.lt; show (X.2.1 : Int) < 18446744073709551616; omega)
        have bY : blen (Y.2.1 : Int) ≤ 64 := blen_le 64 (by have := DY.lt; show (Y.2.1 : Int) < 18446744073709551616; omega)
        have cx := blen_nonneg (X.2.1 : Int)
        have cy := blen_nonneg (Y.2.1 : Int)
        unfold dyPlus
        rw [DX.norm, DY.norm]
        split
        · exact round_near up DY.odd (by omega) (by omega) (by omega) (by omega) (by omega)
        · split
          · exact round_near up DX.odd (by omega) (by omega) (by omega) (by omega) (by omega)
          · split
            · exact align_near up DY DX (by omega) ey.1 ex.2 hB
            · exact align_near up DX DY (by omega) ex.1 ey.2 hB

def Iv.nearB (B : Int) (x : Iv) : Prop := x.lo.nearB B ∧ x.hi.nearB B
theorem Iv.nearB.mono {B C : Int} {x : Iv} (h : x.nearB B) (hc : B ≤ C) : x.nearB C := ⟨h.1.mono hc, h.2.mono hc⟩
theorem Iv.nearB_none (B : Int) : Iv.none.nearB B := ⟨Num.nearB_zero B, Num.nearB_zero B⟩
theorem Iv.nearB_fair {B : Int} {x : Iv} (h : x.nearB B) : x.fair.nearB B := by
  unfold Iv.fair
  split
  · exact h
  · exact Iv.nearB_none B
theorem Iv.nearB_make {B : Int} {lo hi : Num} (h : lo.nearB B) (k : hi.nearB B) : (Iv.make lo hi).nearB B := by
  rw [Iv.make_eq]
  exact Iv.nearB_fair (x := ⟨false, lo.fair, hi.fair⟩) ⟨Num.nearB_fair h, Num.nearB_fair k⟩
theorem Iv.nearB_neg {B : Int} {x : Iv} (h : x.nearB B) : (Iv.neg x).nearB B := by
  unfold Iv.neg
  split
  · exact Iv.nearB_none B
  · exact Iv.nearB_make (Num.nearB_opp h.2) (Num.nearB_opp h.1)
theorem Iv.nearB_add {B : Int} {x y : Iv} (fx : x.lo.ok ∧ x.hi.ok) (fy : y.lo.ok ∧ y.hi.ok) (nx : x.nearB B) (ny : y.nearB B) (h0 : 0 ≤ B) (hB : B ≤ 900000) : (Iv.add [x, y]).nearB (B + 130) := by
  rw [← Iv.radds_eq]
  have ax := Iv.fair_oks fx.1 fx.2
  have ay := Iv.fair_oks fy.1 fy.2
  have bx := Iv.nearB_fair nx
  have bY := Iv.nearB_fair ny
  unfold Iv.radds
  split
  · exact Iv.nearB_none _
  · exact Iv.nearB_make (add_nearB ax.1 ay.1 bx.1 bY.1 h0 hB _) (add_nearB ax.2 ay.2 bx.2 bY.2 h0 hB _)
theorem Iv.nearB_sub {B : Int} {x y : Iv} (fx : x.lo.ok ∧ x.hi.ok) (fy : y.lo.ok ∧ y.hi.ok) (nx : x.nearB B) (ny : y.nearB B) (h0 : 0 ≤ B) (hB : B ≤ 900000) : (Iv.sub x y).nearB (B + 130) :=
  Iv.nearB_add fx (Iv.neg_ok fy.1 fy.2) nx (Iv.nearB_neg ny) h0 hB
theorem Num.nearB_most {B : Int} {a b : Num} (oa : a.ok) (ob : b.ok) (na : a.nearB B) (nb : b.nearB B) : (Num.most [a, b]).nearB B := by
  have s := Num.most_spec [a, b] (by simp; exact ⟨oa, ob⟩)
  rcases s.2.2.2 with e | ⟨x, hx, e⟩
  · rw [e]; exact Num.nearB_inf _ _
  · simp only [List.mem_cons, List.not_mem_nil, or_false] at hx
    rcases hx with rfl | rfl
    · rw [e]; exact Num.nearB_fair na
    · rw [e]; exact Num.nearB_fair nb
theorem Num.nearB_least {B : Int} {a b : Num} (oa : a.ok) (ob : b.ok) (na : a.nearB B) (nb : b.nearB B) : (Num.least [a, b]).nearB B := by
  have s := Num.least_spec [a, b] (by simp; exact ⟨oa, ob⟩)
  rcases s.2.2.2 with e | ⟨x, hx, e⟩
  · rw [e]; exact Num.nearB_inf _ _
  · simp only [List.mem_cons, List.not_mem_nil, or_false] at hx
    rcases hx with rfl | rfl
    · rw [e]; exact Num.nearB_fair na
    · rw [e]; exact Num.nearB_fair nb
theorem Iv.nearB_meet {B : Int} {x y : Iv} (fx : x.lo.ok ∧ x.hi.ok) (fy : y.lo.ok ∧ y.hi.ok) (nx : x.nearB B) (ny : y.nearB B) : (Iv.meet [x, y]).nearB B := by
  rw [← Iv.rmeet_eq]
  have ax := Iv.fair_oks fx.1 fx.2
  have ay := Iv.fair_oks fy.1 fy.2
  have bx := Iv.nearB_fair nx
  have bY := Iv.nearB_fair ny
  unfold Iv.rmeet
  split
  · exact Iv.nearB_none _
  · exact Iv.nearB_make (Num.nearB_most ax.1 ay.1 bx.1 bY.1) (Num.nearB_least ax.2 ay.2 bx.2 bY.2)
def Num.few (n : Num) : Bool := decide (n.kind ≠ 1) || (decide (-1500 ≤ n.e) && decide (n.e ≤ 1500))
def Iv.few (x : Iv) : Bool := x.lo.few && x.hi.few
theorem Num.nearB_few {n : Num} (h : n.few = true) : n.nearB 1500 := by
  intro k
  unfold Num.few at h
  simpa [k] using h
theorem Iv.nearB_few {x : Iv} (h : x.few = true) : x.nearB 1500 := by
  unfold Iv.few at h
  simp only [Bool.and_eq_true] at h
  exact ⟨Num.nearB_few h.1, Num.nearB_few h.2⟩
end Go.Proofs.YtoghalnnmhpfmaaGreat.Ev

/- Contracts of the reference: what is left of the operands of sums. Printed by gen.py. -/
namespace Go.Proofs.YtoghalnnmhpfmaaGreat.Ev
open Go Go.Proofs
set_option linter.unusedVariables false
set_option linter.unusedSimpArgs false

theorem Iv.near_of {x : Iv} {B : Int} (h : x.nearB B) (hB : B ≤ 50000) : x.near := ⟨fun k => by have := h.1 k; omega, fun k => by have := h.2 k; omega⟩

theorem c_r10Plus (z : Iv) (hz : z.fit) (nz : z.nearB 1500) (x : Iv) (hx : x.fit) (nx : x.nearB 1500) (y : Iv) (hy : y.fit) (ny : y.nearB 1500) : ∃ t : Iv × Iv, t = bkPlus z x y ∧ CallsA Tryz.prog 10 [z.av, x.av, y.av] (.tup [t.1.av, t.2.av]) := by
  refine ⟨_, rfl, ?_⟩
  unfold bkPlus
  generalize hr : ((Iv.meet [x, Iv.sub z y], Iv.meet [y, Iv.sub z (Iv.meet [x, Iv.sub z y])]) : Iv × Iv) = r
  have Nz := Iv.near_of nz (by decide)
  have Nx := Iv.near_of nx (by decide)
  have Ny := Iv.near_of ny (by decide)
  have f1 : (Iv.sub z y).fit := Iv.sub_fit hz hy
  have f2 : (Iv.meet [x, Iv.sub z y]).fit := Iv.meet2_ok hx f1
  have f3 : (Iv.sub z (Iv.meet [x, Iv.sub z y])).fit := Iv.sub_fit hz f2
  have N2 : (Iv.meet [x, Iv.sub z y]).near := Iv.near_of (Iv.nearB_meet hx f1 (nx.mono (by decide : (1500 : Int) ≤ 1500 + 130)) (Iv.nearB_sub hz hy nz ny (by decide) (by decide))) (by decide)
  clear nz nx ny
  refine callsA_of hG hm Tryz.func10 (by kernel_rfl) ?_
  intro E hE lp hl'
  cbv
  (apply E_pcallX hE (c_r9Sub ⟨_, ⟨_, _, _, _⟩, ⟨_, _, _, _⟩⟩ ⟨_, ⟨_, _, _, _⟩, ⟨_, _, _, _⟩⟩ ?_ ?_ ?_ ?_); (case hm => rfl); (case hle => exact u_up); all_goals (first | (intro s hs; cbv) | (first | exact hz | exact hy | exact Nz | exact Ny)))
  replace hs : s = Iv.sub z y := hs
  rw [← hs] at f1 f2 f3 N2 hr
  (apply E_pcallX hE (c_r8Two ⟨_, ⟨_, _, _, _⟩, ⟨_, _, _, _⟩⟩ ⟨_, ⟨_, _, _, _⟩, ⟨_, _, _, _⟩⟩ ?_ ?_); (case hm => rfl); (case hle => exact u_up); all_goals (first | (intro a ha; cbv) | (first | exact hx | exact f1)))
  replace ha : a = Iv.meet [x, s] := ha
  rw [← ha] at f2 f3 N2 hr
  (apply E_pcallX hE (c_r9Sub ⟨_, ⟨_, _, _, _⟩, ⟨_, _, _, _⟩⟩ ⟨_, ⟨_, _, _, _⟩, ⟨_, _, _, _⟩⟩ ?_ ?_ ?_ ?_); (case hm => rfl); (case hle => exact u_up); all_goals (first | (intro u hu; cbv) | (first | exact hz | exact f2 | exact Nz | exact N2)))
  replace hu : u = Iv.sub z a := hu
  rw [← hu] at f3 hr
  (apply E_pcallX hE (c_r8Two ⟨_, ⟨_, _, _, _⟩, ⟨_, _, _, _⟩⟩ ⟨_, ⟨_, _, _, _⟩, ⟨_, _, _, _⟩⟩ ?_ ?_); (case hm => rfl); (case hle => exact u_up); all_goals (first | (intro b hb; cbv) | (first | exact hy | exact f3)))
  replace hb : b = Iv.meet [y, u] := hb
  rw [← hb] at hr
  rw [← hr]; exact ⟨⟨rfl, rfl, rfl, rfl, rfl, rfl, rfl, rfl, rfl, trivial⟩, ⟨rfl, rfl, rfl, rfl, rfl, rfl, rfl, rfl, rfl, trivial⟩, trivial⟩

theorem c_r10Minus (z : Iv) (hz : z.fit) (nz : z.nearB 1500) (x : Iv) (hx : x.fit) (nx : x.nearB 1500) (y : Iv) (hy : y.fit) (ny : y.nearB 1500) : ∃ t : Iv × Iv, t = bkMinus z x y ∧ CallsA Tryz.prog 12 [z.av, x.av, y.av] (.tup [t.1.av, t.2.av]) := by
  refine ⟨_, rfl, ?_⟩
  unfold bkMinus
  generalize hr : ((Iv.meet [x, Iv.add [z, y]], Iv.meet [y, Iv.sub (Iv.meet [x, Iv.add [z, y]]) z]) : Iv × Iv) = r
  have Nz := Iv.near_of nz (by decide)
  have Nx := Iv.near_of nx (by decide)
  have Ny := Iv.near_of ny (by decide)
  have f1 : (Iv.add [z, y]).fit := Iv.add2_ok hz hy
  have f2 : (Iv.meet [x, Iv.add [z, y]]).fit := Iv.meet2_ok hx f1
  have f3 : (Iv.sub (Iv.meet [x, Iv.add [z, y]]) z).fit := Iv.sub_fit f2 hz
  have N2 : (Iv.meet [x, Iv.add [z, y]]).near := Iv.near_of (Iv.nearB_meet hx f1 (nx.mono (by decide : (1500 : Int) ≤ 1500 + 130)) (Iv.nearB_add hz hy nz ny (by decide) (by decide))) (by decide)
  clear nz nx ny
  refine callsA_of hG hm Tryz.func12 (by kernel_rfl) ?_
  intro E hE lp hl'
  cbv
  (apply E_pcallX hE (c_r9Two ⟨_, ⟨_, _, _, _⟩, ⟨_, _, _, _⟩⟩ ⟨_, ⟨_, _, _, _⟩, ⟨_, _, _, _⟩⟩ ?_ ?_ ?_ ?_); (case hm => rfl); (case hle => exact u_up); all_goals (first | (intro s hs; cbv) | (first | exact hz | exact hy | exact Nz | exact Ny)))
  replace hs : s = Iv.add [z, y] := hs
  rw [← hs] at f1 f2 f3 N2 hr
  (apply E_pcallX hE (c_r8Two ⟨_, ⟨_, _, _, _⟩, ⟨_, _, _, _⟩⟩ ⟨_, ⟨_, _, _, _⟩, ⟨_, _, _, _⟩⟩ ?_ ?_); (case hm => rfl); (case hle => exact u_up); all_goals (first | (intro a ha; cbv) | (first | exact hx | exact f1)))
  replace ha : a = Iv.meet [x, s] := ha
  rw [← ha] at f2 f3 N2 hr
  (apply E_pcallX hE (c_r9Sub ⟨_, ⟨_, _, _, _⟩, ⟨_, _, _, _⟩⟩ ⟨_, ⟨_, _, _, _⟩, ⟨_, _, _, _⟩⟩ ?_ ?_ ?_ ?_); (case hm => rfl); (case hle => exact u_up); all_goals (first | (intro u hu; cbv) | (first | exact f2 | exact hz | exact N2 | exact Nz)))
  replace hu : u = Iv.sub a z := hu
  rw [← hu] at f3 hr
  (apply E_pcallX hE (c_r8Two ⟨_, ⟨_, _, _, _⟩, ⟨_, _, _, _⟩⟩ ⟨_, ⟨_, _, _, _⟩, ⟨_, _, _, _⟩⟩ ?_ ?_); (case hm => rfl); (case hle => exact u_up); all_goals (first | (intro b hb; cbv) | (first | exact hy | exact f3)))
  replace hb : b = Iv.meet [y, u] := hb
  rw [← hb] at hr
  rw [← hr]; exact ⟨⟨rfl, rfl, rfl, rfl, rfl, rfl, rfl, rfl, rfl, trivial⟩, ⟨rfl, rfl, rfl, rfl, rfl, rfl, rfl, rfl, rfl, trivial⟩, trivial⟩

end Go.Proofs.YtoghalnnmhpfmaaGreat.Ev

/- Contracts: are exponents near nought? Printed by gen.py. -/
namespace Go.Proofs.YtoghalnnmhpfmaaGreat.Ev
open Go Go.Proofs
set_option linter.unusedVariables false
set_option linter.unusedSimpArgs false

theorem c_few6 (n : Num)  : ∃ t : Bool, t = n.few ∧ CallsA Tryz.prog 32 [n.av] (.bool (.s t)) := by
  refine ⟨_, rfl, ?_⟩
  generalize hr : n.few = r
  refine callsA_of hG hm Tryz.func32 (by kernel_rfl) ?_
  intro E hE lp hl
  cbv
  repeat' (first
    | (refine E_br hE (fun h => ?_) (fun h => ?_) <;> cbv)
    | (refine E_nm hE (fun v hv => ?_); cbv)
    | fail)
  all_goals (subst hE; subst hr)
  all_goals (try simp only [realE, cmp_eql, cmp_neq, cmp_lss, cmp_leq, cmp_gtr, cmp_geq, intBinR, decide_eq_true_eq, decide_eq_false_iff_not, SI.val, SB.val, Num.eta, Iv.eta] at *)
  all_goals (try simp_all [Num.few])
  all_goals (try omega)
  all_goals (try simp only [Bool.and_assoc])
  all_goals (try rfl)
  all_goals ((repeat' split) <;> (try simp_all) <;> (try omega))

theorem c_few8 (x : Iv)  : ∃ t : Bool, t = x.few ∧ CallsA Tryz.prog 8 [x.av] (.bool (.s t)) := by
  refine ⟨_, rfl, ?_⟩
  generalize hr : x.few = r
  refine callsA_of hG hm Tryz.func8 (by kernel_rfl) ?_
  intro E hE lp hl
  cbv
  repeat' (first
    | (refine E_br hE (fun h => ?_) (fun h => ?_) <;> cbv)
    | (refine E_nm hE (fun v hv => ?_); cbv)
    | (apply E_callX hE (c_few6 ⟨_, _, _, _⟩); (case hf => rfl); (case hc => (cbv <;> trivial)); (case hle => exact u_up); intro t ht; cbv)
    | fail)
  all_goals (subst hE; subst hr)
  all_goals (try simp only [realE, cmp_eql, cmp_neq, cmp_lss, cmp_leq, cmp_gtr, cmp_geq, intBinR, decide_eq_true_eq, decide_eq_false_iff_not, SI.val, SB.val, Num.eta, Iv.eta] at *)
  all_goals (try simp_all [Iv.few])
  all_goals (try omega)
  all_goals (try simp only [Bool.and_assoc])
  all_goals (try rfl)
  all_goals ((repeat' split) <;> (try simp_all) <;> (try omega))

end Go.Proofs.YtoghalnnmhpfmaaGreat.Ev

/- Contracts: the law of what is left of the operands of sums and differences. Printed by gen.py. -/
namespace Go.Proofs.YtoghalnnmhpfmaaGreat.Ev
open Go Go.Proofs
set_option linter.unusedVariables false
set_option linter.unusedSimpArgs false

set_option maxRecDepth 10000 in
theorem c_BackSums (z : Iv) (hz : z.fit) (x : Iv) (hx : x.fit) (y : Iv) (hy : y.fit) : ∃ t : Bool, t = true ∧ CallsA Tryz.prog 3 [z.av, x.av, y.av] (.bool (.s t)) := by
  refine ⟨_, rfl, ?_⟩
  refine callsA_of hG hm Tryz.func3 (by kernel_rfl) ?_
  intro E hE lp hl'
  cbv
  (apply E_callX hE (c_awakeB); (case hf => rfl); (case hc => (cbv <;> trivial)); (case hle => exact u_up); all_goals (first | (intro u hu; cbv) | (assumption)))
  (apply E_callX hE (c_few8 ⟨_, ⟨_, _, _, _⟩, ⟨_, _, _, _⟩⟩); (case hf => rfl); (case hc => (cbv <;> trivial)); (case hle => exact u_up); all_goals (first | (intro p hp; cbv) | (assumption)))
  (apply E_callX hE (c_few8 ⟨_, ⟨_, _, _, _⟩, ⟨_, _, _, _⟩⟩); (case hf => rfl); (case hc => (cbv <;> trivial)); (case hle => exact u_up); all_goals (first | (intro q hq; cbv) | (assumption)))
  (apply E_callX hE (c_few8 ⟨_, ⟨_, _, _, _⟩, ⟨_, _, _, _⟩⟩); (case hf => rfl); (case hc => (cbv <;> trivial)); (case hle => exact u_up); all_goals (first | (intro w hw; cbv) | (assumption)))
  refine E_br_f hE (by subst hE; show (!u) = false; rw [show u = true from hu]; rfl) ?_
  cbv
  refine E_br hE (fun g1 => ?_) (fun g1 => ?_) <;> cbv
  · exact hu
  have nx : x.nearB 1500 := Iv.nearB_few (by rw [← show p = x.few from hp]; subst hE; have k : (!p) = false := g1; simpa using k)
  refine E_br hE (fun g2 => ?_) (fun g2 => ?_) <;> cbv
  · exact hu
  have ny : y.nearB 1500 := Iv.nearB_few (by rw [← show q = y.few from hq]; subst hE; have k : (!q) = false := g2; simpa using k)
  refine E_br hE (fun g3 => ?_) (fun g3 => ?_) <;> cbv
  · exact hu
  have nz : z.nearB 1500 := Iv.nearB_few (by rw [← show w = z.few from hw]; subst hE; have k : (!w) = false := g3; simpa using k)
  clear hp hq hw g1 g2 g3
  (apply E_callX hE (k_bkPlus ⟨_, ⟨_, _, _, _⟩, ⟨_, _, _, _⟩⟩ ?_ ⟨_, ⟨_, _, _, _⟩, ⟨_, _, _, _⟩⟩ ?_ ⟨_, ⟨_, _, _, _⟩, ⟨_, _, _, _⟩⟩ ?_); (case hf => rfl); (case hc => (cbv <;> trivial)); (case hle => exact u_up); all_goals (first | (rintro p1 ⟨hp1, op1⟩; cbv) | (first | exact hz | exact hx | exact hy)))
  (apply E_callX hE (c_r10Plus ⟨_, ⟨_, _, _, _⟩, ⟨_, _, _, _⟩⟩ ?_ ?_ ⟨_, ⟨_, _, _, _⟩, ⟨_, _, _, _⟩⟩ ?_ ?_ ⟨_, ⟨_, _, _, _⟩, ⟨_, _, _, _⟩⟩ ?_ ?_); (case hf => rfl); (case hc => (cbv <;> trivial)); (case hle => exact u_up); all_goals (first | (intro q1 hq1; cbv) | (first | exact hz | exact hx | exact hy | exact nz | exact nx | exact ny)))
  have Ep1 : p1 = q1 := hp1.trans hq1.symm
  clear hp1 hq1
  (apply E_callX hE (k_bkMinus ⟨_, ⟨_, _, _, _⟩, ⟨_, _, _, _⟩⟩ ?_ ⟨_, ⟨_, _, _, _⟩, ⟨_, _, _, _⟩⟩ ?_ ⟨_, ⟨_, _, _, _⟩, ⟨_, _, _, _⟩⟩ ?_); (case hf => rfl); (case hc => (cbv <;> trivial)); (case hle => exact u_up); all_goals (first | (rintro p2 ⟨hp2, op2⟩; cbv) | (first | exact hz | exact hx | exact hy)))
  (apply E_callX hE (c_r10Minus ⟨_, ⟨_, _, _, _⟩, ⟨_, _, _, _⟩⟩ ?_ ?_ ⟨_, ⟨_, _, _, _⟩, ⟨_, _, _, _⟩⟩ ?_ ?_ ⟨_, ⟨_, _, _, _⟩, ⟨_, _, _, _⟩⟩ ?_ ?_); (case hf => rfl); (case hc => (cbv <;> trivial)); (case hle => exact u_up); all_goals (first | (intro q2 hq2; cbv) | (first | exact hz | exact hx | exact hy | exact nz | exact nx | exact ny)))
  have Ep2 : p2 = q2 := hp2.trans hq2.symm
  clear hp2 hq2
  refine E_br_t hE ((ivEq_of hE p1.1 q1.1).trans (decide_eq_true (by rw [Ep1]))) ?_
  cbv
  refine E_br_t hE ((ivEq_of hE p1.2 q1.2).trans (decide_eq_true (by rw [Ep1]))) ?_
  cbv
  refine E_br_t hE ((ivEq_of hE p2.1 q2.1).trans (decide_eq_true (by rw [Ep2]))) ?_
  cbv
  exact (ivEq_of hE p2.2 q2.2).trans (decide_eq_true (by rw [Ep2]))

end Go.Proofs.YtoghalnnmhpfmaaGreat.Ev
